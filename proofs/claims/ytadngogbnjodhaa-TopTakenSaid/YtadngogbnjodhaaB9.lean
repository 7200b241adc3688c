/- TopTaken: the walk. -/
import Derived.Test.YtadngogbnjodhaaB8
import Derived.Deep.RegionHeld3
namespace Go.Proofs.Ytadngogbnjodhaa
open Go.RowKit
def enc8 (n : UInt8) : List Value := [.int .u8 (n.toNat : Int)]
theorem top_start {w w4 w5 w6 w7 : World} {c q : Nat} {K : TK} {s : Wk} {l : List Sv} (hx : VecAt w4 w.heap.size 24 s.enc) (hf : Frm (fun _ => False) w w4) (hw5 : w5 = w4.alloc (.cells #[.int .i64 s.prio, .int .u64 s.cost, .int .u64 s.per, .int .u64 s.dead] 24))
    (h : Half w5 c q K l l.length w6) (hw7 : w7 = w6.alloc (.cells (vals 301 fun _ => .int .u64 0).toArray 22)) : ∃ C, TAt w w7 c w6.heap.size w.heap.size K C s (fun _ => 0) ∧ TakeI l C (fun _ => 0) 0 := by
  obtain ⟨tau, vt, vs, L, h1, h2, -, h4⟩ := h
  have f45 : Frm (fun _ => False) w4 w5 := by rw [hw5]; exact (Frm.refl _ w4).alloc _
  have f67 : Frm (fun _ => False) w6 w7 := by rw [hw7]; exact (Frm.refl _ w6).alloc _
  have s1 := hf.size
  have s2 := hx.lt
  have s3 := f45.size
  have s4 := h4.size
  refine ⟨_, ⟨(h1.mono fun k hk hh => (⟨by omega, by omega, by omega⟩ : Tr w w6.heap.size w.heap.size k)).keep f67, ((hf.trans f45).trans h4).trans f67, ?_, (hx.keep ((f45.trans h4).trans f67)), ⟨by omega, by omega, by omega⟩⟩, TakeI.start h2⟩
  rw [hw7]
  exact VecAt.new w6 22 _
def ofWk (s : Wk) : TK := ⟨s.prio.toNat, s.cost.toNat, s.per.toNat, s.dead.toNat⟩
theorem ofWk_ok {s : Wk} (h : s.ok) : (ofWk s).ok ∧ Wk.nat (ofWk s) = s ∧ s.cost = (ofWk s).C := by
  obtain ⟨prio, cost, per, dead⟩ := s
  unfold Wk.ok at h
  simp only at h
  refine ⟨by unfold TK.ok ofWk; simp only; omega, ?_, by simp only [ofWk]; omega⟩
  unfold Wk.nat ofWk
  simp only [Wk.mk.injEq]
  omega
theorem wake_m {w wr : World} {c u x : Nat} {K : TK} {C : CS} {s : Wk} {Z : Nat → Nat} {l : List Sv} {t : Nat} (h : TAt w wr c u x K C s Z) (hI : TakeI l C Z t) (hl : 0 < l.length) (z : Nat) :
    Calls Try.prog 9 #[.pointer (some ⟨c, 0, none⟩), .int .i64 ((z : Int) % (l.length : Int)), .int .u64 ((z : Int) % 9)] wr fun e w' => e = .returned (.int .i64 0) ∧ ∃ C', TAt w w' c u x K C' s Z ∧ TakeI l C' Z t := by
  have hm := Nat.mod_lt z hl
  have hlen := hI.2.2.1.1
  obtain ⟨v, hv⟩ : ∃ v, C.L[z % l.length]? = some v := ⟨_, List.getElem?_eq_getElem (by omega)⟩
  exact (wake_t h hv (n := z % 9) (by have := Nat.mod_lt z (show 0 < 9 by decide); omega)).mono fun _ _ ⟨he, m, h1⟩ => ⟨he, _, h1, hI.wake hv⟩
set_option maxRecDepth 100000 in
set_option maxHeartbeats 4000000 in
theorem top_c (w : World) (s : Wk) (A : Option Addr) (ca : Nat) (l : List Sv) (hl : RowsAt w A 2 Sv.enc l) (hp : ∀ (i : Nat) (x : Sv), l[i]? = some x → 0 ≤ x.per ∧ x.per ≤ 18446744073709551615)
    (B : Option Addr) (cb : Nat) (lb : List UInt8) (hb : RowsAt w B 1 enc8 lb) :
    Calls Try.prog 3 #[.agg #[.int .i64 s.prio, .int .u64 s.cost, .int .u64 s.per, .int .u64 s.dead], .slice A l.length ca, .slice B lb.length cb] w fun e w' => e = .returned (.bool true) ∧ Frm (fun _ => False) w w' := by
  have HL := Lib.hid hl
  have HP := Lib.hid hp
  have HB := Lib.hid hb
  clear hl hp hb
  go_enter Try.func3, Try.ntmps3
  go_wp2_with fail
  refine calls_as fun w1 hw1 => ?_
  have hx1 : VecAt w1 w.heap.size 24 s.enc := by rw [hw1]; exact VecAt.new w 24 s.enc
  have hf1 : Frm (fun _ => False) w w1 := by rw [hw1]; exact (Frm.refl _ w).alloc _
  clear hw1
  with_reducible refine (runs_c w1).mono ?_
  rintro e w2 ⟨rfl, hf2⟩
  have hx2 := hx1.keep hf2
  have F2 := Lib.hid (hf1.trans hf2)
  have HX2 := Lib.hid hx2
  have x0 := hx2.cell (i := 0) rfl
  have x1 := hx2.cell (i := 1) rfl
  have x2 := hx2.cell (i := 2) rfl
  have x3 := hx2.cell (i := 3) rfl
  clear hx1 hf1 hx2 hf2
  go_wp2_with fail
  with_reducible refine (wmay_c w2 s).mono ?_
  rintro e w3 ⟨⟨b1, rfl, hb1⟩, hf3⟩
  have F3 := Lib.hid (F2.out.trans hf3)
  have HX3 := Lib.hid (HX2.out.keep hf3)
  clear hf3 x0 x1 x2 x3 HX2
  cases b1
  · clear hb1
    go_wp2_with fail
    go_ret
    exact ⟨rfl, F3.out⟩
  obtain ⟨kok, kn, kc⟩ := ofWk_ok (hb1 rfl)
  generalize ofWk s = K at kok kn kc
  have KOK := Lib.hid kok
  have KC := Lib.hid kc
  have KN := Lib.hid kn
  clear hb1 kok kn kc
  have HLO := Lib.hid (loads_c w3 A ca l (HL.out.via F3.out (fun _ _ _ => id)) HP.out)
  go_wp2_with fail
  with_reducible refine HLO.out.mono ?_
  rintro e w4 ⟨⟨b2, rfl, hb2⟩, hf4⟩
  have F4 := Lib.hid (F3.out.trans hf4)
  have HX4 := Lib.hid (HX3.out.keep hf4)
  clear hf4 HLO F3 HX3 F2
  cases b2
  · clear hb2
    go_wp2_with fail
    go_ret
    exact ⟨rfl, F4.out⟩
  have HF := Lib.hid (hb2 rfl)
  clear hb2
  by_cases h1 : l.length = 0
  · have e1 : ((l.length : Int) == 0) = true := by simpa using h1
    go_wp2_with fail
    go_ret
    exact ⟨rfl, F4.out⟩
  have e1 : ((l.length : Int) == 0) = false := by simpa using h1
  by_cases h2 : lb.length = 0
  · have e2 : ((lb.length : Int) == 0) = true := by simpa using h2
    go_wp2_with fail
    go_ret
    exact ⟨rfl, F4.out⟩
  have e2 : ((lb.length : Int) == 0) = false := by simpa using h2
  have x0 := HX4.out.cell (i := 0) rfl
  have x1 := HX4.out.cell (i := 1) rfl
  have x2 := HX4.out.cell (i := 2) rfl
  have x3 := HX4.out.cell (i := 3) rfl
  go_wp2_with fail
  refine calls_as fun w5 hw5 => ?_
  have hx5 : VecAt w5 w4.heap.size 24 s.enc := by rw [hw5]; exact VecAt.new w4 24 s.enc
  have hr5 : RowsAt w5 (some ⟨w4.heap.size, 0, none⟩) 4 Wk.enc [Wk.nat K] := by rw [KN.out]; exact rows_one 4 hx5
  have hf45 : Frm (fun _ => False) w4 w5 := by rw [hw5]; exact (Frm.refl _ w4).alloc _
  have HN := Lib.hid (cnew_c w5 K KOK.out w4.heap.size 0 1 hr5 A ca l (HL.out.via (F4.out.trans hf45) (fun _ _ _ => id)) HF.out)
  have HW5 := Lib.hid hw5
  clear hw5 hx5 hr5 hf45 x0 x1 x2 x3
  with_reducible refine HN.out.mono ?_
  rintro e w6 ⟨c, q, rfl, hh⟩
  have HH := Lib.hid hh
  clear hh HN
  have hmk : ∀ w : World, (Instr.makeSlice 35 (.int .i64 301) (.int .i64 301)).run Try.prog w = .ok (.slice (some ⟨w.heap.size, 0, none⟩) 301 301) (w.alloc (.cells (vals 301 fun _ => .int .u64 0).toArray 22)) := run_make_vec (P := Try.prog) 35 22 (.int .u64 0) 8 Try.underlying35 info22 rfl 301 (by omega) (by omega)
  go_wp2_with fail
  refine world_as fun w7 hw7 => ?_
  obtain ⟨C0, hT0, hI0⟩ := top_start HX4.out F4.out HW5.out HH.out hw7
  have HT0 := Lib.hid hT0
  have HI0 := Lib.hid hI0
  generalize hu : w6.heap.size = u at *
  clear hu hw7 hT0 hI0 HH HW5 HX4 F4 hmk e1 e2
  go_loopw [10] (fun i wr => ∃ (t : Nat) (C : CS) (Z : Nat → Nat), t ≤ 300 ∧ i = .int .i64 t ∧ Hid (TAt w wr c u w.heap.size K C s Z) ∧ Hid (TakeI l C Z t)) (fun i _ => 300 - (intOf i).toNat)
  case atStart => exact ⟨0, C0, _, by omega, rfl, HT0, HI0⟩
  case round =>
    obtain ⟨t, C, Z, ht, rfl, HT, HI⟩ := hrel
    clear HT0 HI0
    by_cases hlt : t < 300
    · have e1 : decide ((t : Int) < 300) = true := by simp; omega
      have hx : ∃ b, (((t : Int) % 7 == 0) = b) := ⟨_, rfl⟩
      obtain ⟨b, hx⟩ := hx
      have x1 := HT.out.box.cell (i := 1) rfl
      have hm := Nat.mod_lt t (show 0 < lb.length by omega)
      obtain ⟨b0, off0, hBe, hb0, hcb⟩ := HB.out.at_ (by omega)
      subst hBe
      obtain ⟨d, hd⟩ : ∃ d, lb[t % lb.length]? = some d := ⟨_, List.getElem?_eq_getElem hm⟩
      have y0 := hcb _ d hd 0 _ rfl
      obtain ⟨z, hz, hzd⟩ : ∃ z : Nat, d.toNat = z ∧ z < 256 := ⟨_, rfl, d.toNat_lt⟩
      simp only [hz, Nat.mul_one, Nat.add_zero] at y0
      have HY := Lib.hid y0
      clear hcb hd hz y0
      have hm2 := Nat.mod_lt z (show 0 < l.length by omega)
      have hl0 : 0 < l.length := by omega
      cases b
      case' true =>
        go_wp2_with fail
        with_reducible refine (rel_t HT.out KC.out).mono ?_
        rintro e w8 ⟨r8, C8, rfl, k1, k2, k3⟩
        have H8 := Lib.hid k1
        have I8 := Lib.hid (HI.out.rel k2 k3)
        clear x1 HT HI k1 k2 k3
      case' false =>
        obtain ⟨w8, rfl⟩ : ∃ w8, w8 = wr := ⟨_, rfl⟩
        have H8 := HT
        have I8 := HI
        clear x1 HT HI
      all_goals
        have y0 := H8.out.frm.cell hb0 id HY.out
        go_wp2_with fail
        with_reducible refine (wake_m H8.out I8.out hl0 z).mono ?_
        rintro e w9 ⟨rfl, C9, k1, k2⟩
        have H9 := Lib.hid k1
        have I9 := Lib.hid k2
        clear k1 k2 H8 I8
        go_wp2_with fail
        with_reducible refine (job_t H9.out).mono ?_
        rintro e w10 ⟨j1, j2, jb, rfl, k1⟩
        have H10 := Lib.hid k1
        have hzle := I9.out.le (Nat.le_refl t)
        have h9n : C9.now < 90000 := by obtain ⟨h9, -⟩ := I9.out; omega
        clear k1 H9
        go_wp2_with fail
        with_reducible refine (tick_t H10.out h9n).mono ?_
        rintro e w11 ⟨who, A1, A2, A3, n1, n2, n3, c1, c2, c3, C11, rfl, k1, k2, k3⟩
        have H11 := Lib.hid k1
        have I11 := Lib.hid (fun Z' y => I9.out.tick (Z' := Z') (y := y) H10.out.cpu.hb k2 k3)
        clear k1 k2 k3 H10 I9
        have hzt : ∀ X, (w11.alloc X).cell? ⟨u, t, none⟩ = some (.int .u64 (Z t : Nat)) := fun X => (H11.out.keep ((Frm.refl _ _).alloc X)).cell (by omega)
        have hzf : ∀ X, (w11.alloc X).frozen? ⟨u, t + 1, none⟩ = false := fun X => (H11.out.vec.alloc X).frozen _
        have hz1 : ∀ X, (w11.alloc X).cell? ⟨u, t + 1, none⟩ = some (.int .u64 (Z (t + 1) : Nat)) := fun X => (H11.out.keep ((Frm.refl _ _).alloc X)).cell (by omega)
        have H12 := Lib.hid ((H11.out.store (t + 1) (Z t)).keep ((Frm.refl _ _).alloc (.cells #[.int .i64 who, .slice A1 n1 c1, .slice A2 n2 c2, .slice A3 n3 c3] 41)))
        have hul := H11.out.vec.lt
        have hy0 : ((w11.setCell ⟨u, t + 1, none⟩ (.int .u64 (Z t : Nat))).alloc (.cells #[.int .i64 who, .slice A1 n1 c1, .slice A2 n2 c2, .slice A3 n3 c3] 41)).cell? ⟨w11.heap.size, 0, none⟩ = some (.int .i64 who) := by
          have h := VecAt.new (w11.setCell ⟨u, t + 1, none⟩ (.int .u64 (Z t : Nat))) 41 [.int .i64 who, .slice A1 n1 c1, .slice A2 n2 c2, .slice A3 n3 c3]
          rw [World.size_setCell] at h
          exact h.cell (i := 0) rfl
        have hz2 := H12.out.cell (j := t + 1) (by omega)
        rw [updN_self] at hz2
        have hzf2 := H12.out.vec.frozen (t + 1)
        have HSZ := Lib.hid (H11.out.store (t + 1) (Z t))
        clear H11
        have hzo : decide (Z t + 1 < 18446744073709551616) = true := by simp; omega
        by_cases hwho : 100 ≤ who ∧ jb = true
        · obtain ⟨g1, rfl⟩ := hwho
          have e3 : decide (100 ≤ who) = true := by simpa using g1
          have I13 := Lib.hid (I11.out (updN (updN Z (t + 1) (Z t)) (t + 1) (Z t + 1)) 1 (fun k hk => by rw [updN_other _ (by omega), updN_other _ (by omega)]) (updN_self _ _ _) ⟨by omega, fun _ => g1⟩)
          clear g1 I11
          go_wp2_with fail
          go_roundw
          case rel => exact ⟨t + 1, C11, _, by omega, by go_num, Lib.hid ((HSZ.out.store (t + 1) (Z t + 1)).keep ((Frm.refl _ _).alloc _)), I13⟩
          case measure => simp [intOf]; omega
        · have hex : decide (100 ≤ who) = false ∨ decide (100 ≤ who) = true ∧ jb = false := by
            by_cases h : 100 ≤ who
            · exact .inr ⟨by simpa using h, by cases jb <;> simp_all⟩
            · exact .inl (by simpa using h)
          have I13 := Lib.hid (I11.out (updN Z (t + 1) (Z t)) 0 (fun k hk => by rw [updN_other _ (by omega)]) (updN_self _ _ _) ⟨by omega, fun h => by omega⟩)
          clear hwho I11
          rcases hex with e3 | ⟨e3, rfl⟩
          all_goals
            go_wp2_with fail
            go_roundw
            case rel => exact ⟨t + 1, C11, _, by omega, by go_num, H12, I13⟩
            case measure => simp [intOf]; omega
    · have e1 : decide ((t : Int) < 300) = false := by simp; omega
      obtain rfl : t = 300 := by omega
      have HLAW := Lib.hid (fun (f g : Nat) (h1 : f ≤ g) (h2 : g ≤ 300) => HI.out.law HF.out h1 h2)
      have HLE := Lib.hid (fun (g : Nat) (h2 : g ≤ 300) => HI.out.le h2)
      clear HI hlt
      go_wp2_with fail
      clear e1
      go_loopw [17] (fun i wr => ∃ f : Nat, f ≤ 312 ∧ i = .int .i64 f ∧ Hid (TAt w wr c u w.heap.size K C s Z)) (fun i _ => 312 - (intOf i).toNat)
      case atStart => exact ⟨0, by omega, rfl, HT⟩
      case round =>
        obtain ⟨f, hf, rfl, HT2⟩ := hrel
        clear HT
        by_cases hlt : f < 300
        · have e1 : decide ((f : Int) < 300) = true := by simp; omega
          go_wp2_with fail
          clear e1
          go_loopw [18] (fun i wr => ∃ g : Nat, f ≤ g ∧ g ≤ 317 ∧ i = .int .i64 g ∧ Hid (TAt w wr c u w.heap.size K C s Z)) (fun i _ => 317 - (intOf i).toNat)
          case atStart => exact ⟨f, by omega, by omega, rfl, HT2⟩
          case round =>
            obtain ⟨g, hfg, hg, rfl, HT3⟩ := hrel
            clear HT2
            by_cases hlg : g ≤ 300
            · have e1 : decide ((g : Int) ≤ 300) = true := by simp; omega
              have x1 := HT3.out.cell (j := g) (by omega)
              have x2 := HT3.out.cell (j := f) (by omega)
              have hul := HT3.out.vec.lt
              obtain ⟨z1, z2⟩ := HLAW.out f g hfg hlg
              have z3 := HLE.out g hlg
              have HE0 := extra_c wr.drew A ca l (HL.out.via (HT3.out.frm.trans (Frm.refl _ wr).drew) (fun _ _ _ => id)) HF.out (g - f) (by omega)
              obtain ⟨dd, hdd⟩ : ∃ dd, g - f = dd := ⟨_, rfl⟩
              rw [hdd] at HE0 z2
              generalize min dd (takenN l dd) = m at HE0 z2
              have HE := Lib.hid HE0
              have hgf : (g : Int) - (f : Int) = (dd : Int) := by omega
              obtain ⟨zz, hzz0⟩ : ∃ zz, Z g - Z f = zz := ⟨_, rfl⟩
              have hzz : ((Z g : Nat) : Int) - ((Z f : Nat) : Int) = (zz : Int) := by omega
              rw [hzz0] at z2
              have hzz3 : zz ≤ 300 := by omega
              have hdd3 : dd ≤ 300 := by omega
              have e2 : decide (m < zz) = false := by simp; omega
              have hw1 : IntKind.i64.wrap (dd : Int) = dd := IntWalk.i64_in _ (by omega)
              have hw2 : IntKind.u64.wrap (dd : Int) = dd := u64_small _ (by omega)
              have hw3 : IntKind.u64.wrap (zz : Int) = zz := u64_small _ (by omega)
              have D0 : Hid (wr.drew.cell? ⟨u, g, none⟩ = some (.int .u64 (Z g : Nat)) ∧ wr.drew.cell? ⟨u, f, none⟩ = some (.int .u64 (Z f : Nat))) := Lib.hid ⟨(Frm.refl (fun _ => False) wr).drew.cell hul id x1, (Frm.refl (fun _ => False) wr).drew.cell hul id x2⟩
              have hul2 : u < wr.drew.heap.size := lt_of_cell D0.out.1
              have H0 := Lib.hid (HT3.out.keep (Frm.refl (fun _ => False) wr).drew)
              have hi1 : (0 : Int) ≤ (g : Int) := by omega
              have hi2 : (g : Int) < 301 := by omega
              have hi3 : (g : Int) ≤ 301 := by omega
              have hi4 : (0 : Int) ≤ (f : Int) := by omega
              have hi5 : (f : Int) < 301 := by omega
              have hi6 : (f : Int) ≤ 301 := by omega
              have hi7 : g < 301 := by omega
              have hi8 : f < 301 := by omega
              clear HE0 z1 z2 hzz0 hdd x1 x2 HT3
              go_wp2_with fail
              go_region_held3 (fun w' => w'.cell? ⟨u, g, none⟩ = some (.int .u64 (Z g : Nat)) ∧ w'.cell? ⟨u, f, none⟩ = some (.int .u64 (Z f : Nat)))
                (first | exact D0.out | exact D5.out)
                (first
                  | (go_at_call 12; (with_reducible refine HE.out.mono ?_); rintro e w3 ⟨rfl, hf3⟩; have D5 : Hid (w3.cell? ⟨u, g, none⟩ = some (.int .u64 (Z g : Nat)) ∧ w3.cell? ⟨u, f, none⟩ = some (.int .u64 (Z f : Nat))) := Lib.hid ⟨hf3.cell hul2 id D0.out.1, hf3.cell hul2 id D0.out.2⟩; have H3 := Lib.hid (H0.out.keep hf3); clear hf3))
              all_goals
                go_wp2_with fail
                go_roundw
                case rel => (repeat apply Exists.intro); exact ⟨⟨g + 17, by omega, by omega, by go_num, H3⟩, rfl⟩
                case measure => simp [intOf]; omega
            · have e1 : decide ((g : Int) ≤ 300) = false := by simp; omega
              go_wp2_with fail
              go_roundw
              case rel => exact ⟨f + 13, by omega, by go_num, HT3⟩
              case measure => simp [intOf]; omega
        · have e1 : decide ((f : Int) < 300) = false := by simp; omega
          go_wp2_with fail
          go_ret
          exact ⟨rfl, HT2.out.frm⟩
end Go.Proofs.Ytadngogbnjodhaa
