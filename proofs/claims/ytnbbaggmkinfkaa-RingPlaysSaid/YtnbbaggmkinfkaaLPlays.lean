/- RingPlays: the walk. -/
import Derived.Test.YtnbbaggmkinfkaaBoth
import Derived.Deep.DeepCutAuto
import Derived.Deep.CutBlock
namespace Go.Proofs.Ytnbbaggmkinfkaa
open Go.RowKit
set_option maxRecDepth 100000 in
theorem plays_bad (w : World) (a : Int) (A : Option Addr) (n c : Nat) (ha : a < 1 ∨ 64 < a) :
    Calls Try.prog 7 #[.int .i64 a, .slice A n c] w fun e w' => e = .returned (.bool true) ∧ Frm (fun _ => False) w w' := by
  rcases ha with ha | ha
  · have hd : decide (a < 1) = true := by simpa using ha
    go_enter Try.func7, Try.ntmps7
    go_wp2_with fail
    refine (awake_c w).mono ?_
    rintro e w1 ⟨rfl, hf⟩
    go_wp2_with fail
    refine (new_bad w1 a (.inl ha)).mono ?_
    rintro e w2 ⟨rfl, rfl⟩
    go_wp2_with fail
    go_ret
    exact ⟨rfl, hf⟩
  · have hd : decide (a < 1) = false := by simp; omega
    have hd2 : decide (64 < a) = true := by simpa using ha
    go_enter Try.func7, Try.ntmps7
    go_wp2_with fail
    refine (awake_c w).mono ?_
    rintro e w1 ⟨rfl, hf⟩
    go_wp2_with fail
    refine (new_bad w1 a (.inr ha)).mono ?_
    rintro e w2 ⟨rfl, rfl⟩
    go_wp2_with fail
    go_ret
    exact ⟨rfl, hf⟩
set_option maxRecDepth 100000 in
set_option maxHeartbeats 8000000 in
theorem plays_ok (w : World) (n : Nat) (h1 : 1 ≤ n) (h2 : n ≤ 64) (A : Option Addr) (c : Nat) (l : List DoM) (hl : RowsAt w A 12 DoM.enc l) :
    Calls Try.prog 7 #[.int .i64 n, .slice A l.length c] w fun e w' => e = .returned (.bool true) ∧ Frm (fun _ => False) w w' := by
  have hd : decide ((n : Int) < 1) = false := by simp; omega
  have hd2 : decide (64 < (n : Int)) = false := by simp; omega
  have HL := Lib.hid hl
  have hlen := hl.len
  clear hl
  go_enter Try.func7, Try.ntmps7
  go_wp2_with fail
  refine (awake_c w).mono ?_
  rintro e w1 ⟨rfl, hf1⟩
  go_wp2_with fail
  refine (new_ok w1 n h1 h2).mono ?_
  rintro e w2 ⟨rfl, hr2, hf2⟩
  have s1 := hf1.size
  have l2 := hr2.lt
  have H2 : Hid (Both w (w2.alloc (.cells #[.int .i64 n, .slice none 0 0, .int .i64 0, .int .i64 0] 57)) (w1.heap.size + 1) w1.heap.size w2.heap.size (w2.heap.size + 1) n [] 0 0 [] 0 0) := by
    refine ⟨by omega, by omega, ((hf1.trans hf2).alloc _).of_none, ⟨_, hr2.alloc _⟩, ⟨.slice none 0 0, by simp, ⟨h1, h2⟩, by simp, heap_alloc_new _ _, by simpa [lcells] using World.ownsRow_nil _ _ _ _, by simp⟩⟩
  clear hr2 hf2 hf1
  generalize hpp : w1.heap.size + 1 = p at *
  generalize hbb : w1.heap.size = b at *
  clear hpp hbb
  go_wp2_with fail
  generalize hgg : w2.heap.size = g at *
  generalize hbs : g + 1 = base at *
  clear hgg hbs
  go_loopg [8] 150 (fun gk i wr => ∃ k : Nat, Hid (gk = 150 - k) ∧ k ≤ l.length ∧ k ≤ 150 ∧ i = .int .i64 k ∧ Later w p b g base n k wr)
  case atStart => exact ⟨0, Lib.hid rfl, by omega, by omega, rfl, _, _, _, by simp, H2.out⟩
  case round =>
    obtain ⟨k, HK, hk, hk1, rfl, L, t, r, hLk, hA⟩ := hrel
    have HA := Lib.hid hA
    clear hA H2
    by_cases hlt : k < l.length ∧ k < 150
    · obtain ⟨hl1, hl2⟩ := hlt
      have e1 : decide (k < l.length) = true := by simpa using hl1
      have e2 : decide ((k : Int) < 150) = true := by simp; omega
      obtain ⟨b0, off, hAe, hb0, hc⟩ := HL.out.at_ (by omega)
      subst hAe
      obtain ⟨o, ho⟩ : ∃ o, l[k]? = some o := ⟨_, List.getElem?_eq_getElem hl1⟩
      have hcc := fun j v hj => HA.out.frm.cell hb0 (by omega) (hc k o ho j v hj)
      obtain ⟨kind, d, no, st⟩ := o
      have x0 := hcc 0 _ rfl
      have x1 := hcc 1 _ rfl
      have x2 := hcc 2 _ rfl
      have x3 := hcc 3 _ rfl
      have x4 := hcc 4 _ rfl
      have x5 := hcc 5 _ rfl
      have x6 := hcc 6 _ rfl
      have x7 := hcc 7 _ rfl
      have x8 := hcc 8 _ rfl
      have x9 := hcc 9 _ rfl
      have x10 := hcc 10 _ rfl
      have x11 := hcc 11 _ rfl
      clear hcc hc ho
      simp only [Nat.add_zero] at x0
      simp only at x0 x1 x2 x3 x4 x5 x6 x7 x8 x9 x10 x11
      have HB := Lib.hid (HA.out.alloc (.cells (DoM.enc ⟨kind, d, no, st⟩).toArray 35))
      have BV : Hid (VecAt (wr.alloc (.cells (DoM.enc ⟨kind, d, no, st⟩).toArray 35)) wr.heap.size 35 (DoM.enc ⟨kind, d, no, st⟩)) := Lib.hid (VecAt.new wr 35 _)
      obtain ⟨lp, lb, lg, lbase, lw⟩ := HA.out.lt
      simp only [DoM.enc] at HB
      go_upto_block 2 with (fail)
      go_cut [] (fun wx => Later w p b g base n (k + 1) wx)
      case first =>
        clear x0 x1 x2 x3 x4 x5 x6 x7 x8 x9 x10 x11
        by_cases k0 : kind = 0
        · subst k0
          have T := HB.out.put1 d (by omega)
          have hzl := putF_len n L r d
          generalize hZ : putF n L r d = Z at *
          have HZ := Lib.hid hZ
          clear hZ
          obtain ⟨no', c', L'⟩ := Z
          simp only [DM.cells] at T hzl
          have HT := Lib.hid T
          clear T
          go_wp2_with fail
          refine HT.out.mono ?_
          rintro e w4 ⟨rfl, hB4, hf4⟩
          have V4 := BV.out.frm hf4 (by omega)
          obtain ⟨⟨y0, y10, y11⟩, z1, z2, z3, z4, z5, z6, z7, z8, z9⟩ := V4.dbox
          have l4 := V4.lt
          have T2 := hB4.put2 d (by omega)
          rw [HZ.out] at T2
          simp only [DM.cells] at T2
          have HT2 := Lib.hid T2
          clear T2 hB4 hf4 V4 HT HB BV
          simp only at y0 y10 y11 z1 z2 z3 z4 z5 z6 z7 z8 z9
          go_wp2_with fail
          refine HT2.out.mono ?_
          rintro e w5 ⟨rfl, hB5⟩
          have H5 := Lib.hid hB5
          clear hB5 y0 y10 y11 z1 z2 z3 z4 z5 z6 z7 z8 z9
          go_wp2_with fail
          go_meet
          exact ⟨_, _, _, by omega, H5.out⟩
        · have e0 : (kind == 0) = false := by simpa using k0
          clear k0
          by_cases k1 : kind = 1
          · subst k1
            have T := HB.out.take1
            generalize hZ : takeF L t = Z at *
            have HZ := Lib.hid hZ
            clear hZ
            obtain ⟨no', ⟨op, req, slot, gen, frm, len, device, done, status⟩, c', t'⟩ := Z
            simp only [DM.cells] at T
            have HT := Lib.hid T
            clear T BV HB
            go_wp2_with fail
            refine HT.out.mono ?_
            rintro e w4 ⟨rfl, hB4⟩
            have B4 := hB4.alloc (.cells #[.int .i64 op, .int .i64 req, .int .i64 slot, .int .u64 gen, .int .i64 frm, .int .i64 len, .bool device, .bool done, .int .i64 status] 33)
            have V4 := VecAt.new w4 33 (DM.cells ⟨op, req, slot, gen, frm, len, device, done, status⟩)
            have l4 := hB4.lt.2.2.1
            have T2 := B4.take2
            rw [HZ.out] at T2
            simp only [DM.cells] at T2
            have HT2 := Lib.hid T2
            have HV4 := Lib.hid V4
            clear T2 hB4 HT B4 V4
            go_wp2_with fail
            refine HT2.out.mono ?_
            rintro e w5 ⟨rfl, hB5, hf5⟩
            have V5 := HV4.out.frm hf5 (by omega)
            have l5 := V5.lt
            obtain ⟨z1, z2, z3, z4, z5, z6, z7, z8, z9⟩ := V5.box
            have H5 := Lib.hid (hB5.alloc (.cells #[.int .i64 op, .int .i64 req, .int .i64 slot, .int .u64 gen, .int .i64 frm, .int .i64 len, .bool device, .bool done, .int .i64 status] 33))
            clear hB5 hf5 V5 HT2 HV4
            go_wp2_with fail
            go_meet
            exact ⟨_, _, _, by omega, H5.out⟩
          · have e1' : (kind == 1) = false := by simpa using k1
            clear k1
            by_cases k2 : kind = 2
            · subst k2
              obtain ⟨v, hv⟩ := HA.out.two
              have hvb : ∀ j, v.ownBlock = some j → j < wr.heap.size := fun j hj => (hv.own.lt j hj).2
              have hbb : ∀ j, v.ownBlock = some j → base ≤ j := fun j hj => own_base hv.own j hj
              have HVB := Lib.hid hvb
              have V0 := Lib.hid (hv.keep ((Frm.refl _ _).alloc (.cells (DoM.enc ⟨2, d, no, st⟩).toArray 35)).drew)
              have P0 := Lib.hid (HB.out.keep (Frm.refl _ _).drew)
              have hne := HA.out.ne
              have D0 : Hid (VecAt _ wr.heap.size 35 (DoM.enc ⟨2, d, no, st⟩)) := Lib.hid (BV.out.keep (Frm.refl _ _).drew)
              have hzl := finF_len L t r no st
              have T := P0.out.fin1 no st
              have T2 : Hid (∀ w5, Both w w5 p b g base n (finF L t r no st).L t r L t r → RefIs w5 g base n v L t r → Calls Try.prog 20 #[.pointer (some ⟨g, 0, none⟩), .int .i64 no, .int .i64 st] w5 fun e w' => e = .returned (.int .i64 (finF L t r no st).c) ∧ Both w w' p b g base n (finF L t r no st).L t r (finF L t r no st).L t r ∧ Frm (fun k => v.ownBlock = some k) w5 w') :=
                fun w5 h5 hv5 => h5.fin2 hv5 no st
              generalize finF L t r no st = Z at *
              obtain ⟨c', L'⟩ := Z
              simp only at T hzl
              have HT := Lib.hid T
              clear T HB BV hvb hv
              go_wp2_with fail
              go_region_held3 (fun w' => w'.cell? ⟨wr.heap.size, 10, none⟩ = some (.int .i64 no) ∧ w'.cell? ⟨wr.heap.size, 11, none⟩ = some (.int .i64 st))
                (first | exact D0.out.dbox.1.2 | exact D5.out.dbox.1.2 | exact D6.out.dbox.1.2 | go_keep)
                (first
                  | (go_at_call 12; (with_reducible refine HT.out.mono ?_); rintro e w5 ⟨rfl, hB5, hf5⟩; have D5 := Lib.hid (D0.out.frm hf5 (by omega)); have V5 := Lib.hid (V0.out.frm hf5 (by omega) (fun j hj e => by have := hbb j hj; omega)); have B5 := Lib.hid hB5; clear hB5 hf5)
                  | (go_at_call 20; (with_reducible refine (T2.out _ B5.out V5.out).mono ?_); rintro e w6 ⟨rfl, hB6, hf6⟩; have D6 := Lib.hid (D5.out.frm hf6 (fun e => by have := HVB.out _ e; omega)); have B6 := Lib.hid hB6; clear hB6 hf6))
              all_goals
                go_wp2_with fail
                go_meet
                exact ⟨_, _, _, by omega, B6.out⟩
            · have e2' : (kind == 2) = false := by simpa using k2
              clear k2
              by_cases k3 : kind = 3
              · subst k3
                have hfr := HB.out.fresh
                have HFR := Lib.hid hfr
                clear hfr
                have T := HB.out.reap1
                generalize hZ : reapF L r = Z at *
                have HZ := Lib.hid hZ
                clear hZ
                obtain ⟨⟨op, req, slot, gen, frm, len, device, done, status⟩, c', t'⟩ := Z
                simp only [DM.cells] at T
                have HT := Lib.hid T
                clear T BV HB
                go_wp2_with fail
                refine HT.out.mono ?_
                rintro e w4 ⟨rfl, hB4⟩
                have B4 := hB4.alloc (.cells #[.int .i64 op, .int .i64 req, .int .i64 slot, .int .u64 gen, .int .i64 frm, .int .i64 len, .bool device, .bool done, .int .i64 status] 33)
                have V4 := VecAt.new w4 33 (DM.cells ⟨op, req, slot, gen, frm, len, device, done, status⟩)
                have l4 := hB4.lt.2.2.1
                have T2 := B4.reap2 HFR.out
                rw [HZ.out] at T2
                simp only [DM.cells] at T2
                have HT2 := Lib.hid T2
                have HV4 := Lib.hid V4
                clear T2 hB4 HT B4 V4
                go_wp2_with fail
                refine HT2.out.mono ?_
                rintro e w5 ⟨rfl, hB5, hf5⟩
                have V5 := HV4.out.frm hf5 (by omega)
                have l5 := V5.lt
                obtain ⟨z1, z2, z3, z4, z5, z6, z7, z8, z9⟩ := V5.box
                have H5 := Lib.hid (hB5.alloc (.cells #[.int .i64 op, .int .i64 req, .int .i64 slot, .int .u64 gen, .int .i64 frm, .int .i64 len, .bool device, .bool done, .int .i64 status] 33))
                clear hB5 hf5 V5 HT2 HV4
                go_wp2_with fail
                go_meet
                exact ⟨_, _, _, by omega, H5.out⟩
              · have e3' : (kind == 3) = false := by simpa using k3
                clear k3 BV
                have HT := Lib.hid HB.out.reset1
                clear HB
                go_wp2_with fail
                refine HT.out.mono ?_
                rintro e w4 ⟨A4, c4, rfl, hA4, hb4, hB4⟩
                have HT2 := Lib.hid hB4.reset2
                have l4 := hB4.lt
                have HA4 := Lib.hid hA4
                have HB4 := Lib.hid hb4
                clear hA4 hb4 hB4 HT
                go_wp2_with fail
                refine HT2.out.mono ?_
                rintro e w5 ⟨A5, c5, rfl, hA5, hB5, hf5⟩
                have hA45 := HA4.out.via hf5 (fun x off e => by have := HB4.out x off e; simp at this; omega)
                have hS := same_c w5 A4 A5 c4 c5 _ hA45 hA5
                rw [List.length_drop] at hS
                have HS := Lib.hid hS
                have H5 := Lib.hid hB5
                clear hA45 hA5 hS hB5 hf5 HT2
                go_wp2_with fail
                refine HS.out.mono ?_
                rintro e w6 ⟨rfl, hf6⟩
                have H6 := Lib.hid (H5.out.keep hf6)
                clear hf6
                go_wp2_with fail
                go_meet
                exact ⟨_, _, _, by simp, H6.out⟩
      case rest =>
        clear x0 x1 x2 x3 x4 x5 x6 x7 x8 x9 x10 x11 HB BV HA
        obtain ⟨L1, t1, r1, hL1, hB⟩ := hcut
        have HT := Lib.hid hB.counts
        clear hB
        go_wp2_with fail
        refine HT.out.mono ?_
        rintro e w4 ⟨rfl, hB4⟩
        obtain ⟨v, hv⟩ := hB4.two
        obtain ⟨A4, c4, rfl⟩ := own_slice hv.own
        have q1 := hv.c1
        have q2 := hv.c2
        have q3 := hv.c3
        have H4 := Lib.hid hB4
        clear hv hB4 HT
        go_wp2_with fail
        clear q1 q2 q3
        go_loopg [27] (n + 2) (fun gk i wx => ∃ q : Int, Hid (gk = (n + 1 - q).toNat) ∧ -1 ≤ q ∧ q ≤ n + 1 ∧ i = .int .i64 q ∧ Both w wx p b g base n L1 t1 r1 L1 t1 r1)
        case atStart => exact ⟨-1, Lib.hid (by omega), by omega, by omega, rfl, H4.out⟩
        case round =>
          obtain ⟨q, HQ, hq1, hq2, rfl, hB5⟩ := hrel
          have H5 := Lib.hid hB5
          clear hB5 H4
          by_cases hlq : q ≤ n
          · have eq1 : decide (q ≤ (n : Int)) = true := by simpa using hlq
            have HT := Lib.hid (H5.out.at1 q)
            clear H5
            go_wp2_with fail
            refine HT.out.mono ?_
            rintro e w6 ⟨⟨op, req, slot, gen, frm, len, device, done, status⟩, c6, rfl, ha6, hB6⟩
            have B6 := hB6.alloc (.cells #[.int .i64 op, .int .i64 req, .int .i64 slot, .int .u64 gen, .int .i64 frm, .int .i64 len, .bool device, .bool done, .int .i64 status] 33)
            have V6 := VecAt.new w6 33 (DM.cells ⟨op, req, slot, gen, frm, len, device, done, status⟩)
            have T2 := B6.at2 q _ _ ha6
            simp only [DM.cells] at T2
            have HT2 := Lib.hid T2
            have HV6 := Lib.hid V6
            clear hB6 B6 V6 ha6 HT T2
            simp only [DM.cells]
            go_wp2_with fail
            refine HT2.out.mono ?_
            rintro e w7 ⟨rfl, hB7, hf7⟩
            have V7 := HV6.out.frm hf7 id
            have l7 := V7.lt
            obtain ⟨z1, z2, z3, z4, z5, z6, z7, z8, z9⟩ := V7.box
            have H7 := Lib.hid (hB7.alloc (.cells #[.int .i64 op, .int .i64 req, .int .i64 slot, .int .u64 gen, .int .i64 frm, .int .i64 len, .bool device, .bool done, .int .i64 status] 33))
            clear hB7 hf7 V7 HT2 HV6
            go_wp2_with fail
            go_roundg (n + 1 - (q + 1)).toNat
            case measure => rw [HQ.out]; omega
            case rel => exact ⟨q + 1, Lib.hid rfl, by omega, by omega, rfl, H7.out⟩
          · have eq1 : decide (q ≤ (n : Int)) = false := by simpa using hlq
            go_wp2_with fail
            go_roundg (150 - (k + 1))
            case measure => rw [HK.out]; omega
            case rel => exact ⟨k + 1, Lib.hid rfl, by omega, by omega, by go_num, _, _, _, hL1, H5.out⟩
    · have e1 : (decide (k < l.length) = true ∧ decide ((k : Int) < 150) = false) ∨ decide (k < l.length) = false := by
        by_cases hh : k < l.length
        · exact .inl ⟨by simpa using hh, by simp; omega⟩
        · exact .inr (by simpa using hh)
      rcases e1 with ⟨e1, e2⟩ | e1
      all_goals
        go_wp2_with fail
        go_ret
        exact ⟨rfl, HA.out.frm.down⟩
theorem plays_c (w : World) (a : Int) (A : Option Addr) (c : Nat) (l : List DoM) (hl : RowsAt w A 12 DoM.enc l) :
    Calls Try.prog 7 #[.int .i64 a, .slice A l.length c] w fun e w' => e = .returned (.bool true) ∧ Frm (fun _ => False) w w' := by
  by_cases ha : a < 1 ∨ 64 < a
  · exact plays_bad w a A l.length c ha
  · obtain ⟨n, rfl⟩ := Int.eq_ofNat_of_zero_le (show 0 ≤ a by omega)
    exact plays_ok w n (by omega) (by omega) A c l hl
end Go.Proofs.Ytnbbaggmkinfkaa
