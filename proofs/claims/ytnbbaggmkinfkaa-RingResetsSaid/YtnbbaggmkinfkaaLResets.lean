/- RingResets: the walk. -/
import Derived.Test.YtnbbaggmkinfkaaSame
namespace Go.Proofs.Ytnbbaggmkinfkaa
open Go.RowKit
set_option maxRecDepth 100000 in
set_option maxHeartbeats 8000000 in
theorem resets_c (w : World) (x : Int) (hx : 0 ≤ x ∧ x ≤ 255) (A B : Option Addr) (c c' : Nat) (l l' : List DoM) (hl : RowsAt w A 12 DoM.enc l) (hl' : RowsAt w B 12 DoM.enc l') :
    Calls Try.prog 6 #[.int .u8 x, .agg #[.slice A l.length c, .slice B l'.length c']] w fun e w' => e = .returned (.bool true) ∧ Frm (fun _ => False) w w' := by
  obtain ⟨hx0, hx1⟩ := hx
  have HL := Lib.hid hl
  have HM := Lib.hid hl'
  have hlen := hl.len
  have hlen' := hl'.len
  clear hl hl'
  go_enter Try.func6, Try.ntmps6
  go_wp2_with fail
  refine (awake_c _).mono ?_
  rintro e w1 ⟨rfl, hf1⟩
  have g0 : w1.cell? ⟨w.heap.size, 0, none⟩ = some (.slice A l.length c) := hf1.cell (by simp) id (by simp)
  have g1 : w1.cell? ⟨w.heap.size, 1, none⟩ = some (.slice B l'.length c') := hf1.cell (by simp) id (by simp)
  have HF1 := Lib.hid (((Frm.refl (fun _ => False) w).alloc _).trans hf1)
  clear hf1
  go_wp2_with fail
  have hn1 : 1 ≤ 1 + x % 64 := by omega
  have hn2 : 1 + x % 64 ≤ 64 := by omega
  generalize hN : 1 + x % 64 = N at *
  obtain ⟨s, rfl⟩ := Int.eq_ofNat_of_zero_le (show 0 ≤ N by omega)
  clear g0 g1
  refine (new_ok w1 s (by omega) (by omega)).mono ?_
  rintro e w2 ⟨rfl, hr2, hf2⟩
  have HR2 := Lib.hid hr2
  have HF2 := Lib.hid hf2
  have hsz := HF1.out.size
  have hlt2 := hr2.lt
  clear hr2 hf2
  go_wp2_with fail
  refine (new_ok w2 s (by omega) (by omega)).mono ?_
  rintro e w3 ⟨rfl, hr3, hf3⟩
  have H3 : Hid (Two w w3 (w1.heap.size + 1) w1.heap.size (w2.heap.size + 1) w2.heap.size s [] 0 0 [] 0 0) :=
    ⟨by omega, by omega, ((HF1.out.trans HF2.out).trans hf3).of_none, ⟨_, HR2.out.keep hf3⟩, ⟨_, hr3⟩⟩
  clear hr3 hf3 HR2 HF2 HF1 hN
  generalize hpp : w1.heap.size + 1 = p at *
  generalize hbb : w1.heap.size = b at *
  generalize hqq : w2.heap.size + 1 = q at *
  generalize hdd : w2.heap.size = d at *
  clear hpp hbb hqq hdd
  go_wp2_with fail
  go_loopw [12] (fun i wr => ∃ k : Nat, k ≤ l.length ∧ k ≤ 150 ∧ i = .int .i64 k ∧ ∃ L t r, L.length ≤ k ∧ Two w wr p b q d s L t r [] 0 0) (fun i _ => 150 - (intOf i).toNat)
  case atStart => exact ⟨0, by omega, by omega, rfl, _, _, _, by simp, H3.out⟩
  case round =>
    obtain ⟨k, hk, hk1, rfl, L, t, r, hLk, hA⟩ := hrel
    have HA := Lib.hid hA
    clear hA H3
    by_cases hlt : k < l.length ∧ k < 150
    · obtain ⟨hl1, hl2⟩ := hlt
      have e1 : decide (k < l.length) = true := by simpa using hl1
      have e2 : decide ((k : Int) < 150) = true := by simp; omega
      obtain ⟨b0, off, hAe, hb0, hc⟩ := HL.out.at_ (by omega)
      subst hAe
      obtain ⟨o, ho⟩ : ∃ o, l[k]? = some o := ⟨_, List.getElem?_eq_getElem hl1⟩
      have hcc := fun j v hj => HA.out.frm.cell hb0 (by omega) (hc k o ho j v hj)
      have x0 := hcc 0 _ rfl
      have x1 := hcc 1 _ rfl
      have x2 := hcc 2 _ rfl
      have x3 := hcc 3 _ rfl
      have x4 := hcc 4 _ rfl
      have x5 := hcc 5 _ rfl
      have x6 := hcc 6 _ rfl
      have x7 := hcc 7 _ rfl
      have x8 := hcc 8 _ rfl
      have x9 := hcc 9 _ rfl
      have x10 := hcc 10 _ rfl
      have x11 := hcc 11 _ rfl
      clear hcc hc ho
      simp only [Nat.add_zero] at x0
      have T := HA.out.step1 o (by omega)
      have hsl := step_len s L t r o
      generalize stepF s L t r o = Z at *
      obtain ⟨⟨op, req, slot, gen, frm, len, device, done, status⟩, cc, L1, t1, r1⟩ := Z
      simp only [DoM.enc, DM.cells] at T hsl
      have HT := Lib.hid T
      clear T HA
      go_wp2_with fail
      refine HT.out.mono ?_
      rintro e w4 ⟨rfl, hT4⟩
      have H4 := Lib.hid hT4
      clear hT4 HT
      go_wp2_with fail
      go_roundw
      case rel => exact ⟨k + 1, by omega, by omega, by go_num, _, _, _, by omega, H4.out⟩
      case measure => simp [intOf]; omega
    · have e1 : (decide (k < l.length) = true ∧ decide ((k : Int) < 150) = false) ∨ decide (k < l.length) = false := by
        by_cases hh : k < l.length
        · exact .inl ⟨by simpa using hh, by simp; omega⟩
        · exact .inr (by simpa using hh)
      have o1 : r ≤ t ∧ t ≤ L.length := by obtain ⟨P, hp⟩ := HA.out.one; exact ⟨hp.ord.1, hp.ord.2.1⟩
      rcases e1 with ⟨e1, e2⟩ | e1
      all_goals
        go_wp2_with fail
        refine HA.out.counts.mono ?_
        rintro e w4 ⟨rfl, hT4⟩
        have H4 := Lib.hid hT4
        clear hT4 HA
        go_wp2_with fail
        refine H4.out.reset1.mono ?_
        rintro e w5 ⟨A5, c5, rfl, _, _, hT5⟩
        have H5 := Lib.hid hT5
        have e5 : (((L.length - r : Nat) : Int) == ((L.length : Int) - (r : Int))) = true := by simp; omega
        clear hT5 H4
        go_wp2_with (go_at_call 16; refine H5.out.reset1.mono ?_; rintro e w6 ⟨A6, c6, rfl, _, _, hT6⟩; have H6 := Lib.hid hT6; clear hT6 H5)
        go_wp2_with fail
        go_loopw [17] (fun i wr => ∃ k : Nat, k ≤ l'.length ∧ k ≤ 150 ∧ i = .int .i64 k ∧ ∃ L t r, L.length ≤ k ∧ Two w wr p b q d s L t r L t r) (fun i _ => 150 - (intOf i).toNat)
        case atStart => exact ⟨0, by omega, by omega, rfl, _, _, _, by simp, H6.out⟩
        case round =>
          obtain ⟨m, hm, hm1, rfl, M, t', r', hMk, hA⟩ := hrel
          have HA := Lib.hid hA
          clear hA H6
          by_cases hlm : m < l'.length ∧ m < 150
          · obtain ⟨hl1, hl2⟩ := hlm
            have u1 : decide (m < l'.length) = true := by simpa using hl1
            have u2 : decide ((m : Int) < 150) = true := by simp; omega
            obtain ⟨b1, off1, hAe, hb0, hc⟩ := HM.out.at_ (by omega)
            subst hAe
            obtain ⟨o, ho⟩ : ∃ o, l'[m]? = some o := ⟨_, List.getElem?_eq_getElem hl1⟩
            have hcc := fun j v hj => HA.out.frm.cell hb0 (by omega) (hc m o ho j v hj)
            have x0 := hcc 0 _ rfl
            have x1 := hcc 1 _ rfl
            have x2 := hcc 2 _ rfl
            have x3 := hcc 3 _ rfl
            have x4 := hcc 4 _ rfl
            have x5 := hcc 5 _ rfl
            have x6 := hcc 6 _ rfl
            have x7 := hcc 7 _ rfl
            have x8 := hcc 8 _ rfl
            have x9 := hcc 9 _ rfl
            have x10 := hcc 10 _ rfl
            have x11 := hcc 11 _ rfl
            simp only [Nat.add_zero] at x0
            have T := HA.out.step1 o (by omega)
            have T2 : Hid (∀ w1 L1 t1 r1, Two w w1 p b q d s L1 t1 r1 M t' r' → Calls Try.prog 15 #[.pointer (some ⟨q, 0, none⟩), .agg o.enc.toArray] w1 fun e w' =>
              e = .returned (.tuple #[.agg (stepF s M t' r' o).d.cells.toArray, .int .i64 (stepF s M t' r' o).c]) ∧ Two w w' p b q d s L1 t1 r1 (stepF s M t' r' o).L (stepF s M t' r' o).t (stepF s M t' r' o).r ∧ Frm (fun k => k = q ∨ k = d) w1 w') := fun _ _ _ _ h => h.step2 o (by omega)
            have hsl := step_len s M t' r' o
            have HC := Lib.hid hc
            have HO := Lib.hid ho
            clear hc ho hcc
            have HY : Hid (∀ w' L1 t1 r1 L2 t2 r2, Two w w' p b q d s L1 t1 r1 L2 t2 r2 → ∀ j v, o.enc[j]? = some v → w'.cell? ⟨b1, off1 + m * 12 + j, none⟩ = some v) := fun w' L1 t1 r1 L2 t2 r2 h j v hj => h.frm.cell hb0 (by omega) (HC.out m o HO.out j v hj)
            generalize stepF s M t' r' o = Z at *
            obtain ⟨⟨op, req, slot, gen, frm, len, device, done, status⟩, cc, L1, t1, r1⟩ := Z
            simp only [DoM.enc, DM.cells] at T T2 hsl
            have HT := Lib.hid T
            clear T HA HC
            go_wp2_with fail
            refine HT.out.mono ?_
            rintro e w7 ⟨rfl, hT7⟩
            have a7 := hT7.alloc (.cells #[.int .i64 op, .int .i64 req, .int .i64 slot, .int .u64 gen, .int .i64 frm, .int .i64 len, .bool device, .bool done, .int .i64 status] 33)
            have B7 := VecAt.new w7 33 (DM.cells ⟨op, req, slot, gen, frm, len, device, done, status⟩)
            have l7 := hT7.lt.2.2
            have H7 := Lib.hid a7
            have q7 : b1 < w7.heap.size := by have := hT7.frm.size; omega
            have hy := HY.out _ _ _ _ _ _ _ hT7
            have y0 := hy 0 _ rfl
            have y1 := hy 1 _ rfl
            have y2 := hy 2 _ rfl
            have y3 := hy 3 _ rfl
            have y4 := hy 4 _ rfl
            have y5 := hy 5 _ rfl
            have y6 := hy 6 _ rfl
            have y7 := hy 7 _ rfl
            have y8 := hy 8 _ rfl
            have y9 := hy 9 _ rfl
            have y10 := hy 10 _ rfl
            have y11 := hy 11 _ rfl
            simp only [Nat.add_zero] at y0
            have HT8 := Lib.hid (T2.out _ _ _ _ H7.out)
            clear hT7 a7 hy HT T2 HY x0 x1 x2 x3 x4 x5 x6 x7 x8 x9 x10 x11
            go_wp2_with fail
            refine HT8.out.mono ?_
            rintro e w8 ⟨rfl, hT8, hf8⟩
            obtain ⟨lq, ld⟩ := l7
            have v8 := B7.frm hf8 (by omega)
            obtain ⟨z0, z1, z2, z3, z4, z5, z6, z7, z8⟩ := v8.box
            have q8 := v8.lt
            have H8 := Lib.hid (hT8.alloc (.cells #[.int .i64 op, .int .i64 req, .int .i64 slot, .int .u64 gen, .int .i64 frm, .int .i64 len, .bool device, .bool done, .int .i64 status] 33))
            clear hT8 hf8 v8 HT8 H7 B7 y0 y1 y2 y3 y4 y5 y6 y7 y8 y9 y10 y11
            go_wp2_with fail
            go_roundw
            case rel => exact ⟨m + 1, by omega, by omega, by go_num, _, _, _, by omega, H8.out⟩
            case measure => simp [intOf]; omega
          · have u1 : (decide (m < l'.length) = true ∧ decide ((m : Int) < 150) = false) ∨ decide (m < l'.length) = false := by
              by_cases hh : m < l'.length
              · exact .inl ⟨by simpa using hh, by simp; omega⟩
              · exact .inr (by simpa using hh)
            rcases u1 with ⟨u1, u2⟩ | u1
            all_goals
              have HLT := Lib.hid HA.out.lt
              go_wp2_with fail
              refine HA.out.reset1.mono ?_
              rintro e w7 ⟨A7, c7, rfl, hA7, hb7, hT7⟩
              have H7 := Lib.hid hT7
              have HA7 := Lib.hid hA7
              have HB7 := Lib.hid hb7
              clear hT7 hA7 hb7 HA
              go_wp2_with fail
              refine H7.out.reset2.mono ?_
              rintro e w8 ⟨A8, c8, rfl, hA8, hT8, hf8⟩
              have l7 := H7.out.lt
              have l6 := HLT.out
              have hA78 := HA7.out.via hf8 (fun x off e => by have := HB7.out x off e; omega)
              have hS := same_c w8 A7 A8 c7 c8 _ hA78 hA8
              rw [List.length_drop] at hS
              have HS := Lib.hid hS
              have H8 := Lib.hid hT8
              clear hA8 hT8 hf8 hA78 hS
              go_wp2_with fail
              refine HS.out.mono ?_
              rintro e w9 ⟨rfl, hf9⟩
              go_wp2_with fail
              go_ret
              exact ⟨rfl, (H8.out.frm.trans hf9.of_none).down⟩
end Go.Proofs.Ytnbbaggmkinfkaa
