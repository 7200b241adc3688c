/- RingLate: the walk. -/
import Derived.Test.YtnbbaggmkinfkaaNum
namespace Go.Proofs.Ytnbbaggmkinfkaa
open Go.RowKit
structure Late (w wr : World) (p b q n R : Nat) (F G : Nat → Bool) : Prop where
  ring : LRing w wr p b 64 n n R G
  hq : w.heap.size ≤ q ∧ q ≠ p ∧ q ≠ b
  vec : VecAt wr q 4 (vals (n + 1) fun m => .bool (F m))
  below : ∀ m, m < R → G m = true
section
variable {w wr : World} {p b q n R : Nat} {F G : Nat → Bool}
theorem Late.finish (h : Late w wr p b q n R F F) (k : Nat) (hk : k < n) (hn : n ≤ 64) :
    Calls Try.prog 12 #[.pointer (some ⟨p, 0, none⟩), .int .i64 k, .int .i64 k] wr fun e w' =>
      e = .returned (.int .i64 (if R ≤ k ∧ F k = false then 0 else 12)) ∧ Late w w' p b q n R F (upd F k) := by
  obtain ⟨hr, ⟨q1, q2, q3⟩, hv, hb⟩ := h
  by_cases hR : R ≤ k
  · refine (hr.finish k k (by omega) hR hk).mono ?_
    rintro e w' ⟨rfl, hr', hf'⟩
    refine ⟨by cases F k <;> simp [hR], hr', ⟨q1, q2, q3⟩, hv.frm hf' (by omega), fun m hm => ?_⟩
    simp [upd, hb m hm]
  · obtain ⟨hp, hf, L, P, hrr, rfl, hi⟩ := hr
    refine (finish_state hrr k k (by omega) (by omega)).mono ?_
    rintro e w' ⟨rfl, rfl⟩
    have hu : upd F k = F := by
      funext m
      by_cases hm : m = k
      · subst hm; simp [upd, hb m (by omega)]
      · simp [upd, hm]
    rw [hu]
    exact ⟨by simp [hR], ⟨hp, hf, L, P, hrr, rfl, hi⟩, ⟨q1, q2, q3⟩, hv, hb⟩
theorem Late.mark {k : Nat} (h : Late w wr p b q n R F (upd F k)) : Late w (wr.setCell ⟨q, k, none⟩ (.bool true)) p b q n R (upd F k) (upd F k) := by
  obtain ⟨hr, ⟨q1, q2, q3⟩, hv, hb⟩ := h
  refine ⟨hr.frame ((Frm.refl (fun k => k = q) _).setCell (.inl rfl) _) q2 q3 q1, ⟨q1, q2, q3⟩, ?_, hb⟩
  have := hv.set k (.bool true)
  rw [vals_set] at this
  rw [show (vals (n + 1) fun m => .bool (upd F k m)) = (vals (n + 1) fun m => if m = k then .bool true else .bool (F m)) from vals_congr fun i _ => by unfold upd; split <;> rfl]
  exact this
theorem Late.reap (h : Late w wr p b q n R F F) (hR : R < n) (hg : F R = true) :
    Calls Try.prog 13 #[.pointer (some ⟨p, 0, none⟩)] wr fun e w' =>
      ∃ op sl ge fr le st, e = .returned (.tuple #[.agg #[.int .i64 op, .int .i64 R, .int .i64 sl, .int .u64 ge, .int .i64 fr, .int .i64 le, .bool false, .bool true, .int .i64 st], .int .i64 0]) ∧ Late w w' p b q n (R + 1) F F := by
  obtain ⟨hr, ⟨q1, q2, q3⟩, hv, hb⟩ := h
  refine (hr.reap hR hg).mono ?_
  rintro e w' ⟨op, sl, ge, fr, le, st, rfl, hr', hf'⟩
  refine ⟨op, sl, ge, fr, le, st, rfl, hr', ⟨q1, q2, q3⟩, hv.frm hf' (by omega), fun m hm => ?_⟩
  by_cases e : m = R
  · rw [e]; exact hg
  · exact hb m (by omega)
theorem Late.keep {w' : World} (h : Late w wr p b q n R F G) (hf : Frm (fun _ => False) wr w') : Late w w' p b q n R F G :=
  ⟨h.ring.keep hf, h.hq, h.vec.keep hf, h.below⟩
end
set_option maxRecDepth 100000 in
theorem late_big (w : World) (A : Option Addr) (n c : Nat) (hn : 64 < n) :
    Calls Try.prog 4 #[.slice A n c] w fun e w' => e = .returned (.bool true) ∧ Frm (fun _ => False) w w' := by
  have hd : decide (64 < (n : Int)) = true := by simp; omega
  go_enter Try.func4, Try.ntmps4
  go_wp2_with fail
  refine (awake_c w).mono ?_
  rintro e w1 ⟨rfl, hf1⟩
  go_wp2_with fail
  refine (new_ok w1 64 (by omega) (by omega)).mono ?_
  rintro e w2 ⟨rfl, hr2, hf2⟩
  go_wp2_with fail
  go_ret
  exact ⟨rfl, hf1.trans hf2⟩
set_option maxRecDepth 100000 in
set_option maxHeartbeats 8000000 in
theorem late_ok (w : World) (A : Option Addr) (c : Nat) (l : List UInt8) (hn : l.length ≤ 64) (hl : RowsAt w A 1 enc8 l) :
    Calls Try.prog 4 #[.slice A l.length c] w fun e w' => e = .returned (.bool true) ∧ Frm (fun _ => False) w w' := by
  have hd : decide (64 < (l.length : Int)) = false := by simp; omega
  have HL := Lib.hid hl
  clear hl
  generalize hN : l.length = n at *
  have hmk := run_make_vec (P := Try.prog) 28 4 (.bool false) 1 Try.underlying28 info4 rfl (n + 1) (by omega) (by omega)
  rw [show ((n + 1 : Nat) : Int) = (n : Int) + 1 by omega] at hmk
  go_enter Try.func4, Try.ntmps4
  go_wp2_with fail
  refine (awake_c w).mono ?_
  rintro e w1 ⟨rfl, hf1⟩
  have HF1 := Lib.hid hf1
  clear hf1
  go_wp2_with fail
  refine (new_ok w1 64 (by omega) (by omega)).mono ?_
  rintro e w2 ⟨rfl, hr2, hf2⟩
  have hsz := HF1.out.size
  have H0 : Hid (LRing w w2 (w1.heap.size + 1) w1.heap.size 64 0 0 0 (fun _ => false)) := ⟨⟨by omega, by omega⟩, (HF1.out.trans hf2).of_none, _, _, hr2, rfl, fun m h => by omega⟩
  clear hr2 hf2 HF1
  generalize hpp : w1.heap.size + 1 = p at *
  generalize hbb : w1.heap.size = b at *
  clear hpp hbb
  go_wp2_with fail
  go_loopw [6] (fun i wr => ∃ k : Nat, k ≤ n ∧ i = .int .i64 k ∧ LRing w wr p b 64 k k 0 (fun _ => false)) (fun i _ => n - (intOf i).toNat)
  case atStart => exact ⟨0, by omega, rfl, H0.out⟩
  case round =>
    obtain ⟨k, hk, rfl, hA⟩ := hrel
    have HA := Lib.hid hA
    clear hA H0
    by_cases hlt : k < n
    · have hd2 : decide (k < n) = true := by simpa using hlt
      go_wp2_with fail
      refine (HA.out.put (by omega) (by omega) rfl).mono ?_
      rintro e w3 ⟨rfl, hR3, _⟩
      have H3 := Lib.hid hR3
      clear hR3 HA
      go_wp2_with fail
      refine (H3.out.take (by omega)).mono ?_
      rintro e w4 ⟨op, sl, ge, fr, le, de, dn, st, rfl, hR4, _⟩
      have H4 := Lib.hid hR4
      clear hR4 H3
      go_wp2_with fail
      go_roundw
      case rel => exact ⟨k + 1, by omega, by go_num, H4.out⟩
      case measure => simp [intOf]; omega
    · have hd2 : decide (k < n) = false := by simpa using hlt
      obtain rfl : k = n := by omega
      have hl5 := HA.out.lt
      go_wp2_with fail
      have H5 : Hid (Late w (wr.alloc (.cells (vals (k + 1) fun _ => .bool false).toArray 4)) p b wr.heap.size k 0 (fun _ => false) (fun _ => false)) :=
        ⟨HA.out.alloc _, ⟨HA.out.frm.size, by omega, by omega⟩, VecAt.new _ _ _, fun m hm => by omega⟩
      clear HA hl5 hmk hd2 hlt hk
      generalize wr.heap.size = q at *
      generalize (wr.alloc (.cells (vals (k + 1) fun _ => .bool false).toArray 4)) = wz at *
      have hk0 := H5.out.hq
      go_loopw [8, 9] (fun a i wr => ∃ R m : Nat, ∃ F, m ≤ k ∧ R ≤ k ∧ a = .int .i64 R ∧ i = .int .i64 m ∧ Late w wr p b q k R F F) (fun _ i _ => k - (intOf i).toNat)
      case atStart => exact ⟨0, 0, _, by omega, by omega, rfl, rfl, H5.out⟩
      case round =>
        obtain ⟨R, m, F, hm, hR, rfl, rfl, hA⟩ := hrel
        have HA := Lib.hid hA
        clear hA H5
        by_cases hlm : m < k
        · have hd3 : decide (m < k) = true := by simpa using hlm
          obtain ⟨b0, off, hAe, hb0, hc⟩ := HL.out.at_ (by omega)
          subst hAe
          obtain ⟨o, ho⟩ : ∃ o, l[m]? = some o := ⟨_, List.getElem?_eq_getElem (by omega)⟩
          have x0 := HA.out.ring.frm.cell hb0 (by omega) (hc m o ho 0 _ rfl)
          simp only [Nat.mul_one, Nat.add_zero] at x0
          have ho1 := o.toNat_lt
          have hR1 : ((o.toNat : Int)) % k = ((o.toNat % k : Nat) : Int) := by simp
          have hR2 : o.toNat % k < k := Nat.mod_lt _ (by omega)
          have kz : ((k : Int) == 0) = false := by simp; omega
          clear hc ho
          generalize o.toNat = oo at *
          generalize oo % k = j at *
          go_wp2_with fail
          refine (HA.out.finish j hR2 hn).mono ?_
          rintro e w3 ⟨rfl, hL3⟩
          have H3 := Lib.hid hL3
          have v0 : wr.cell? ⟨q, j, none⟩ = some (.bool (F j)) := HA.out.vec.cell (vals_get (by omega) _)
          have v3 : w3.cell? ⟨q, j, none⟩ = some (.bool (F j)) := hL3.vec.cell (vals_get (by omega) _)
          have f3 := hL3.vec.frozen j
          clear hL3 HA v0
          have H6 : Hid (Late w (w3.setCell ⟨q, j, none⟩ (.bool true)) p b q k R (upd F j) (upd F j)) := H3.out.mark
          have key : (R ≤ j ∧ F j = true) ∨ (R ≤ j ∧ F j = false) ∨ ¬ R ≤ j := by
            cases F j <;> simp <;> omega
          rcases key with ⟨hRj, hF⟩ | ⟨hRj, hF⟩ | hRj
          all_goals first
            | (have hF' : F j = true := hF
               have e1 : decide ((R : Int) ≤ (j : Int)) = true := by simpa using hRj
               simp only [hF', hRj, Bool.true_eq_false, and_false, if_false] at v3 ⊢
               go_wp2_with fail)
            | (have hF' : F j = false := hF
               have e1 : decide ((R : Int) ≤ (j : Int)) = true := by simpa using hRj
               simp only [hF', hRj, and_true, if_true] at v3 ⊢
               go_wp2_with fail)
            | (have e1 : decide ((R : Int) ≤ (j : Int)) = false := by simpa using hRj
               simp only [hRj, false_and, if_false]
               go_wp2_with fail)
          all_goals
            clear hR1 v3 f3 H3
            generalize upd F j = F' at *
            generalize w3.setCell ⟨q, j, none⟩ (.bool true) = wm at *
            go_loopw [8] (fun a wr => ∃ R : Nat, R ≤ k ∧ a = .int .i64 R ∧ Late w wr p b q k R F' F') (fun a _ => k + 1 - (intOf a).toNat)
            case atStart => exact ⟨R, hR, rfl, H6.out⟩
            case round =>
              obtain ⟨R', hR', rfl, hC⟩ := hrel
              have HC := Lib.hid hC
              clear hC H6
              by_cases hrl : R' < k ∧ F' R' = true
              · obtain ⟨hr1, hr2⟩ := hrl
                have y1 : decide (R' < k) = true := by simpa using hr1
                go_wp2_with fail
                refine (HC.out.reap hr1 hr2).mono ?_
                rintro e w4 ⟨op, sl, ge, fr, le, st, rfl, hL4⟩
                have v4 : w4.cell? ⟨q, R', none⟩ = some (.bool (F' R')) := hL4.vec.cell (vals_get (by omega) _)
                rw [hr2] at v4
                have q4 := hL4.vec.lt
                have H4 := Lib.hid (hL4.keep ((Frm.refl _ _).alloc (.cells (DM.cells ⟨op, R', sl, ge, fr, le, false, true, st⟩).toArray 33)))
                clear hL4 HC
                go_wp2_with fail
                go_roundw
                case rel => exact ⟨R' + 1, by omega, by go_num, H4.out⟩
                case measure => simp [intOf]; omega
              · go_wp2_with fail
                have hst : R' < k → F' R' = false := fun h => by
                  cases hh : F' R' with
                  | true => exact absurd ⟨h, hh⟩ hrl
                  | false => rfl
                refine (HC.out.ring.stop hst).mono ?_
                rintro e w4 ⟨cc, rfl, hcc, hf4⟩
                have hcc' : (cc == 0) = false := by simpa using hcc
                have hL4 := HC.out.keep hf4
                have v4 : w4.cell? ⟨q, R', none⟩ = some (.bool (F' R')) := hL4.vec.cell (vals_get (by omega) _)
                have q4 := hL4.vec.lt
                have H4 := Lib.hid (hL4.keep ((Frm.refl _ _).alloc (.cells (DM.cells DM.zero).toArray 33)))
                clear hL4 HC hf4
                by_cases hrk : R' < k
                · have y1 : decide (R' < k) = true := by simpa using hrk
                  rw [hst hrk] at v4
                  go_wp2_with fail
                  go_roundw
                  case rel => exact ⟨R', m + 1, F', by omega, by omega, rfl, by go_num, H4.out⟩
                  case measure => simp [intOf]; omega
                · have y1 : decide (R' < k) = false := by simpa using hrk
                  go_wp2_with fail
                  go_roundw
                  case rel => exact ⟨R', m + 1, F', by omega, by omega, rfl, by go_num, H4.out⟩
                  case measure => simp [intOf]; omega
        · have hd3 : decide (m < k) = false := by simpa using hlm
          go_wp2_with fail
          go_ret
          exact ⟨rfl, HA.out.ring.frm.down⟩
theorem late_c (w : World) (A : Option Addr) (c : Nat) (l : List UInt8) (hl : RowsAt w A 1 enc8 l) :
    Calls Try.prog 4 #[.slice A l.length c] w fun e w' => e = .returned (.bool true) ∧ Frm (fun _ => False) w w' := by
  by_cases hn : 64 < l.length
  · exact late_big w A _ c hn
  · exact late_ok w A c l (by omega) hl
end Go.Proofs.Ytnbbaggmkinfkaa
