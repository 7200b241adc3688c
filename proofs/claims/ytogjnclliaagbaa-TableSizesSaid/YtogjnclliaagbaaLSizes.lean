/- TableSizes: the walk. -/
import Derived.Test.YtogjnclliaagbaaAw
import Derived.Test.YtogjnclliaagbaaPl
namespace Go.Proofs.Ytogjnclliaagbaa
open Go.RowKit
theorem sizes_bad (w : World) (a s g : Int) (ha : a < 1 ∨ 1000 < a) :
    Calls Try.prog 5 #[.int .i64 a, .int .i64 s, .int .u64 g] w fun e w' => e = .returned (.bool true) ∧ Frm (fun _ => False) w w' := by
  rcases ha with ha | ha
  · have hd : decide (a < 1) = true := by simpa using ha
    go_enter Try.func5, Try.ntmps5
    go_wp2_with fail
    refine (awake_c w).mono ?_
    rintro e w1 ⟨rfl, hf⟩
    go_wp2_with fail
    refine (new_bad w1 a (.inl ha)).mono ?_
    rintro e w2 ⟨rfl, rfl⟩
    go_wp2
    go_ret
    exact ⟨rfl, hf⟩
  · have hd : decide (a < 1) = false := by simp; omega
    have hd2 : decide (1000 < a) = true := by simpa using ha
    go_enter Try.func5, Try.ntmps5
    go_wp2_with fail
    refine (awake_c w).mono ?_
    rintro e w1 ⟨rfl, hf⟩
    go_wp2_with fail
    refine (new_bad w1 a (.inr ha)).mono ?_
    rintro e w2 ⟨rfl, rfl⟩
    go_wp2
    go_ret
    exact ⟨rfl, hf⟩
set_option maxHeartbeats 1000000 in
theorem sizes_ok (w : World) (n : Nat) (s g : Int) (h1 : 1 ≤ n) (h2 : n ≤ 1000) :
    Calls Try.prog 5 #[.int .i64 n, .int .i64 s, .int .u64 g] w fun e w' => e = .returned (.bool true) ∧ Frm (fun _ => False) w w' := by
  have hd : decide ((n : Int) < 1) = false := by simp; omega
  have hd2 : decide (1000 < (n : Int)) = false := by simp; omega
  go_enter Try.func5, Try.ntmps5
  go_wp2_with fail
  refine (awake_c w).mono ?_
  rintro e w1 ⟨rfl, hf1⟩
  go_wp2_with fail
  refine (new_ok w1 n h1 h2).mono ?_
  rintro e w2 ⟨b, cap, rfl, ht2, hb, hf2⟩
  have hsz1 := hf1.size
  have HT2 := Lib.hid ht2
  have HF2 := Lib.hid ((hf1.trans hf2))
  clear ht2 hf2 hf1
  go_wp2_with fail
  refine (get_none (HT2.out.alloc (.cells #[.int .i64 s, .int .u64 g] 31)) s g (at?_fresh _ _ _)).mono ?_
  rintro e w3 ⟨rfl, hf3⟩
  have HT3 := Lib.hid ((HT2.out.alloc (.cells #[.int .i64 s, .int .u64 g] 31)).keep hf3)
  have HF3 := Lib.hid ((HF2.out.alloc (.cells #[.int .i64 s, .int .u64 g] 31)).trans hf3)
  have c30 : w3.cell? ⟨w2.heap.size, 0, none⟩ = some (.int .i64 s) := hf3.cell (by simp) id (by simp)
  have c31 : w3.cell? ⟨w2.heap.size, 1, none⟩ = some (.int .u64 g) := hf3.cell (by simp) id (by simp)
  clear hf3
  go_wp2_with fail
  refine (set_none HT3.out s g 1 (at?_fresh _ _ _)).mono ?_
  rintro e w4 ⟨rfl, hf4⟩
  have HT4 := Lib.hid (HT3.out.keep hf4)
  have HF4 := Lib.hid (HF3.out.trans hf4)
  have c40 : w4.cell? ⟨w2.heap.size, 0, none⟩ = some (.int .i64 s) := hf4.cell (lt_of_cell c30) id c30
  have c41 : w4.cell? ⟨w2.heap.size, 1, none⟩ = some (.int .u64 g) := hf4.cell (lt_of_cell c30) id c31
  have hpl := HT2.out.ltp
  have hbl := HT2.out.ltb
  clear hf4 c30 c31
  go_wp2_with fail
  go_loopw [12] (fun i wr => ∃ k : Nat, k ≤ n ∧ k ≤ 30 ∧ i = .int .i64 k ∧ TabAt wr w1.heap.size b cap (filled n k fun i => i) ∧ wr.cell? ⟨w2.heap.size, 0, none⟩ = some (.int .i64 s) ∧ wr.cell? ⟨w2.heap.size, 1, none⟩ = some (.int .u64 g) ∧ Frm (fun q => w.heap.size ≤ q) w wr) (fun i _ => 30 - (intOf i).toNat)
  case atStart => exact ⟨0, Nat.zero_le _, Nat.zero_le _, rfl, by rw [filled_zero]; exact HT4.out, c40, c41, HF4.out.of_none⟩
  case round =>
    obtain ⟨k, hkn, hk30, rfl, ht, c0, c1, hf⟩ := hrel
    clear c40 c41
    have HT := Lib.hid ht
    have HF := Lib.hid hf
    clear ht hf
    by_cases hlt : k < n ∧ k < 30
    · obtain ⟨hl1, hl2⟩ := hlt
      have e1 : decide (k < n) = true := by simpa using hl1
      have e2 : decide ((k : Int) < 30) = true := by simp; omega
      go_wp2_with fail
      refine (put_free HT.out k 1 k (filled_ge (Nat.le_refl _) hl1 _) (fun j hj => ⟨_, _, filled_lt hj _⟩)).mono ?_
      rintro e w5 ⟨rfl, ht5, hf5⟩
      have HT5 := Lib.hid ht5
      have HF5 := Lib.hid hf5
      clear ht5 hf5
      go_wp2_with fail
      go_roundw
      case rel =>
        refine ⟨k + 1, by omega, by omega, by go_num, ?_, HF5.out.cell (lt_of_cell c0) (by omega) c0, HF5.out.cell (lt_of_cell c0) (by omega) c1, HF.out.trans (HF5.out.up (by rintro q (rfl | rfl) <;> omega))⟩
        rw [← filled_set hl1 (fun i => (i : Int))]; exact HT5.out
      case measure => simp [intOf]; omega
    · have hmin : (min (n : Int) 30) = k := by omega
      have HM := Lib.hid hmin
      clear hmin
      have hat := at?_filled hkn (fun i => (i : Int)) s g
      have l0 := lt_of_cell c0
      by_cases hx : k < n
      · have e2 : decide (k < n) = true := by simpa using hx
        have e3 : decide ((k : Int) < 30) = false := by simp; omega
        have e3i : (30 : Int) ≤ k := by omega
        by_cases hs : 0 ≤ s ∧ s < k ∧ g = 1
        · rw [if_pos hs] at hat
          have HA := Lib.hid hat
          clear hat hlt
          obtain ⟨hs0, hs1, hs2⟩ := hs
          have e5 : (g == 1) = true := by simpa using hs2
          clear hs2
          go_wp2_with fail
          refine (get_some HT.out s g _ HA.out).mono ?_
          rintro e w5 ⟨rfl, hf5⟩
          go_wp2_with fail
          all_goals
            go_ret
            exact ⟨ret_bool (by simp; omega), Frm.down (HF.out.trans hf5.of_none)⟩
        · rw [if_neg hs] at hat
          have HA := Lib.hid hat
          clear hat hlt
          go_wp2_with fail
          refine (get_none HT.out s g HA.out).mono ?_
          rintro e w5 ⟨rfl, hf5⟩
          by_cases h5 : 0 ≤ s
          · by_cases h6 : s < k
            · have e5 : (g == 1) = false := by simp; omega
              go_wp2_with fail
              all_goals
                go_ret
                exact ⟨rfl, Frm.down (HF.out.trans hf5.of_none)⟩
            · go_wp2_with fail
              all_goals
                go_ret
                exact ⟨rfl, Frm.down (HF.out.trans hf5.of_none)⟩
          · have e5 : decide (0 ≤ s) = false := by simpa using h5
            go_wp2_with fail
            all_goals
              go_ret
              exact ⟨rfl, Frm.down (HF.out.trans hf5.of_none)⟩
      · have e2 : decide (k < n) = false := by simpa using hx
        have e2i : n ≤ k := by omega
        by_cases hs : 0 ≤ s ∧ s < k ∧ g = 1
        · rw [if_pos hs] at hat
          have HA := Lib.hid hat
          clear hat hlt
          obtain ⟨hs0, hs1, hs2⟩ := hs
          have e5 : (g == 1) = true := by simpa using hs2
          clear hs2
          go_wp2_with fail
          refine (get_some HT.out s g _ HA.out).mono ?_
          rintro e w5 ⟨rfl, hf5⟩
          go_wp2_with fail
          all_goals
            go_ret
            exact ⟨ret_bool (by simp; omega), Frm.down (HF.out.trans hf5.of_none)⟩
        · rw [if_neg hs] at hat
          have HA := Lib.hid hat
          clear hat hlt
          go_wp2_with fail
          refine (get_none HT.out s g HA.out).mono ?_
          rintro e w5 ⟨rfl, hf5⟩
          by_cases h5 : 0 ≤ s
          · by_cases h6 : s < k
            · have e5 : (g == 1) = false := by simp; omega
              go_wp2_with fail
              all_goals
                go_ret
                exact ⟨rfl, Frm.down (HF.out.trans hf5.of_none)⟩
            · go_wp2_with fail
              all_goals
                go_ret
                exact ⟨rfl, Frm.down (HF.out.trans hf5.of_none)⟩
          · have e5 : decide (0 ≤ s) = false := by simpa using h5
            go_wp2_with fail
            all_goals
              go_ret
              exact ⟨rfl, Frm.down (HF.out.trans hf5.of_none)⟩
end Go.Proofs.Ytogjnclliaagbaa
