/- TableFull: the walk. -/
import Derived.Test.YtogjnclliaagbaaAw
import Derived.Test.YtogjnclliaagbaaPl
namespace Go.Proofs.Ytogjnclliaagbaa
open Go.RowKit
/-- In the loops: the table, and that what was there before is as it was. -/
structure FullAt (w wr : World) (p b cap : Nat) (L : List Slot) : Prop where
  tab : TabAt wr p b cap L
  frm : Frm (fun q => w.heap.size ≤ q) w wr
  hp : w.heap.size ≤ p
  hb : w.heap.size ≤ b
theorem FullAt.next {w wr w' : World} {p b cap : Nat} {L L' : List Slot} (h : FullAt w wr p b cap L) (ht : TabAt w' p b cap L') (hf : Frm (fun k => k = p ∨ k = b) wr w') : FullAt w w' p b cap L' :=
  ⟨ht, h.frm.trans (hf.up (by rintro q (rfl | rfl); exact h.hp; exact h.hb)), h.hp, h.hb⟩
theorem FullAt.keep {w wr w' : World} {p b cap : Nat} {L : List Slot} (h : FullAt w wr p b cap L) (hf : Frm (fun _ => False) wr w') : FullAt w w' p b cap L :=
  ⟨h.tab.keep hf, h.frm.trans hf.of_none, h.hp, h.hb⟩
theorem FullAt.alloc {w wr : World} {p b cap : Nat} {L : List Slot} (h : FullAt w wr p b cap L) (o : Obj) : FullAt w (wr.alloc o) p b cap L := h.keep ((Frm.refl _ _).alloc o)
set_option maxRecDepth 100000 in
set_option maxHeartbeats 4000000 in
theorem full_c (w : World) (x y : Int) (hx : 0 ≤ x ∧ x ≤ 255) (hy : 0 ≤ y ∧ y ≤ 255) :
    Calls Try.prog 6 #[.int .u8 x, .int .u8 y] w fun e w' => e = .returned (.bool true) ∧ Frm (fun _ => False) w w' := by
  obtain ⟨hx0, hx1⟩ := hx
  obtain ⟨hy0, hy1⟩ := hy
  go_enter Try.func6, Try.ntmps6
  go_wp2_with fail
  refine (awake_c w).mono ?_
  rintro e w1 ⟨rfl, hf1⟩
  go_wp2_with fail
  have hn1 : 1 ≤ 1 + x % 100 := by omega
  have hn2 : 1 + x % 100 ≤ 100 := by omega
  generalize 1 + x % 100 = N at *
  obtain ⟨n, rfl⟩ := Int.eq_ofNat_of_zero_le (show 0 ≤ N by omega)
  refine (new_ok w1 n (by omega) (by omega)).mono ?_
  rintro e w2 ⟨b, cap, rfl, ht2, hb, hf2⟩
  have hsz1 := hf1.size
  have h2 : FullAt w w2 w1.heap.size b cap (filled (((0 : Nat) : Int) + 1) n 0 fun i => i) := ⟨by have := filled_zero n (fun i => (i : Int)); rw [← this] at ht2; exact ht2, (hf1.trans hf2).of_none, hsz1, by omega⟩
  have H2 := Lib.hid h2
  clear ht2 hf2 hf1 h2
  generalize w1.heap.size = p at *
  go_wp2_with fail
  go_loopw [8] (fun r wr => ∃ k : Nat, (k : Int) ≤ 1 + y % 4 ∧ r = .int .i64 k ∧ FullAt w wr p b cap (filled ((k : Int) + 1) n 0 fun i => i)) (fun r _ => (1 + y % 4 - intOf r).toNat)
  case atStart => exact ⟨0, by omega, rfl, H2.out⟩
  case round =>
    obtain ⟨r, hr, rfl, hfa⟩ := hrel
    obtain ⟨wo, rfl⟩ : ∃ wo : World, wo = wr := ⟨_, rfl⟩
    have HA := Lib.hid hfa
    clear hfa H2
    by_cases hlt : (r : Int) < 1 + y % 4
    · have hd : decide ((r : Int) < 1 + y % 4) = true := by simpa using hlt
      go_wp2_with fail
      go_loopw [9] (fun i wr => ∃ k : Nat, k ≤ n ∧ i = .int .i64 k ∧ FullAt w wr p b cap (filled ((r : Int) + 1) n k fun i => i)) (fun i _ => n - (intOf i).toNat)
      case atStart => exact ⟨0, by omega, rfl, HA.out⟩
      case round =>
        obtain ⟨k, hk, rfl, hfa⟩ := hrel
        have HB := Lib.hid hfa
        clear hfa HA
        by_cases hlk : k < n
        · have hd2 : decide (k < n) = true := by simpa using hlk
          go_wp2_with fail
          refine (put_free HB.out.tab k ((r : Int) + 1) k (filled_ge (Nat.le_refl _) hlk _) (fun j hj => ⟨_, _, filled_lt hj (by omega) _⟩)).mono ?_
          rintro e w5 ⟨rfl, ht5, hf5⟩
          have H5 := Lib.hid (HB.out.next ht5 hf5)
          clear ht5 hf5 HB
          go_wp2_with fail
          go_roundw
          case rel =>
            refine ⟨k + 1, by omega, by go_num, ?_⟩
            rw [← filled_set (fun i => (i : Int))]
            exact H5.out.alloc _
          case measure => simp [intOf]; omega
        · have hd2 : decide (k < n) = false := by simpa using hlk
          obtain rfl : k = n := by omega
          go_wp2_with fail
          refine (put_full HB.out.tab 5 (fun j hj => ⟨_, _, filled_lt (by rwa [filled_length] at hj) (by rwa [filled_length] at hj) _⟩)).mono ?_
          rintro e w5 ⟨rfl, hf5⟩
          have H5 := Lib.hid ((HB.out.keep hf5).alloc (.cells #[.int .i64 0, .int .u64 0] 31))
          clear hf5 HB
          go_wp2_with fail
          have hcnt := count_c H5.out.tab
          rw [cnt_all (filled_full _ _ _), filled_length] at hcnt
          refine hcnt.mono ?_
          rintro e w6 ⟨rfl, rfl⟩
          clear hcnt
          go_wp2_with fail
          go_loopw [14] (fun i wr => ∃ m : Nat, m ≤ k ∧ i = .int .i64 m ∧ FullAt w wr p b cap (drained ((r : Int) + 1) k m fun i => i)) (fun i _ => k - (intOf i).toNat)
          case atStart => exact ⟨0, by omega, rfl, by rw [drained_zero]; exact H5.out⟩
          case round =>
            obtain ⟨m, hm, rfl, hfa⟩ := hrel
            have HC := Lib.hid hfa
            clear hfa H5
            by_cases hlm : m < k
            · have hd3 : decide (m < k) = true := by simpa using hlm
              go_wp2_with fail
              refine (drop_some HC.out.tab m ((r : Int) + 1) m (drained_at hlm _)).mono ?_
              rintro e w7 ⟨rfl, ht7, hf7⟩
              rw [wrap_u64 (by omega) (by omega), drained_set] at ht7
              have H7 := Lib.hid (HC.out.next ht7 hf7)
              clear ht7 hf7 HC
              go_wp2_with fail
              go_roundw
              case rel => exact ⟨m + 1, by omega, by go_num, H7.out⟩
              case measure => simp [intOf]; omega
            · have hd3 : decide (m < k) = false := by simpa using hlm
              obtain rfl : m = k := by omega
              go_wp2_with fail
              go_roundw
              case rel =>
                refine ⟨r + 1, by omega, by go_num, ?_⟩
                have := HC.out
                rw [drained_all] at this
                simpa using this
              case measure => simp [intOf]; omega
    · have hd : decide ((r : Int) < 1 + y % 4) = false := by simpa using hlt
      go_wp2_with fail
      have hcnt := count_c HA.out.tab
      rw [cnt_none (filled_empty _ _ _)] at hcnt
      refine hcnt.mono ?_
      rintro e w6 ⟨rfl, rfl⟩
      clear hcnt
      go_wp2_with fail
      have hall := all_c HA.out.tab
      rw [hands_none (filled_empty _ _ _)] at hall
      refine hall.mono ?_
      rintro e w7 ⟨v, rfl, hown, hf7⟩
      clear hall
      obtain ⟨A, c, rfl⟩ := own_slice hown
      clear hown
      simp only [List.length_nil]
      go_wp2_with fail
      go_ret
      exact ⟨rfl, Frm.down (HA.out.frm.trans hf7.of_none)⟩
end Go.Proofs.Ytogjnclliaagbaa
