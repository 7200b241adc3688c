/- big, marks. -/
import Derived.Test.YtkmgdfcpfdnkfaaB2
namespace Go.Proofs.Ytkmgdfcpfdnkfaa
open Go.RowKit
theorem bcells_zero (n : Nat) : (vals n fun _ => Value.int .u8 0) = bcells (List.replicate n 0) := by
  rw [← vals_replicate]; simp [bcells]
theorem set_rep (j y : Nat) (l : List Nat) : (List.replicate (j + 1) 0 ++ l).set j y = List.replicate j 0 ++ (y :: l) := by
  rw [List.replicate_succ', List.append_assoc, List.set_append_right _ _ (by simp)]
  simp
theorem bcells_set (l : List Nat) (j y : Nat) : (bcells l).set j (.int .u8 (y : Int)) = bcells (l.set j y) := by
  simp [bcells, List.map_set]
set_option maxHeartbeats 1000000 in
theorem big_c (w : World) (n x : Nat) (hn : n ≤ 8) (hx : x < 18446744073709551616) :
    Calls Try.prog 22 #[.int .u64 x, .int .i64 n] w fun e w' => e = .returned (.slice (some ⟨w.heap.size, 0, none⟩) n n) ∧ VecAt w' w.heap.size 5 (bcells (big n x)) ∧ Frm (fun _ => False) w w' := by
  have hmk := run_make_vec (P := Try.prog) 28 5 (.int .u8 0) 1 Try.underlying28 info5 rfl n (by omega) (by omega)
  have HV := Lib.hid (VecAt.new w 5 (bcells (List.replicate n 0)))
  rw [bcells_zero] at hmk
  go_enter Try.func22, Try.ntmps22
  go_wp2_with fail
  go_loopw [0, 6] (fun v i wr => ∃ q : Int, -1 ≤ q ∧ q < n ∧ i = .int .i64 q ∧ v = .int .u64 (x / 256 ^ (n - 1 - q).toNat : Nat) ∧ VecAt wr w.heap.size 5 (bcells (List.replicate (q + 1).toNat 0 ++ big (n - 1 - q).toNat x)) ∧ Frm (fun _ => False) w wr) (fun _ i _ => (intOf i + 1).toNat)
  case atStart =>
    refine ⟨(n : Int) - 1, by omega, by omega, rfl, ?_, ?_, (Frm.refl _ _).alloc _⟩
    · rw [show ((n : Int) - 1 - ((n : Int) - 1)).toNat = 0 by omega]; simp
    · rw [show ((n : Int) - 1 - ((n : Int) - 1)).toNat = 0 by omega, show ((n : Int) - 1 + 1).toNat = n by omega]
      simpa [big] using HV.out
  case round =>
    obtain ⟨q, hq1, hq2, rfl, rfl, hv, hf⟩ := hrel
    have HF := Lib.hid hf
    by_cases hq : 0 ≤ q
    · obtain ⟨j, rfl⟩ := Int.eq_ofNat_of_zero_le hq
      have hjn : j < n := by omega
      have HM := Lib.hid (show ((n : Int) - 1 - ((j : Int) - 1)).toNat = ((n : Int) - 1 - (j : Int)).toNat + 1 by omega)
      have hc : wr.cell? ⟨w.heap.size, j, none⟩ = some (.int .u8 ((0 : Nat) : Int)) := hv.cell (bcells_get (by
        rw [List.getElem?_append_left (by simp only [List.length_replicate]; omega), List.getElem?_replicate]
        rw [if_pos (by omega)]))
      have hfz := hv.frozen j
      have HV2 := Lib.hid hv
      clear hv hf
      generalize ((n : Int) - 1 - (j : Int)).toNat = m at *
      have HB : Hid (((x / 256 ^ m : Nat) : Int) % 256 = ((x / 256 ^ m % 256 : Nat) : Int)) := Lib.hid (by omega)
      have HD : Hid (x / 256 ^ m / 256 = x / 256 ^ (m + 1)) := Lib.hid (by rw [Nat.pow_succ, Nat.div_div_eq_div_mul])
      have hyl : x / 256 ^ m < 18446744073709551616 := Nat.lt_of_le_of_lt (Nat.div_le_self _ _) hx
      generalize hy : x / 256 ^ m = y at *
      have HVS := HV2.out.set j (.int .u8 ((y % 256 : Nat) : Int))
      rw [show ((j : Int) + 1).toNat = j + 1 by omega, bcells_set, set_rep, ← hy] at HVS
      have HVF : Hid (VecAt (wr.setCell ⟨w.heap.size, j, none⟩ (.int .u8 (x / 256 ^ m % 256 : Nat))) w.heap.size 5 (bcells (List.replicate j 0 ++ big (m + 1) x))) := Lib.hid HVS
      rw [hy] at HVF
      clear HVS hy
      go_wp2_with fail
      go_roundw
      case rel =>
        refine ⟨(j : Int) - 1, by omega, by omega, rfl, ?_, ?_, HF.out.setCell (.inr (Nat.le_refl _)) _⟩
        · rw [HM.out, ← HD.out]; simp
        · rw [HM.out, HB.out, show ((j : Int) - 1 + 1).toNat = j by omega]
          exact HVF.out
      case measure => simp [intOf]
    · obtain rfl : q = -1 := by omega
      have HV2 : Hid (VecAt wr w.heap.size 5 (bcells (big n x))) := Lib.hid (by simpa [show ((n : Int) - 1 - -1).toNat = n by omega] using hv)
      clear hv hf
      go_wp2_with fail
      go_ret
      exact ⟨rfl, HV2.out, HF.out⟩
def firstB (d : DM) : Int := d.op + (if d.device then 16 else 0) + (if d.done then 32 else 0)
theorem or16 : ∀ n : Fin 16, bits .or .u64 (n.val : Int) 16 = n.val + 16 := by decide
theorem or32 : ∀ n : Fin 32, bits .or .u64 (n.val : Int) 32 = n.val + 32 := by decide
theorem marks_c (w : World) (d : DM) (h0 : 0 ≤ d.op) (h1 : d.op ≤ 15) :
    Calls Try.prog 20 #[.agg d.cells.toArray] w fun e w' => e = .returned (.int .u64 (firstB d)) ∧ Frm (fun _ => False) w w' := by
  obtain ⟨op, req, slot, gen, frm, len, device, done, status⟩ := d
  simp only at h0 h1
  obtain ⟨k, rfl⟩ := Int.eq_ofNat_of_zero_le h0
  have o16 := or16 ⟨k, by omega⟩
  have o32 := or32 ⟨k, by omega⟩
  have o48 := or32 ⟨k + 16, by omega⟩
  simp only [Int.natCast_add, Int.cast_ofNat_Int] at o16 o32 o48
  simp only [DM.cells]
  cases device <;> cases done
  all_goals
    go_enter Try.func20, Try.ntmps20
    go_wp2_with fail
    go_ret
    first | exact ⟨ret_i (by simp [firstB]), (Frm.refl _ _).alloc _⟩ | exact ⟨ret_i (by simp [firstB, o48]), (Frm.refl _ _).alloc _⟩
end Go.Proofs.Ytkmgdfcpfdnkfaa
