/- is, Len, ahead. -/
import Derived.Test.YteclboaeoohfoaaBase
namespace Go.Proofs.Yteclboaeoohfoaa
open Go.RowKit
def isB (n : Nat) (id : Int) : Bool := decide (0 ≤ id ∧ id < n)
section
variable {w : World} {p n : Nat} {v vp : Value} {M : List Mb} {pl : Nat → Int}
set_option maxHeartbeats 1000000 in
theorem is_c (h : HpIs w p n v vp M pl) (id : Int) : Calls Try.prog 23 #[.pointer (some ⟨p, 0, none⟩), .int .i64 id] w fun e w' => e = .returned (.bool (isB n id)) ∧ w = w' := by
  obtain ⟨q, c, rfl, -⟩ := h.place
  have h1 := h.c1
  clear h
  by_cases h0 : 0 ≤ id
  · by_cases h2 : id < n
    · rw [show isB n id = true by simp [isB, h0, h2]]
      go_enter Try.func23, Try.ntmps23
      go_wp2_with fail
      go_ret
      exact ⟨rfl, rfl⟩
    · rw [show isB n id = false by simp [isB, h2]]
      have e : decide (id < n) = false := by simpa using h2
      go_enter Try.func23, Try.ntmps23
      go_wp2_with fail
      go_ret
      exact ⟨rfl, rfl⟩
  · rw [show isB n id = false by simp [isB, h0]]
    have e : decide (0 ≤ id) = false := by simpa using h0
    go_enter Try.func23, Try.ntmps23
    go_wp2_with fail
    go_ret
    exact ⟨rfl, rfl⟩
theorem len_c (h : HpIs w p n v vp M pl) : Calls Try.prog 20 #[.pointer (some ⟨p, 0, none⟩)] w fun e w' => e = .returned (.int .i64 M.length) ∧ w = w' := by
  obtain ⟨A, c, rfl⟩ := h.list
  have h1 := h.c0
  clear h
  go_enter Try.func20, Try.ntmps20
  go_wp2_with fail
  go_ret
  exact ⟨rfl, rfl⟩
set_option maxRecDepth 100000 in
set_option maxHeartbeats 4000000 in
theorem ahead_c (h : HpIs w p n v vp M pl) {i k : Nat} {a b : Mb} (hi : M[i]? = some a) (hk : M[k]? = some b) :
    Calls Try.prog 28 #[.pointer (some ⟨p, 0, none⟩), .int .i64 i, .int .i64 k] w fun e w' => e = .returned (.bool (ltB a b)) ∧ Frm (fun _ => False) w w' := by
  obtain ⟨g, c, rfl, hg, hc, hgp, -⟩ := h.elem hi
  have h0 := h.c0
  obtain ⟨a0, a1, -⟩ := h.ecell hi
  obtain ⟨b0, b1, -⟩ := h.ecell hk
  have hil := (List.getElem?_eq_some_iff.1 hi).1
  have hkl := (List.getElem?_eq_some_iff.1 hk).1
  have i1 : (i : Int) < (M.length : Int) := by omega
  have k1 : (k : Int) < (M.length : Int) := by omega
  have hp := h.lt
  have n1 : g ≠ w.heap.size := by omega
  have n2 : g ≠ w.heap.size + 1 := by omega
  clear h hi hk
  obtain ⟨ai, ak⟩ := a
  obtain ⟨bi, bk⟩ := b
  simp only at a0 a1 b0 b1
  go_enter Try.func28, Try.ntmps28
  go_wp2_with fail
  go_region
  all_goals
    go_wp2_with fail
    all_goals
      go_ret
      refine ⟨?_, (((Frm.refl _ _).alloc _).alloc _).drew⟩
      simp_all [ltB]
      try omega
end
end Go.Proofs.Yteclboaeoohfoaa
