/- Tables as lists: plain facts. -/
import Derived.Test.YtogjnclliaagbaaT3
namespace Go.Proofs.Ytogjnclliaagbaa
/-- n slots of generation 1, the first k filled by f. -/
def filled (n k : Nat) (f : Nat → Int) : List Slot := (List.range k).map (fun i => .used 1 (f i)) ++ List.replicate (n - k) (.free 1)
theorem filled_zero (n : Nat) (f : Nat → Int) : filled n 0 f = fresh n := by simp [filled, fresh]
theorem filled_length {n k : Nat} (h : k ≤ n) (f : Nat → Int) : (filled n k f).length = n := by simp [filled]; omega
theorem filled_lt {n k i : Nat} (h : i < k) (f : Nat → Int) : (filled n k f)[i]? = some (.used 1 (f i)) := by
  simp [filled, List.getElem?_append, h]
theorem filled_ge {n k i : Nat} (h : k ≤ i) (hn : i < n) (f : Nat → Int) : (filled n k f)[i]? = some (.free 1) := by
  unfold filled
  rw [List.getElem?_append_right (by simpa using h)]
  simp [List.getElem?_replicate]; omega
theorem filled_set {n k : Nat} (hk : k < n) (f : Nat → Int) : (filled n k f).set k (.used 1 (f k)) = filled n (k + 1) f := by
  apply List.ext_getElem?
  intro i
  rw [List.getElem?_set]
  have hl := filled_length (show k ≤ n by omega) f
  by_cases h1 : k = i
  · subst h1; rw [if_pos rfl, if_pos (by omega), filled_lt (by omega)]
  · rw [if_neg h1]
    by_cases h2 : i < k
    · rw [filled_lt h2, filled_lt (by omega)]
    · by_cases h3 : i < n
      · rw [filled_ge (by omega) h3, filled_ge (by omega) h3]
      · rw [List.getElem?_eq_none (by omega), List.getElem?_eq_none (by rw [filled_length (by omega)]; omega)]
theorem at?_fresh (n : Nat) (s g : Int) : at? (fresh n) s g = none := by
  unfold at?
  split
  · rfl
  · by_cases h : s.toNat < n
    · simp [fresh, h]
    · simp [fresh, h]
theorem at?_nat {L : List Slot} {n : Nat} {g g' v : Int} (h : L[n]? = some (.used g' v)) : at? L n g = if g' = g then some v else none := by
  unfold at?; rw [if_neg (by omega)]; simp [h]
theorem at?_free {L : List Slot} {n : Nat} {g g' : Int} (h : L[n]? = some (.free g')) : at? L n g = none := by
  unfold at?; rw [if_neg (by omega)]; simp [h]
theorem at?_neg {L : List Slot} {s g : Int} (h : s < 0) : at? L s g = none := by unfold at?; rw [if_pos h]
theorem at?_far {L : List Slot} {n : Nat} {g : Int} (h : L.length ≤ n) : at? L n g = none := by
  unfold at?; rw [if_neg (by omega)]; simp [List.getElem?_eq_none h]
theorem at?_filled {n k : Nat} (hk : k ≤ n) (f : Nat → Int) (s g : Int) : at? (filled n k f) s g = if 0 ≤ s ∧ s < k ∧ g = 1 then some (f s.toNat) else none := by
  by_cases h0 : s < 0
  · rw [at?_neg h0, if_neg (by omega)]
  · obtain ⟨m, rfl⟩ := Int.eq_ofNat_of_zero_le (show 0 ≤ s by omega)
    by_cases h1 : m < k
    · rw [at?_nat (filled_lt h1 f)]
      by_cases hg : g = 1
      · rw [if_pos hg.symm, if_pos (by omega)]; rfl
      · rw [if_neg (fun e => hg e.symm), if_neg (by omega)]
    · rw [if_neg (by omega)]
      by_cases h2 : m < n
      · exact at?_free (filled_ge (by omega) h2 f)
      · exact at?_far (by rw [filled_length hk]; omega)
end Go.Proofs.Ytogjnclliaagbaa
