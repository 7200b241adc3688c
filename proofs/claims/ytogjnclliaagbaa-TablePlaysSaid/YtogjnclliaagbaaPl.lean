/- Tables as lists: plain facts. -/
import Derived.Test.YtogjnclliaagbaaT2
import Derived.Test.YtogjnclliaagbaaT3
namespace Go.Proofs.Ytogjnclliaagbaa
/-- n slots, the i-th being F i. -/
def tab (n : Nat) (F : Nat → Slot) : List Slot := (List.range n).map F
theorem tab_length (n : Nat) (F : Nat → Slot) : (tab n F).length = n := by simp [tab]
theorem tab_get {n i : Nat} (h : i < n) (F : Nat → Slot) : (tab n F)[i]? = some (F i) := by simp [tab, h]
theorem tab_set {n k : Nat} (s : Slot) (F : Nat → Slot) : (tab n F).set k s = tab n (fun i => if i = k then s else F i) := by
  apply List.ext_getElem?
  intro i
  rw [List.getElem?_set]
  by_cases hi : i < n
  · rw [tab_get hi, tab_get hi]
    by_cases h : k = i
    · subst h; simp [tab, hi]
    · have h' : ¬ i = k := fun e => h e.symm
      simp [h, h']
  · rw [List.getElem?_eq_none (l := tab n fun i => if i = k then s else F i) (by rw [tab_length]; omega), List.getElem?_eq_none (l := tab n F) (by rw [tab_length]; omega)]
    simp [tab_length]; omega
theorem tab_congr {n : Nat} {F G : Nat → Slot} (h : ∀ i, i < n → F i = G i) : tab n F = tab n G := List.map_congr_left fun i hi => h i (by simpa using hi)
/-- n slots of generation g, the first k filled by f. -/
def filled (g : Int) (n k : Nat) (f : Nat → Int) : List Slot := tab n fun i => if i < k then .used g (f i) else .free g
theorem filled_zero (n : Nat) (f : Nat → Int) : filled 1 n 0 f = fresh n := by
  apply List.ext_getElem?
  intro i
  by_cases hi : i < n <;> simp [filled, fresh, tab, hi]
theorem filled_length {g : Int} {n k : Nat} (f : Nat → Int) : (filled g n k f).length = n := tab_length _ _
theorem filled_lt {g : Int} {n k i : Nat} (h : i < k) (hn : i < n) (f : Nat → Int) : (filled g n k f)[i]? = some (.used g (f i)) := by
  unfold filled; rw [tab_get hn, if_pos h]
theorem filled_ge {g : Int} {n k i : Nat} (h : k ≤ i) (hn : i < n) (f : Nat → Int) : (filled g n k f)[i]? = some (.free g) := by
  unfold filled; rw [tab_get hn, if_neg (by omega)]
theorem filled_set {g : Int} {n k : Nat} (f : Nat → Int) : (filled g n k f).set k (.used g (f k)) = filled g n (k + 1) f := by
  unfold filled
  rw [tab_set]
  apply tab_congr
  intro i _
  by_cases h : i = k
  · subst h; rw [if_pos rfl, if_pos (by omega)]
  · by_cases h2 : i < k
    · rw [if_neg h, if_pos h2, if_pos (by omega)]
    · rw [if_neg h, if_neg h2, if_neg (by omega)]
theorem at?_fresh (n : Nat) (s g : Int) : at? (fresh n) s g = none := by
  unfold at?
  split
  · rfl
  · by_cases h : s.toNat < n
    · simp [fresh, h]
    · simp [fresh, h]
theorem at?_nat {L : List Slot} {n : Nat} {g g' v : Int} (h : L[n]? = some (.used g' v)) : at? L n g = if g' = g then some v else none := by
  unfold at?; rw [if_neg (by omega)]; simp [h]
theorem at?_free {L : List Slot} {n : Nat} {g g' : Int} (h : L[n]? = some (.free g')) : at? L n g = none := by
  unfold at?; rw [if_neg (by omega)]; simp [h]
theorem at?_neg {L : List Slot} {s g : Int} (h : s < 0) : at? L s g = none := by unfold at?; rw [if_pos h]
theorem at?_far {L : List Slot} {n : Nat} {g : Int} (h : L.length ≤ n) : at? L n g = none := by
  unfold at?; rw [if_neg (by omega)]; simp [List.getElem?_eq_none h]
theorem at?_filled {n k : Nat} (hk : k ≤ n) (f : Nat → Int) (s g : Int) : at? (filled 1 n k f) s g = if 0 ≤ s ∧ s < k ∧ g = 1 then some (f s.toNat) else none := by
  by_cases h0 : s < 0
  · rw [at?_neg h0, if_neg (by omega)]
  · obtain ⟨m, rfl⟩ := Int.eq_ofNat_of_zero_le (show 0 ≤ s by omega)
    by_cases h1 : m < k
    · rw [at?_nat (filled_lt h1 (by omega) f)]
      by_cases hg : g = 1
      · rw [if_pos hg.symm, if_pos (by omega)]; rfl
      · rw [if_neg (fun e => hg e.symm), if_neg (by omega)]
    · rw [if_neg (by omega)]
      by_cases h2 : m < n
      · exact at?_free (filled_ge (by omega) h2 f)
      · exact at?_far (by rw [filled_length]; omega)
theorem wrap_u64 {x : Int} (h0 : 0 ≤ x) (h1 : x ≤ 18446744073709551615) : IntKind.u64.wrap x = x := by
  simp [IntKind.wrap, IntKind.bits, IntKind.signed]; omega
theorem cnt_all {L : List Slot} (h : ∀ (i : Nat) (s : Slot), L[i]? = some s → s.isUsed = true) : cnt L = L.length := by
  unfold cnt
  rw [List.countP_eq_length]
  intro a ha
  obtain ⟨i, hi⟩ := List.mem_iff_getElem?.1 ha
  exact h i a hi
theorem cnt_none {L : List Slot} (h : ∀ (i : Nat) (s : Slot), L[i]? = some s → s.isUsed = false) : cnt L = 0 := by
  unfold cnt
  rw [List.countP_eq_zero]
  intro a ha
  obtain ⟨i, hi⟩ := List.mem_iff_getElem?.1 ha
  simp [h i a hi]
theorem tab_some {n i : Nat} {F : Nat → Slot} {s : Slot} (h : (tab n F)[i]? = some s) : i < n ∧ s = F i := by
  have hi : i < n := by have := (List.getElem?_eq_some_iff.1 h).1; rwa [tab_length] at this
  rw [tab_get hi] at h; injection h with h; exact ⟨hi, h.symm⟩
theorem hands_none {L : List Slot} (h : ∀ (i : Nat) (s : Slot), L[i]? = some s → s.isUsed = false) : ∀ n, hands L n = []
  | 0 => rfl
  | n + 1 => by
    simp only [hands, hands_none h n, List.nil_append]
    cases hx : L[n]? with
    | none => rfl
    | some s =>
      cases s with
      | free g => rfl
      | used g v => exact absurd (h n _ hx) (by simp [Slot.isUsed])
/-- n slots that were of generation g, the first k of which have been dropped. -/
def drained (g : Int) (n k : Nat) (f : Nat → Int) : List Slot := tab n fun i => if i < k then .free (g + 1) else .used g (f i)
theorem drained_zero (g : Int) (n : Nat) (f : Nat → Int) : drained g n 0 f = filled g n n f := by
  unfold drained filled
  apply tab_congr
  intro i hi
  simp [hi]
theorem drained_all (g : Int) (n : Nat) (f : Nat → Int) : drained g n n f = filled (g + 1) n 0 f := by
  unfold drained filled
  apply tab_congr
  intro i hi
  simp [hi]
theorem drained_at {g : Int} {n k : Nat} (h : k < n) (f : Nat → Int) : (drained g n k f)[k]? = some (.used g (f k)) := by
  unfold drained; rw [tab_get h, if_neg (by omega)]
theorem drained_set {g : Int} {n k : Nat} (f : Nat → Int) : (drained g n k f).set k (.free (g + 1)) = drained g n (k + 1) f := by
  unfold drained
  rw [tab_set]
  apply tab_congr
  intro i _
  by_cases h : i = k
  · subst h; rw [if_pos rfl, if_pos (by omega)]
  · by_cases h2 : i < k
    · rw [if_neg h, if_pos h2, if_pos (by omega)]
    · rw [if_neg h, if_neg h2, if_neg (by omega)]
theorem filled_full (g : Int) (n : Nat) (f : Nat → Int) : ∀ (i : Nat) (s : Slot), (filled g n n f)[i]? = some s → s.isUsed = true := by
  intro i s h
  obtain ⟨hi, rfl⟩ := tab_some h
  simp [hi, Slot.isUsed]
theorem filled_empty (g : Int) (n : Nat) (f : Nat → Int) : ∀ (i : Nat) (s : Slot), (filled g n 0 f)[i]? = some s → s.isUsed = false := by
  intro i s h
  obtain ⟨hi, rfl⟩ := tab_some h
  simp [Slot.isUsed]
end Go.Proofs.Ytogjnclliaagbaa
