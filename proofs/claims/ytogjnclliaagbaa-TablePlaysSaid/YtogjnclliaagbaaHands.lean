/- The handles of a table, as a list. -/
import Derived.Test.YtogjnclliaagbaaC
namespace Go.Proofs.Ytogjnclliaagbaa
theorem hands_some {L : List Slot} {n j : Nat} {s g : Int} (h : (hands L n)[j]? = some (s, g)) : ∃ m : Nat, s = m ∧ m < n ∧ ∃ v, L[m]? = some (.used g v) := by
  induction n with
  | zero => simp [hands] at h
  | succ n ih =>
    simp only [hands] at h
    rw [List.getElem?_append] at h
    split at h
    · obtain ⟨m, h1, h2, h3⟩ := ih h
      exact ⟨m, h1, by omega, h3⟩
    · cases hx : L[n]? with
      | none => simp [hx] at h
      | some t =>
        cases t with
        | free g' => simp [hx] at h
        | used g' v =>
          simp only [hx, List.getElem?_singleton] at h
          split at h
          · simp at h; obtain ⟨rfl, rfl⟩ := h; exact ⟨n, rfl, by omega, v, hx⟩
          · cases h
theorem hands_mem {L : List Slot} {n m : Nat} {g v : Int} (hm : m < n) (h : L[m]? = some (.used g v)) : ∃ j : Nat, (hands L n)[j]? = some ((m : Int), g) := by
  induction n with
  | zero => omega
  | succ n ih =>
    simp only [hands]
    by_cases hmn : m = n
    · subst hmn
      refine ⟨(hands L m).length, ?_⟩
      rw [List.getElem?_append_right (Nat.le_refl _)]
      simp [h]
    · obtain ⟨j, hj⟩ := ih (by omega)
      exact ⟨j, by rw [List.getElem?_append_left (List.getElem?_eq_some_iff.1 hj).1]; exact hj⟩
theorem hands_rise {L : List Slot} {n i j : Nat} {s g s' g' : Int} (hi : (hands L n)[i]? = some (s, g)) (hj : (hands L n)[j]? = some (s', g')) (hij : i < j) : s < s' := by
  induction n with
  | zero => simp [hands] at hi
  | succ n ih =>
    simp only [hands] at hi hj
    by_cases hjl : j < (hands L n).length
    · rw [List.getElem?_append_left hjl] at hj
      rw [List.getElem?_append_left (by omega)] at hi
      exact ih hi hj
    · rw [List.getElem?_append_right (by omega)] at hj
      cases hx : L[n]? with
      | none => simp [hx] at hj
      | some t =>
        cases t with
        | free g0 => simp [hx] at hj
        | used g0 v =>
          simp only [hx, List.getElem?_singleton] at hj
          split at hj
          · simp at hj
            rw [List.getElem?_append_left (by omega)] at hi
            obtain ⟨m, rfl, hm, _⟩ := hands_some hi
            omega
          · cases hj
theorem hands_cnt (L : List Slot) : ∀ n, n ≤ L.length → (hands L n).length = cnt (L.take n)
  | 0, _ => by simp [hands, cnt]
  | n + 1, h => by
    have hx : L[n]? = some L[n] := List.getElem?_eq_getElem (by omega)
    have e : L.take (n + 1) = L.take n ++ [L[n]] := by rw [List.take_succ_eq_append_getElem (by omega)]
    simp only [hands, List.length_append, hands_cnt L n (by omega), e, cnt, List.countP_append, hx]
    cases L[n] <;> simp [Slot.isUsed]
theorem hands_length (L : List Slot) : (hands L L.length).length = cnt L := by
  have := hands_cnt L L.length (Nat.le_refl _)
  rwa [List.take_length] at this
def henc (h : Int × Int) : List Value := [.int .i64 h.1, .int .u64 h.2]
theorem henc_length (r : Int × Int) : (henc r).length = 2 := rfl
theorem hcells_eq (H : List (Int × Int)) : hcells H = H.flatMap henc := rfl
open Go.RowKit in
theorem all_rows {w : World} {p b cap : Nat} {L : List Slot} (h : TabAt w p b cap L) :
    Calls Try.prog 17 #[.pointer (some ⟨p, 0, none⟩)] w fun e w' => ∃ A c, e = .returned (.slice A (hands L L.length).length c) ∧ RowsAt w' A 2 henc (hands L L.length) ∧
      (∀ b off, A = some ⟨b, off, none⟩ → w.heap.size ≤ b) ∧ Frm (fun _ => False) w w' := by
  refine (all_c h).mono ?_
  rintro e w' ⟨v, rfl, hown, hf⟩
  rw [hcells_eq] at hown
  obtain ⟨A, c, rfl, h1, h2⟩ := own_rows henc_length rfl hown
  exact ⟨A, c, rfl, h1, h2, hf⟩
/-- Which slots are free. -/
def Cons (n : Nat) (L : List Slot) (F : Nat → Bool) : Prop := L.length = n ∧ ∀ (j : Nat) (s : Slot), L[j]? = some s → F j = !s.isUsed
theorem Cons.set {n : Nat} {L : List Slot} {F : Nat → Bool} (h : Cons n L F) {k : Nat} (hk : k < n) (s : Slot) : Cons n (L.set k s) (fun i => if i = k then !s.isUsed else F i) := by
  refine ⟨by rw [List.length_set]; exact h.1, fun j t hj => ?_⟩
  by_cases hjk : j = k
  · subst hjk
    rw [List.getElem?_set_self (by rw [h.1]; exact hk)] at hj
    injection hj with hj; subst hj; simp
  · rw [List.getElem?_set_ne (fun e => hjk e.symm)] at hj
    exact (if_neg hjk).trans (h.2 j t hj)
/-- How far the handles have been looked through for slot k. -/
def Seen (H : List (Int × Int)) (L : List Slot) (F : Nat → Bool) (k r : Nat) (L' : List Slot) (F' : Nat → Bool) : Prop :=
  (L' = L ∧ F' = F ∧ ∀ (j : Nat) (s g : Int), j < r → H[j]? = some (s, g) → s ≠ k) ∨
  (∃ g, L' = L.set k (.free g) ∧ F' = (fun i => if i = k then true else F i) ∧ ∃ (j : Nat) (g : Int), j < r ∧ H[j]? = some ((k : Int), g))
theorem seen_skip {n : Nat} {L : List Slot} {F : Nat → Bool} {k r : Nat} {L' : List Slot} {F' : Nat → Bool} {s g : Int} (h : Seen (hands L n) L F k r L' F') (hr : (hands L n)[r]? = some (s, g)) (hs : s ≠ k) : Seen (hands L n) L F k (r + 1) L' F' := by
  rcases h with ⟨h1, h2, h3⟩ | ⟨g', h1, h2, j, g2, h3, h4⟩
  · refine .inl ⟨h1, h2, fun j s' g' hj hx => ?_⟩
    by_cases hjr : j = r
    · subst hjr; rw [hr] at hx; injection hx with hx; injection hx with hx; subst hx; exact hs
    · exact h3 j s' g' (by omega) hx
  · exact .inr ⟨g', h1, h2, j, g2, by omega, h4⟩
theorem seen_hit {n : Nat} {L : List Slot} {F : Nat → Bool} {k r : Nat} {L' : List Slot} {F' : Nat → Bool} {g : Int} (h : Seen (hands L n) L F k r L' F') (hr : (hands L n)[r]? = some ((k : Int), g)) :
    L' = L ∧ F' = F ∧ ∃ v, L[k]? = some (.used g v) := by
  rcases h with ⟨h1, h2, h3⟩ | ⟨g', h1, h2, j, g2, h3, h4⟩
  · obtain ⟨m, hm, _, hv⟩ := hands_some hr
    obtain rfl : k = m := by omega
    exact ⟨h1, h2, hv⟩
  · have := hands_rise h4 hr h3
    omega
theorem seen_all {n : Nat} {L : List Slot} {F : Nat → Bool} {k : Nat} {L' : List Slot} {F' : Nat → Bool} (hc : Cons n L F) (hk : k < n) (h : Seen (hands L L.length) L F k (hands L L.length).length L' F') : Cons n L' F' ∧ ∃ g, L'[k]? = some (.free g) := by
  rcases h with ⟨rfl, rfl, h3⟩ | ⟨g', rfl, rfl, _⟩
  · refine ⟨hc, ?_⟩
    obtain ⟨x, hx⟩ : ∃ x, L'[k]? = some x := ⟨_, List.getElem?_eq_getElem (by rw [hc.1]; exact hk)⟩
    cases x with
    | free g => exact ⟨g, hx⟩
    | used g v =>
      obtain ⟨j, hj⟩ := hands_mem (n := L'.length) (by rw [hc.1]; exact hk) hx
      exact absurd rfl (h3 j _ _ (List.getElem?_eq_some_iff.1 hj).1 hj)
  · refine ⟨?_, g', List.getElem?_set_self (by rw [hc.1]; exact hk)⟩
    exact hc.set hk (.free g')
end Go.Proofs.Ytogjnclliaagbaa
