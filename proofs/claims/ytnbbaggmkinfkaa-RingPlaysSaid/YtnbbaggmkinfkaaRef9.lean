/- The reference's Reap joined. -/
import Derived.Test.YtnbbaggmkinfkaaRef8
namespace Go.Proofs.Ytnbbaggmkinfkaa
open Go.RowKit
section
variable {w : World} {g base n t r : Nat} {v : Value} {L : List DM}
theorem rreap_c (h : RefIs w g base n v L t r) (hfr : ∀ (no : Nat) (d : DM), t ≤ no → L[no]? = some d → d.done = false) :
    Calls Try.prog 21 #[.pointer (some ⟨g, 0, none⟩)] w fun e w' => e = .returned (.tuple #[.agg (reapF L r).d.cells.toArray, .int .i64 (reapF L r).c]) ∧ RefIs w' g base n v L t (reapF L r).r ∧ Frm (fun k => k = g) w w' := by
  unfold reapF
  cases hd : L[r]? with
  | none =>
    have h1 := h.ord
    refine (rreap_none h (by rw [List.getElem?_eq_none_iff] at hd; omega)).mono ?_
    rintro e w' ⟨rfl, hf⟩
    exact ⟨rfl, h.keep hf, hf.of_none⟩
  | some d =>
    cases hdd : d.done with
    | true =>
      have hrt : r < t := by
        rcases Nat.lt_or_ge r t with hh | hh
        · exact hh
        · rw [hfr r d hh hd] at hdd; cases hdd
      refine (rreap_some h d hd hdd hrt).mono ?_
      rintro e w' ⟨rfl, hr, hf⟩
      exact ⟨by simp [hdd], by simpa [hdd] using hr, hf⟩
    | false =>
      refine (rreap_busy h d hd hdd).mono ?_
      rintro e w' ⟨rfl, hf⟩
      exact ⟨by simp [hdd], by simpa [hdd] using h.keep hf, hf.of_none⟩
end
end Go.Proofs.Ytnbbaggmkinfkaa
