/- At, of both. -/
import Derived.Test.YtnbbaggmkinfkaaRefA
namespace Go.Proofs.Ytnbbaggmkinfkaa
open Go.RowKit
def AtR (n : Nat) (L : List DM) (r : Nat) (k : Int) (d : DM) (c : Int) : Prop :=
  (∃ no : Nat, r ≤ no ∧ L[no]? = some d ∧ ((no % n : Nat) : Int) = k ∧ c = 0) ∨ ((∀ no : Nat, r ≤ no → no < L.length → ((no % n : Nat) : Int) ≠ k) ∧ d = DM.zero ∧ c = 6)
theorem AtR.det {n : Nat} {L : List DM} {r : Nat} {k : Int} {d d' : DM} {c c' : Int} (hl : L.length ≤ r + n) (h : AtR n L r k d c) (h' : AtR n L r k d' c') : d = d' ∧ c = c' := by
  rcases h with ⟨no, h1, h2, h3, rfl⟩ | ⟨h1, rfl, rfl⟩ <;> rcases h' with ⟨no', k1, k2, k3, rfl⟩ | ⟨k1, rfl, rfl⟩
  · have l1 := (List.getElem?_eq_some_iff.1 h2).1
    have l2 := (List.getElem?_eq_some_iff.1 k2).1
    by_cases e : no = no'
    · subst e; rw [h2] at k2; injection k2 with k2; exact ⟨k2, rfl⟩
    · exact absurd (show no % n = no' % n by omega) (mod_ne' e (by omega) (by omega))
  · exact absurd h3 (k1 no h1 (List.getElem?_eq_some_iff.1 h2).1)
  · exact absurd k3 (h1 no' k1 (List.getElem?_eq_some_iff.1 k2).1)
  · exact ⟨rfl, rfl⟩
theorem at_c {w : World} {p b n t r : Nat} {L : List DM} {P : List (Option DM)} (h : RingIs w p b n L t r P) (k : Int) :
    Calls Try.prog 23 #[.pointer (some ⟨p, 0, none⟩), .int .i64 k] w fun e w' => ∃ d c, e = .returned (.tuple #[.agg d.cells.toArray, .int .i64 c]) ∧ AtR n L r k d c ∧ Frm (fun _ => False) w w' := by
  by_cases hk : k < 0 ∨ (n : Int) ≤ k
  · refine (at_far h k hk).mono ?_
    rintro e w' ⟨rfl, hf⟩
    refine ⟨_, _, rfl, .inr ⟨fun no h1 h2 e => ?_, rfl, rfl⟩, hf⟩
    have : no % n < n := Nat.mod_lt _ (by have := h.hn; omega)
    omega
  · obtain ⟨j, rfl⟩ := Int.eq_ofNat_of_zero_le (show 0 ≤ k by omega)
    by_cases hex : ∃ no, r ≤ no ∧ no < L.length ∧ no % n = j
    · obtain ⟨no, h1, h2, rfl⟩ := hex
      refine (at_some h _ _ (h.here no _ h1 (List.getElem?_eq_getElem h2))).mono ?_
      rintro e w' ⟨rfl, hf⟩
      exact ⟨_, _, rfl, .inl ⟨no, h1, List.getElem?_eq_getElem h2, rfl, rfl⟩, hf⟩
    · have hg := h.gone j (by omega) fun no h1 h2 e => hex ⟨no, h1, h2, e⟩
      refine (at_none h j hg).mono ?_
      rintro e w' ⟨rfl, hf⟩
      exact ⟨_, _, rfl, .inr ⟨fun no h1 h2 e => hex ⟨no, h1, h2, by omega⟩, rfl, rfl⟩, hf⟩
end Go.Proofs.Ytnbbaggmkinfkaa
