/- Put, Set, Drop in whatever state. -/
import Derived.Test.YtogjnclliaagbaaAw
import Derived.Test.YtogjnclliaagbaaPl
namespace Go.Proofs.Ytogjnclliaagbaa
open Go.RowKit
def PutR (L : List Slot) (v s g c : Int) (L' : List Slot) : Prop :=
  (∃ n : Nat, s = n ∧ c = 0 ∧ L[n]? = some (.free g) ∧ (∀ j : Nat, j < n → ∃ g x, L[j]? = some (.used g x)) ∧ L' = L.set n (.used g v)) ∨
  (s = 0 ∧ g = 0 ∧ c = 4 ∧ L' = L ∧ ∀ j : Nat, j < L.length → ∃ g x, L[j]? = some (.used g x))
def DropR (L : List Slot) (s g v c : Int) (L' : List Slot) : Prop :=
  (∃ n : Nat, s = n ∧ c = 0 ∧ L[n]? = some (.used g v) ∧ L' = L.set n (.free (IntKind.u64.wrap (g + 1)))) ∨
  (v = 0 ∧ c = 3 ∧ L' = L ∧ at? L s g = none)
def SetR (L : List Slot) (s g v c : Int) (L' : List Slot) : Prop :=
  (∃ n : Nat, ∃ x, s = n ∧ c = 0 ∧ L[n]? = some (.used g x) ∧ L' = L.set n (.used g v)) ∨
  (c = 3 ∧ L' = L ∧ at? L s g = none)
/-- The first free slot, or none. -/
theorem first_free (L : List Slot) : (∃ (n : Nat) (g : Int), L[n]? = some (.free g) ∧ ∀ j : Nat, j < n → ∃ g x, L[j]? = some (.used g x)) ∨ (∀ j : Nat, j < L.length → ∃ g x, L[j]? = some (.used g x)) := by
  have key : ∀ n, n ≤ L.length → (∃ (m : Nat) (g : Int), L[m]? = some (.free g) ∧ ∀ j : Nat, j < m → ∃ g x, L[j]? = some (.used g x)) ∨ (∀ j : Nat, j < n → ∃ g x, L[j]? = some (.used g x)) := by
    intro n
    induction n with
    | zero => intro _; exact .inr (by intro j hj; omega)
    | succ n ih =>
      intro hn
      rcases ih (by omega) with h | h
      · exact .inl h
      · cases hx : L[n]? with
        | none => rw [List.getElem?_eq_none_iff] at hx; omega
        | some s =>
          cases s with
          | free g => exact .inl ⟨n, g, hx, h⟩
          | used g x =>
            refine .inr (fun j hj => ?_)
            by_cases hjn : j = n
            · subst hjn; exact ⟨g, x, hx⟩
            · exact h j (by omega)
  exact key L.length (Nat.le_refl _)
theorem cell_via {S : Nat → Prop} {w w' : World} {o : Obj} {k i : Nat} {v : Value} (hf : Frm S (w.alloc o) w') (hs : ¬ S k) (hc : w.cell? ⟨k, i, none⟩ = some v) : w'.cell? ⟨k, i, none⟩ = some v :=
  hf.cell (by have := lt_of_cell hc; simp; omega) hs (by rw [World.cell?_alloc_past _ _ _ (lt_of_cell hc)]; exact hc)
section
variable {w : World} {p b cap : Nat} {L : List Slot}
theorem put_c (h : TabAt w p b cap L) (v : Int) : Calls Try.prog 12 #[.pointer (some ⟨p, 0, none⟩), .int .i64 v] w fun e w' =>
    ∃ s g c L', e = .returned (.tuple #[.agg #[.int .i64 s, .int .u64 g], .int .i64 c]) ∧ TabAt w' p b cap L' ∧ Frm (fun k => k = p ∨ k = b) w w' ∧ PutR L v s g c L' := by
  rcases first_free L with ⟨n, g, hn, hall⟩ | hall
  · exact (put_free h v g n hn hall).mono fun e w' ⟨he, ht, hf⟩ => ⟨n, g, 0, _, he, ht, hf, .inl ⟨n, rfl, rfl, hn, hall, rfl⟩⟩
  · exact (put_full h v hall).mono fun e w' ⟨he, hf⟩ => ⟨0, 0, 4, L, he, h.keep hf, hf.of_none, .inr ⟨rfl, rfl, rfl, rfl, hall⟩⟩
theorem drop_c (h : TabAt w p b cap L) (s g : Int) : Calls Try.prog 13 #[.pointer (some ⟨p, 0, none⟩), .agg #[.int .i64 s, .int .u64 g]] w fun e w' =>
    ∃ v c L', e = .returned (.tuple #[.int .i64 v, .int .i64 c]) ∧ TabAt w' p b cap L' ∧ Frm (fun k => k = p ∨ k = b) w w' ∧ DropR L s g v c L' := by
  cases hx : at? L s g with
  | none => exact (drop_none h s g hx).mono fun e w' ⟨he, hf⟩ => ⟨0, 3, L, he, h.keep hf, hf.of_none, .inr ⟨rfl, rfl, rfl, hx⟩⟩
  | some v =>
    obtain ⟨n, rfl, hn⟩ := at?_some hx
    exact (drop_some h n g v hn).mono fun e w' ⟨he, ht, hf⟩ => ⟨v, 0, _, he, ht, hf, .inl ⟨n, rfl, rfl, hn, rfl⟩⟩
theorem set_c (h : TabAt w p b cap L) (s g v : Int) : Calls Try.prog 15 #[.pointer (some ⟨p, 0, none⟩), .agg #[.int .i64 s, .int .u64 g], .int .i64 v] w fun e w' =>
    ∃ c L', e = .returned (.int .i64 c) ∧ TabAt w' p b cap L' ∧ Frm (fun k => k = p ∨ k = b) w w' ∧ SetR L s g v c L' := by
  cases hx : at? L s g with
  | none => exact (set_none h s g v hx).mono fun e w' ⟨he, hf⟩ => ⟨3, L, he, h.keep hf, hf.of_none, .inr ⟨rfl, rfl, hx⟩⟩
  | some x =>
    obtain ⟨n, rfl, hn⟩ := at?_some hx
    exact (set_some h n g x v hn).mono fun e w' ⟨he, ht, hf⟩ => ⟨0, _, he, ht, hf.mono (fun _ _ h => .inr h), .inl ⟨n, x, rfl, rfl, hn, rfl⟩⟩
end
def Slot.gen : Slot → Int
  | .free g => g
  | .used g _ => g
theorem fresh_get {n i : Nat} (h : i < n) : (fresh n)[i]? = some (.free 1) := by simp [fresh, h]
theorem fresh_length (n : Nat) : (fresh n).length = n := by simp [fresh]
theorem at?_zero {L : List Slot} {g v : Int} (h : L[0]? = some (.used g v)) : at? L 0 g = some v := by
  have := at?_nat (g := g) h; rw [if_pos rfl] at this; exact this
theorem put_keeps {L L' : List Slot} {v s g c : Int} (h : PutR L v s g c L') {n : Nat} {g' x : Int} (hn : L[n]? = some (.used g' x)) : L'[n]? = some (.used g' x) := by
  rcases h with ⟨m, _, _, hm, _, rfl⟩ | ⟨_, _, _, rfl, _⟩
  · rw [List.getElem?_set_ne]; exact hn
    rintro rfl; rw [hm] at hn; cases hn
  · exact hn
theorem drop_keeps {L L' : List Slot} {v s g c : Int} (h : DropR L s g v c L') {n : Nat} {g' x : Int} (hn : L[n]? = some (.used g' x)) (hne : ¬ (s = n ∧ g = g')) : L'[n]? = some (.used g' x) := by
  rcases h with ⟨m, rfl, _, hm, rfl⟩ | ⟨_, _, rfl, _⟩
  · rw [List.getElem?_set_ne]; exact hn
    rintro rfl; rw [hm] at hn; injection hn with hn; injection hn with h1 h2; exact hne ⟨rfl, h1⟩
  · exact hn
theorem put_gen {L L' : List Slot} {v s g c : Int} (h : PutR L v s g c L') {n : Nat} {t : Slot} (hn : L[n]? = some t) : ∃ t', L'[n]? = some t' ∧ t'.gen = t.gen := by
  rcases h with ⟨m, _, _, hm, _, rfl⟩ | ⟨_, _, _, rfl, _⟩
  · by_cases hmn : m = n
    · subst hmn
      rw [hm] at hn; injection hn with hn; subst hn
      exact ⟨.used g v, List.getElem?_set_self (List.getElem?_eq_some_iff.1 hm).1, rfl⟩
    · exact ⟨t, by rw [List.getElem?_set_ne hmn]; exact hn, rfl⟩
  · exact ⟨t, hn, rfl⟩
theorem drop_gen {L L' : List Slot} {v s g c : Int} (h : DropR L s g v c L') {n : Nat} {t : Slot} (hn : L[n]? = some t) : ∃ t', L'[n]? = some t' ∧ (t'.gen = t.gen ∨ t'.gen = IntKind.u64.wrap (t.gen + 1)) := by
  rcases h with ⟨m, rfl, _, hm, rfl⟩ | ⟨_, _, rfl, _⟩
  · by_cases hmn : m = n
    · subst hmn
      rw [hm] at hn; injection hn with hn; subst hn
      exact ⟨.free _, List.getElem?_set_self (List.getElem?_eq_some_iff.1 hm).1, .inr rfl⟩
    · exact ⟨t, by rw [List.getElem?_set_ne hmn]; exact hn, .inl rfl⟩
  · exact ⟨t, hn, .inl rfl⟩
theorem at?_gen {L : List Slot} {n : Nat} {t : Slot} (hn : L[n]? = some t) {g : Int} (hg : t.gen ≠ g) : at? L n g = none := by
  cases t with
  | free g' => exact at?_free hn
  | used g' x => rw [at?_nat hn]; exact if_neg hg
/-- In the loops: the table, and that what was there before is as it was. -/
structure FullAt (w wr : World) (p b cap : Nat) (L : List Slot) : Prop where
  tab : TabAt wr p b cap L
  frm : Frm (fun q => w.heap.size ≤ q) w wr
  hp : w.heap.size ≤ p
  hb : w.heap.size ≤ b
theorem FullAt.next {w wr w' : World} {p b cap : Nat} {L L' : List Slot} (h : FullAt w wr p b cap L) (ht : TabAt w' p b cap L') (hf : Frm (fun k => k = p ∨ k = b) wr w') : FullAt w w' p b cap L' :=
  ⟨ht, h.frm.trans (hf.up (by rintro q (rfl | rfl); exact h.hp; exact h.hb)), h.hp, h.hb⟩
theorem FullAt.keep {w wr w' : World} {p b cap : Nat} {L : List Slot} (h : FullAt w wr p b cap L) (hf : Frm (fun _ => False) wr w') : FullAt w w' p b cap L :=
  ⟨h.tab.keep hf, h.frm.trans hf.of_none, h.hp, h.hb⟩
theorem FullAt.alloc {w wr : World} {p b cap : Nat} {L : List Slot} (h : FullAt w wr p b cap L) (o : Obj) : FullAt w (wr.alloc o) p b cap L := h.keep ((Frm.refl _ _).alloc o)
theorem FullAt.drewN {w wr : World} {p b cap : Nat} {L : List Slot} (h : FullAt w wr p b cap L) (n : Nat) : FullAt w (wr.drewN n) p b cap L := h.keep ((Frm.refl _ _).drewN n)
end Go.Proofs.Ytogjnclliaagbaa
