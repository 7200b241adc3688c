/- A heap as what its callers see: of each number, its key. -/
import Derived.Test.YteclboaeoohfoaaHB
namespace Go.Proofs.Yteclboaeoohfoaa
open Go.RowKit
theorem sub_len : ∀ (l1 l2 : List Nat), l1.Nodup → (∀ x, x ∈ l1 → x ∈ l2) → l1.length ≤ l2.length
  | [], _, _, _ => by simp
  | a :: t, l2, hd, h => by
    have ha : a ∈ l2 := h a (by simp)
    obtain ⟨h1, h2⟩ := List.nodup_cons.1 hd
    have ih := sub_len t (l2.erase a) h2 (fun x hx => by
      have hne : x ≠ a := fun e => h1 (e ▸ hx)
      exact (List.mem_erase_of_ne hne).2 (h x (by simp [hx])))
    rw [List.length_erase_of_mem ha] at ih
    have : 0 < l2.length := List.length_pos_of_mem ha
    simp only [List.length_cons]; omega
def getK (K : Nat → Option Int) (id : Int) : Option Int := if 0 ≤ id then K id.toNat else none
def putK (n : Nat) (K : Nat → Option Int) (id key : Int) : Nat → Option Int := if isB n id = true then fun j => if (j : Int) = id then some key else K j else K
def dropK (K : Nat → Option Int) (id : Int) : Nat → Option Int := fun j => if (j : Int) = id then none else K j
def countK (n : Nat) (K : Nat → Option Int) : Nat := ((List.range n).filter fun j => (K j).isSome).length
def FirstIs (K : Nat → Option Int) (j : Nat) (x : Int) : Prop := K j = some x ∧ ∀ (j' : Nat) (x' : Int), K j' = some x' → x < x' ∨ x = x' ∧ j ≤ j'
def HeapR (w : World) (T : Nat → Prop) (p n : Nat) (K : Nat → Option Int) : Prop :=
  ∃ (v vp : Value) (M : List Mb) (pl : Nat → Int), HpIs w p n v vp M pl ∧ Ord M ∧ (∀ (j : Nat) (x : Int), K j = some x ↔ Mb.mk j x ∈ M) ∧ (∀ k, Ter p v vp k → T k)
section
variable {w : World} {T : Nat → Prop} {p n : Nat} {K : Nat → Option Int}
theorem HeapR.keep {w' : World} {S : Nat → Prop} (h : HeapR w T p n K) (hf : Frm S w w') (hs : ∀ k, T k → ¬ S k) : HeapR w' T p n K := by
  obtain ⟨v, vp, M, pl, h1, h2, h3, h4⟩ := h
  exact ⟨v, vp, M, pl, h1.frm hf (fun k hk => hs k (h4 k hk)), h2, h3, h4⟩
theorem HeapR.mono {T' : Nat → Prop} (h : HeapR w T p n K) (ht : ∀ k, k < w.heap.size → T k → T' k) : HeapR w T' p n K := by
  obtain ⟨v, vp, M, pl, h1, h2, h3, h4⟩ := h
  exact ⟨v, vp, M, pl, h1, h2, h3, fun k hk => ht k (h1.terlt hk) (h4 k hk)⟩
theorem HeapR.nn (h : HeapR w T p n K) : 1 ≤ n ∧ n ≤ 1000 := by
  obtain ⟨v, vp, M, pl, h1, -⟩ := h
  exact h1.hn
theorem HeapR.lt (h : HeapR w T p n K) {j : Nat} {x : Int} (hj : K j = some x) : j < n := by
  obtain ⟨v, vp, M, pl, h1, h2, h3, h4⟩ := h
  obtain ⟨i, hi⟩ := List.getElem?_of_mem ((h3 j x).1 hj)
  exact (h1.pos i _ hi).1
theorem HpIs.nodup {v vp : Value} {M : List Mb} {pl : Nat → Int} (h : HpIs w p n v vp M pl) : (M.map Mb.id).Nodup := by
  rw [List.nodup_iff_pairwise_ne]
  rw [List.pairwise_iff_getElem]
  intro i j hi hj hlt e
  simp only [List.length_map] at hi hj
  simp only [List.getElem_map] at e
  have := h.inj (i := i) (k := j) (List.getElem?_eq_getElem hi) (List.getElem?_eq_getElem hj) e
  omega
theorem klen {v vp : Value} {M : List Mb} {pl : Nat → Int} (h : HpIs w p n v vp M pl) (h3 : ∀ (j : Nat) (x : Int), K j = some x ↔ Mb.mk j x ∈ M) : M.length = countK n K := by
  have e : M.length = (M.map Mb.id).length := by simp
  rw [e, countK]
  have h4 : ∀ x, x ∈ M.map Mb.id ↔ x ∈ (List.range n).filter fun j => (K j).isSome := by
    intro x
    rw [List.mem_map, List.mem_filter, List.mem_range, Option.isSome_iff_exists]
    constructor
    · rintro ⟨⟨i, y⟩, hm, rfl⟩
      obtain ⟨t, ht⟩ := List.getElem?_of_mem hm
      exact ⟨(h.pos t _ ht).1, y, (h3 i y).2 hm⟩
    · rintro ⟨_, y, hy⟩
      exact ⟨⟨x, y⟩, (h3 x y).1 hy, rfl⟩
  refine Nat.le_antisymm (sub_len _ _ h.nodup fun x => (h4 x).1) (sub_len _ _ ?_ fun x => (h4 x).2)
  exact List.Pairwise.sublist List.filter_sublist List.nodup_range
theorem len_k (h : HeapR w T p n K) : Calls Try.prog 20 #[.pointer (some ⟨p, 0, none⟩)] w fun e w' => e = .returned (.int .i64 (countK n K)) ∧ w = w' := by
  obtain ⟨v, vp, M, pl, h1, h2, h3, h4⟩ := h
  rw [← klen h1 h3]
  exact len_c h1
theorem key_k (h : HeapR w T p n K) (id : Int) : Calls Try.prog 19 #[.pointer (some ⟨p, 0, none⟩), .int .i64 id] w fun e w' =>
    e = .returned (.tuple #[.int .u64 ((getK K id).getD 0), .int .i64 (if (getK K id).isSome = true then 0 else 6)]) ∧ Frm (fun _ => False) w w' := by
  obtain ⟨v, vp, M, pl, h1, h2, h3, h4⟩ := h
  cases hk : getK K id with
  | none =>
    refine key_none h1 id fun m hm e => ?_
    have := (h3 m.id m.key).2 hm
    rw [getK, if_pos (by omega), ← e] at hk
    simp [this] at hk
  | some x =>
    have h0 : 0 ≤ id := by
      by_cases h : 0 ≤ id
      · exact h
      · rw [getK, if_neg h] at hk; cases hk
    rw [getK, if_pos h0] at hk
    obtain ⟨i, hi⟩ := List.getElem?_of_mem ((h3 _ x).1 hk)
    have := key_some h1 hi
    simp only [Int.toNat_of_nonneg h0] at this
    exact this
theorem first_k (h : HeapR w T p n K) : Calls Try.prog 18 #[.pointer (some ⟨p, 0, none⟩)] w fun e w' =>
    ((e = .returned (.tuple #[.int .i64 0, .int .u64 0, .int .i64 5]) ∧ ∀ j, K j = none) ∨ ∃ (j : Nat) (x : Int), e = .returned (.tuple #[.int .i64 j, .int .u64 x, .int .i64 0]) ∧ FirstIs K j x) ∧ Frm (fun _ => False) w w' := by
  obtain ⟨v, vp, M, pl, h1, h2, h3, h4⟩ := h
  cases M with
  | nil =>
    refine (first_none h1).mono ?_
    rintro e w' ⟨rfl, rfl⟩
    refine ⟨.inl ⟨rfl, fun j => ?_⟩, Frm.refl _ _⟩
    cases hj : K j with
    | none => rfl
    | some x => have := (h3 j x).1 hj; simp at this
  | cons m t =>
    refine (first_some h1 (m := m) rfl).mono ?_
    rintro e w' ⟨rfl, hf⟩
    refine ⟨.inr ⟨m.id, m.key, rfl, (h3 _ _).2 (by simp), fun j' x' hk => ?_⟩, hf⟩
    obtain ⟨i, hi⟩ := List.getElem?_of_mem ((h3 _ _).1 hk)
    have := root_least h2 (r := m) rfl i _ hi
    rw [nlt_iff] at this
    simp only at this; omega
end
end Go.Proofs.Yteclboaeoohfoaa
