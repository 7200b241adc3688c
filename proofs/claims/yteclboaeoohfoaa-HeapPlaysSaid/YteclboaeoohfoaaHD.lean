/- Put, Drop, Take, First, New on what callers see. -/
import Derived.Test.YteclboaeoohfoaaHC
namespace Go.Proofs.Yteclboaeoohfoaa
open Go.RowKit
theorem mendInv_of {M Mx : List Mb} {i : Nat} (h : Ord M) (ha : ∀ (j : Nat) (m : Mb), j ≠ i → Mx[j]? = some m → M[j]? = some m) : MendInv Mx i := by
  refine ⟨fun j hj h1 h2 m p hm hp => h j hj m p (ha _ _ h1 hm) (ha _ _ h2 hp), fun j hj h1 h0 m p hm hp => ?_⟩
  exact (ord_down h i).2 j hj h1 h0 m p (ha _ _ (by omega) hm) (ha _ _ (by omega) hp)
theorem mend_of {M Mx : List Mb} {i : Nat} (h : Ord M) (ha : ∀ (j : Nat) (m : Mb), j ≠ i → Mx[j]? = some m → M[j]? = some m) : Ord (mendF Mx i) := by
  by_cases hl : i < Mx.length
  · exact mend_ord hl (mendInv_of h ha)
  · rw [mendF, if_neg hl]
    intro j hj m p hm hp
    have hjl := (List.getElem?_eq_some_iff.1 hm).1
    exact h j hj m p (ha _ _ (by omega) hm) (ha _ _ (by omega) hp)
theorem putM_agree {M Mx : List Mb} {j i : Nat} {key : Int} (hp : PutM M Mx j key i) : ∀ (a : Nat) (m : Mb), a ≠ i → Mx[a]? = some m → M[a]? = some m := by
  intro a m hne hm
  rcases hp with ⟨m0, h1, h2, rfl⟩ | ⟨h1, rfl, rfl⟩
  · rwa [List.getElem?_set_ne (fun e => hne e.symm)] at hm
  · by_cases hl : a < M.length
    · rwa [List.getElem?_append_left hl] at hm
    · have := (List.getElem?_eq_some_iff.1 hm).1
      simp at this; omega
theorem drop_agree {M L : List Mb} {i k : Nat} {m l : Mb} (hk : M.length = k + 1) (hL : sw M i k m l = L ++ [m]) : ∀ (a : Nat) (x : Mb), a ≠ i → L[a]? = some x → M[a]? = some x := by
  intro a x hne hx
  have hal := (List.getElem?_eq_some_iff.1 hx).1
  have hlk : L.length = k := by
    have := congrArg List.length hL
    rw [sw_len, hk] at this
    simpa using this.symm
  have : (sw M i k m l)[a]? = some x := by rw [hL, List.getElem?_append_left hal]; exact hx
  rwa [sw_oth hne (by omega)] at this
def putC (n : Nat) (id : Int) : Int := if isB n id = true then 0 else 1
def dropC (K : Nat → Option Int) (id : Int) : Int := if (getK K id).isSome = true then 0 else 6
def Grow (T T' : Nat → Prop) (w w' : World) : Prop := (∀ k, T' k → k < w'.heap.size ∧ (T k ∨ w.heap.size ≤ k)) ∧ Frm T w w'
section
variable {w : World} {T : Nat → Prop} {p n : Nat} {K : Nat → Option Int}
theorem put_k (h : HeapR w T p n K) (id key : Int) :
    Calls Try.prog 12 #[.pointer (some ⟨p, 0, none⟩), .int .i64 id, .int .u64 key] w fun e w' =>
      e = .returned (.int .i64 (putC n id)) ∧ ∃ T', HeapR w' T' p n (putK n K id key) ∧ Grow T T' w w' := by
  obtain ⟨v, vp, M, pl, h1, h2, h3, h4⟩ := h
  cases hb : isB n id with
  | false =>
    refine (put_arg h1 id key hb).mono ?_
    rintro e w' ⟨rfl, rfl⟩
    refine ⟨by rw [putC, hb]; rfl, Ter p v vp, ?_, fun k hk => ⟨h1.terlt hk, .inl (h4 k hk)⟩, Frm.refl _ _⟩
    rw [putK, hb]
    exact ⟨v, vp, M, pl, h1, h2, h3, fun _ h => h⟩
  | true =>
    have hid : 0 ≤ id ∧ id < n := by simpa [isB] using hb
    obtain ⟨j, rfl⟩ : ∃ j : Nat, id = j := ⟨id.toNat, by omega⟩
    refine (put_ok h1 (j := j) (by omega) key).mono ?_
    rintro e w' ⟨rfl, ⟨v', Mx, i, pl', hp, h5, h6⟩, hf⟩
    refine ⟨by rw [putC, hb]; rfl, Ter p v' vp, ⟨v', vp, _, pl', h5, mend_of h2 (putM_agree hp), fun a x => ?_, fun _ h => h⟩, fun k hk => ⟨h5.terlt hk, ?_⟩, hf.mono fun k _ hk => h4 k hk⟩
    · rw [mend_mem, putK, hb, if_pos rfl]
      rcases hp with ⟨m, hm, rfl, rfl⟩ | ⟨hno, rfl, rfl⟩
      · have hil := (List.getElem?_eq_some_iff.1 hm).1
        by_cases e : a = m.id
        · subst e
          simp only [if_true, Option.some.injEq]
          constructor
          · rintro rfl
            exact List.mem_of_getElem? (i := i) (by simp [hil])
          · intro hmem
            obtain ⟨t, ht⟩ := List.getElem?_of_mem hmem
            by_cases e2 : t = i
            · subst e2
              simp [hil] at ht; exact ht
            · rw [List.getElem?_set_ne (fun e => e2 e.symm)] at ht
              exact absurd (h1.inj ht hm rfl) e2
        · have e' : ¬ (a : Int) = m.id := by omega
          rw [if_neg e', h3]
          constructor
          · intro hmem
            obtain ⟨t, ht⟩ := List.getElem?_of_mem hmem
            refine List.mem_of_getElem? (i := t) ?_
            have e2 : i ≠ t := by
              rintro rfl
              rw [hm] at ht; injection ht with ht; subst ht; exact e rfl
            rw [List.getElem?_set_ne e2]; exact ht
          · intro hmem
            obtain ⟨t, ht⟩ := List.getElem?_of_mem hmem
            by_cases e2 : i = t
            · subst e2
              simp [hil] at ht; exact absurd ht.1.symm e
            · rw [List.getElem?_set_ne e2] at ht
              exact List.mem_of_getElem? ht
      · rw [List.mem_append, List.mem_singleton]
        by_cases e : a = j
        · subst e
          simp only [if_true, Option.some.injEq, Mb.mk.injEq, true_and]
          constructor
          · rintro rfl; exact .inr rfl
          · rintro (h | h)
            · exact absurd rfl (hno _ h)
            · exact h.symm
        · have e' : ¬ (a : Int) = j := by omega
          rw [if_neg e', h3]
          constructor
          · exact .inl
          · rintro (h | h)
            · exact h
            · injection h with h; exact absurd h e
    · rcases hk with e | e | e
      · exact .inl (h4 k (.inl e))
      · rcases h6 k e with e | e
        · exact .inl (h4 k (.inr (.inl e)))
        · exact .inr e
      · exact .inl (h4 k (.inr (.inr e)))
theorem none_of {id : Int} (hk : getK K id = none) : dropK K id = K := by
  funext j
  unfold dropK
  split
  · rename_i e
    rw [← e, getK, if_pos (by omega)] at hk
    simpa using hk.symm
  · rfl
theorem drop_k (h : HeapR w T p n K) (id : Int) :
    Calls Try.prog 14 #[.pointer (some ⟨p, 0, none⟩), .int .i64 id] w fun e w' =>
      e = .returned (.int .i64 (dropC K id)) ∧ ∃ T', HeapR w' T' p n (dropK K id) ∧ Grow T T' w w' := by

  obtain ⟨v, vp, M, pl, h1, h2, h3, h4⟩ := h
  cases hk : getK K id with
  | none =>
    refine (drop_none h1 id ?_).mono ?_
    · intro m hm e
      have := (h3 m.id m.key).2 hm
      rw [getK, if_pos (by omega), ← e] at hk
      simp [this] at hk
    · rintro e w' ⟨rfl, rfl⟩
      refine ⟨by rw [dropC, hk]; rfl, Ter p v vp, ?_, fun k hk => ⟨h1.terlt hk, .inl (h4 k hk)⟩, Frm.refl _ _⟩
      rw [none_of hk]
      exact ⟨v, vp, M, pl, h1, h2, h3, fun _ h => h⟩
  | some x =>
    have h0 : 0 ≤ id := by
      by_cases h : 0 ≤ id
      · exact h
      · rw [getK, if_neg h] at hk; cases hk
    obtain ⟨j, rfl⟩ : ∃ j : Nat, id = j := ⟨id.toNat, by omega⟩
    have hk0 := hk
    rw [getK, if_pos h0, Int.toNat_natCast] at hk
    obtain ⟨i, hi⟩ := List.getElem?_of_mem ((h3 _ x).1 hk)
    refine (drop_some h1 hi).mono ?_
    rintro e w' ⟨rfl, ⟨v', L, l, pl', hl, hL, h5, h6⟩, hf⟩
    have hil := (List.getElem?_eq_some_iff.1 hi).1
    obtain ⟨k, hlen⟩ : ∃ k, M.length = k + 1 := ⟨M.length - 1, by omega⟩
    rw [show M.length - 1 = k by omega] at hl hL
    have hlk : L.length = k := by
      have := congrArg List.length hL
      rw [sw_len, hlen] at this
      simpa using this.symm
    refine ⟨by rw [dropC, hk0]; rfl, Ter p v' vp, ⟨v', vp, _, pl', h5, mend_of h2 (drop_agree hlen hL), fun a y => ?_, fun _ h => h⟩, fun k hk => ⟨h5.terlt hk, ?_⟩, hf.mono fun k _ hk => h4 k hk⟩
    · rw [mend_mem, dropK]
      have hmem : ∀ z, z ∈ L ++ [⟨j, x⟩] ↔ z ∈ M := fun z => by rw [← hL]; exact sw_mem hi hl
      by_cases e : a = j
      · subst e
        rw [if_pos rfl]
        constructor
        · intro h; cases h
        · intro h
          obtain ⟨t, ht⟩ := List.getElem?_of_mem h
          have htl := (List.getElem?_eq_some_iff.1 ht).1
          have h7 : (sw M i k ⟨a, x⟩ l)[t]? = some ⟨a, y⟩ := by rw [hL, List.getElem?_append_left htl]; exact ht
          rcases sw_get hi hl h7 with ⟨e1, _⟩ | ⟨e1, e2, e3⟩ | ⟨e1, e2, e3⟩
          · omega
          · subst e3
            have := h1.inj hl hi rfl
            omega
          · exact absurd (h1.inj e3 hi rfl) e2
      · have e' : ¬ (a : Int) = j := by omega
        rw [if_neg e', h3, ← hmem, List.mem_append, List.mem_singleton]
        constructor
        · rintro (h | h)
          · exact h
          · injection h with h; exact absurd h e
        · exact .inl
    · rcases hk with e | e | e
      · exact .inl (h4 k (.inl e))
      · rw [h6] at e; exact .inl (h4 k (.inr (.inl e)))
      · exact .inl (h4 k (.inr (.inr e)))
theorem new_k (w : World) (n : Nat) (hn : 1 ≤ n ∧ n ≤ 1000) :
    Calls Try.prog 10 #[.int .i64 n] w fun e w' => e = .returned (.tuple #[.pointer (some ⟨w.heap.size, 0, none⟩), .int .i64 0]) ∧
      ∃ T', HeapR w' T' w.heap.size n (fun _ => none) ∧ Grow (fun _ => False) T' w w' := by
  refine (new_ok w n hn).mono ?_
  rintro e w' ⟨rfl, ⟨vp, h1, h2⟩, hf⟩
  refine ⟨rfl, Ter w.heap.size (.slice none 0 0) vp, ⟨_, vp, [], _, h1, fun j hj m p hm => by simp at hm, fun j x => by simp, fun _ h => h⟩, fun k hk => ⟨h1.terlt hk, .inr ?_⟩, hf⟩
  rcases hk with e | e | e
  · omega
  · simp [Value.ownBlock] at e
  · exact h2 k e
theorem HeapR.first (h : HeapR w T p n K) : (∀ j, K j = none) ∨ ∃ j x, FirstIs K j x := by
  obtain ⟨v, vp, M, pl, h1, h2, h3, h4⟩ := h
  cases M with
  | nil =>
    refine .inl fun j => ?_
    cases hj : K j with
    | none => rfl
    | some x => have := (h3 j x).1 hj; simp at this
  | cons m t =>
    refine .inr ⟨m.id, m.key, (h3 _ _).2 (by simp), fun j' x' hk => ?_⟩
    obtain ⟨i, hi⟩ := List.getElem?_of_mem ((h3 _ _).1 hk)
    have := root_least h2 (r := m) rfl i _ hi
    rw [nlt_iff] at this
    simp only at this; omega
theorem FirstIs.det {K : Nat → Option Int} {j j' : Nat} {x x' : Int} (h : FirstIs K j x) (h' : FirstIs K j' x') : j = j' ∧ x = x' := by
  have h1 := h.2 _ _ h'.1
  have h2 := h'.2 _ _ h.1
  omega
theorem first_n (h : HeapR w T p n K) (hn : ∀ j, K j = none) : Calls Try.prog 18 #[.pointer (some ⟨p, 0, none⟩)] w fun e w' =>
    e = .returned (.tuple #[.int .i64 0, .int .u64 0, .int .i64 5]) ∧ Frm (fun _ => False) w w' := by
  refine (first_k h).mono ?_
  rintro e w' ⟨⟨rfl, -⟩ | ⟨j, x, rfl, h1⟩, hf⟩
  · exact ⟨rfl, hf⟩
  · have := h1.1; rw [hn] at this; cases this
theorem first_s (h : HeapR w T p n K) {j : Nat} {x : Int} (hn : FirstIs K j x) : Calls Try.prog 18 #[.pointer (some ⟨p, 0, none⟩)] w fun e w' =>
    e = .returned (.tuple #[.int .i64 j, .int .u64 x, .int .i64 0]) ∧ Frm (fun _ => False) w w' := by
  refine (first_k h).mono ?_
  rintro e w' ⟨⟨rfl, h1⟩ | ⟨j', x', rfl, h1⟩, hf⟩
  · have := hn.1; rw [h1] at this; cases this
  · obtain ⟨rfl, rfl⟩ := hn.det h1
    exact ⟨rfl, hf⟩
theorem take_n (h : HeapR w T p n K) (hn : ∀ j, K j = none) : Calls Try.prog 16 #[.pointer (some ⟨p, 0, none⟩)] w fun e w' =>
    e = .returned (.tuple #[.int .i64 0, .int .u64 0, .int .i64 5]) ∧ Frm (fun _ => False) w w' := by
  have HF := Lib.hid (first_n h hn)
  clear h hn
  go_enter Try.func16, Try.ntmps16
  go_wp2_with fail
  with_reducible refine HF.out.mono ?_
  rintro e w3 ⟨rfl, hf⟩
  go_wp2_with fail
  go_ret3
  exact ⟨rfl, hf⟩
theorem take_s (h : HeapR w T p n K) {j : Nat} {x : Int} (hn : FirstIs K j x) : Calls Try.prog 16 #[.pointer (some ⟨p, 0, none⟩)] w fun e w' =>
    e = .returned (.tuple #[.int .i64 j, .int .u64 x, .int .i64 0]) ∧ ∃ T', HeapR w' T' p n (dropK K j) ∧ Grow T T' w w' := by
  have HF := Lib.hid (first_s h hn)
  have HH := Lib.hid h
  clear h hn
  go_enter Try.func16, Try.ntmps16
  go_wp2_with fail
  with_reducible refine HF.out.mono ?_
  rintro e w3 ⟨rfl, hf⟩
  have F3 := Lib.hid hf
  clear hf
  go_wp2_with fail
  with_reducible refine (drop_k (HH.out.keep F3.out (fun _ _ => id)) j).mono ?_
  rintro e w4 ⟨rfl, T', hT, hg, hf⟩
  have H4 := Lib.hid hT
  have G4 := Lib.hid hg
  have F4 := Lib.hid hf
  clear hf hg hT
  go_wp2_with fail
  go_ret3
  refine ⟨rfl, T', H4.out, fun k hk => ?_, F3.out.of_none.trans F4.out⟩
  have := F3.out.size
  have := G4.out k hk
  refine ⟨this.1, ?_⟩
  rcases this.2 with e | e
  · exact .inl e
  · exact .inr (by omega)
end
end Go.Proofs.Yteclboaeoohfoaa
