/- swap. -/
import Derived.Test.YteclboaeoohfoaaH1
namespace Go.Proofs.Yteclboaeoohfoaa
open Go.RowKit
theorem mcells_set : ∀ (L : List Mb) (k : Nat) (d d' : Mb), L[k]? = some d → ((mcells L).set (k * 2) (.int .i64 d'.id)).set (k * 2 + 1) (.int .u64 d'.key) = mcells (L.set k d')
  | [], k, d, d', h => by simp at h
  | a :: L, 0, d, d', h => by simp [mcells, Mb.cells]
  | a :: L, k + 1, d, d', h => by
    have ih := mcells_set L k d d' (by simpa using h)
    simp only [mcells, List.flatMap_cons, List.set_cons_succ] at ih ⊢
    rw [List.set_append_right _ _ (by rw [mb_len]; omega), mb_len, show (k + 1) * 2 - 2 = k * 2 by omega, List.set_append_right _ _ (by rw [mb_len]; omega), mb_len, show (k + 1) * 2 + 1 - 2 = k * 2 + 1 by omega, ih]
section
variable {w : World} {p n : Nat} {v vp : Value} {M : List Mb} {pl : Nat → Int}
theorem own_set {g m c k : Nat} {M : List Mb} (h : w.ownsRow 0 57 2 (.slice (some ⟨g, 0, none⟩) m c) m (mcells M)) {a : Mb} (hk : M[k]? = some a) (b : Mb) :
    ((w.setCell ⟨g, k * 2, none⟩ (.int .i64 b.id)).setCell ⟨g, k * 2 + 1, none⟩ (.int .u64 b.key)).ownsRow 0 57 2 (.slice (some ⟨g, 0, none⟩) m c) m (mcells (M.set k b)) := by
  have := ((h.stored (k * 2) (.int .i64 b.id)).1.stored (k * 2 + 1) (.int .u64 b.key)).1
  rwa [mcells_set M k a b hk] at this
theorem set_keeps {g i k : Nat} {x y : Value} (hx : w.cell? ⟨g, k, none⟩ = some y) (hy : i = k → x = y) : (w.setCell ⟨g, i, none⟩ x).cell? ⟨g, k, none⟩ = some y := by
  by_cases h : i = k
  · subst h; rw [World.cell?_setCell_same _ _ _ hx, hy rfl]
  · rw [World.cell?_setCell_other _ _ _ _ (fun e => h (by simp at e))]; exact hx
theorem set_else {g i k : Nat} {x y : Value} (hx : w.cell? ⟨g, k, none⟩ = some y) (hy : i ≠ k) : (w.setCell ⟨g, i, none⟩ x).cell? ⟨g, k, none⟩ = some y := by
  rw [World.cell?_setCell_other _ _ _ _ (fun e => hy (by simp at e))]; exact hx
theorem set_any {g i k : Nat} {x z : Value} (hx : w.cell? ⟨g, k, none⟩ = some z) : (w.setCell ⟨g, i, none⟩ x).cell? ⟨g, k, none⟩ = some (if i = k then x else z) := by
  by_cases h : i = k
  · subst h; rw [World.cell?_setCell_same _ _ _ hx, if_pos rfl]
  · rw [World.cell?_setCell_other _ _ _ _ (fun e => h (by simp at e)), if_neg h]; exact hx
theorem set_far {q g i k : Nat} {x z : Value} (hx : w.cell? ⟨q, k, none⟩ = some z) (hne : g ≠ q) : (w.setCell ⟨g, i, none⟩ x).cell? ⟨q, k, none⟩ = some z := by
  rw [World.cell?_setCell_other _ _ _ _ (fun e => hne (by have := congrArg Addr.block e; simpa using this))]; exact hx
theorem sw_get {M : List Mb} {i k j : Nat} {a b m : Mb} (hi : M[i]? = some a) (hk : M[k]? = some b) (h : (sw M i k a b)[j]? = some m) : (j = k ∧ m = a) ∨ (j ≠ k ∧ j = i ∧ m = b) ∨ (j ≠ k ∧ j ≠ i ∧ M[j]? = some m) := by
  have hil := (List.getElem?_eq_some_iff.1 hi).1
  have hkl := (List.getElem?_eq_some_iff.1 hk).1
  simp only [sw, List.getElem?_set, List.length_set] at h
  by_cases e : k = j
  · subst e; simp [hkl] at h; exact .inl ⟨rfl, h.symm⟩
  · by_cases e' : i = j
    · subst e'; simp [e, hil] at h; exact .inr (.inl ⟨fun x => e x.symm, rfl, h.symm⟩)
    · simp [e, e'] at h; exact .inr (.inr ⟨fun x => e x.symm, fun x => e' x.symm, h⟩)
theorem sw_mem {M : List Mb} {i k : Nat} {a b m : Mb} (hi : M[i]? = some a) (hk : M[k]? = some b) : m ∈ sw M i k a b ↔ m ∈ M := by
  have hil := (List.getElem?_eq_some_iff.1 hi).1
  have hkl := (List.getElem?_eq_some_iff.1 hk).1
  constructor
  · intro h
    obtain ⟨j, hj⟩ := List.getElem?_of_mem h
    rcases sw_get hi hk hj with ⟨_, rfl⟩ | ⟨_, _, rfl⟩ | ⟨_, _, h⟩
    · exact List.mem_of_getElem? hi
    · exact List.mem_of_getElem? hk
    · exact List.mem_of_getElem? h
  · intro h
    obtain ⟨j, hj⟩ := List.getElem?_of_mem h
    have hjl := (List.getElem?_eq_some_iff.1 hj).1
    by_cases e : j = i
    · subst e
      rw [hi] at hj; obtain rfl := Option.some.inj hj
      exact List.mem_of_getElem? (i := k) (by simp [sw, hkl])
    · by_cases e' : j = k
      · subst e'
        rw [hk] at hj; obtain rfl := Option.some.inj hj
        refine List.mem_of_getElem? (i := i) ?_
        have : ¬ j = i := e
        simp [sw, this, hil]
      · refine List.mem_of_getElem? (i := j) ?_
        have h1 : ¬ k = j := fun x => e' x.symm
        have h2 : ¬ i = j := fun x => e x.symm
        simp only [sw, List.getElem?_set, h1, h2, if_false]
        exact hj
theorem HpIs.swapped {g c q c' : Nat} (h : HpIs w p n (.slice (some ⟨g, 0, none⟩) M.length c) (.slice (some ⟨q, 0, none⟩) n c') M pl) {i k : Nat} {a b : Mb} (hi : M[i]? = some a) (hk : M[k]? = some b) :
    HpIs ((((((w.setCell ⟨g, i * 2, none⟩ (.int .i64 b.id)).setCell ⟨g, i * 2 + 1, none⟩ (.int .u64 b.key)).setCell ⟨g, k * 2, none⟩ (.int .i64 a.id)).setCell ⟨g, k * 2 + 1, none⟩ (.int .u64 a.key)).setCell ⟨q, b.id, none⟩ (.int .i64 i)).setCell ⟨q, a.id, none⟩ (.int .i64 k))
      p n (.slice (some ⟨g, 0, none⟩) M.length c) (.slice (some ⟨q, 0, none⟩) n c') (sw M i k a b) (fun j => if j = a.id then k else if j = b.id then i else pl j) := by
  have hap := h.apart
  have hgp := (hap.1 g rfl).1
  have hqp := hap.2 q rfl
  have hgq : q ≠ g := by have := (hap.1 g rfl).2; intro e; subst e; exact this rfl
  have hil := (List.getElem?_eq_some_iff.1 hi).1
  have hkl := (List.getElem?_eq_some_iff.1 hk).1
  refine ⟨?_, ?_, ?_, h.hn, ?_, ?_⟩
  · refine VecAt.other (VecAt.other (VecAt.other (VecAt.other (VecAt.other (VecAt.other h.str ?_ _) ?_ _) ?_ _) ?_ _) ?_ _) ?_ _
    all_goals first | exact hgp.symm | exact hqp.symm
  · have h1 := own_set (own_set h.own hi b) (k := k) (a := if i = k then b else b) (by
      by_cases e : i = k
      · subst e; simp [hil]
      · simp [e, hk]) a
    have h2 := own_frm h1 (((Frm.refl (fun z => z = q) _).setCell (p := ⟨q, b.id, none⟩) (.inl rfl) (.int .i64 i)).setCell (p := ⟨q, a.id, none⟩) (.inl rfl) (.int .i64 k)) (fun z hz e => by
      have : g = z := by simpa [Value.ownBlock] using hz
      omega)
    have hl : (sw M i k a b).length = M.length := by simp [sw]
    rw [hl]
    exact h2
  · have h0 := own_frm h.pla ((((Frm.refl (fun z => z = g) _).setCell (p := ⟨g, i * 2, none⟩) (.inl rfl) (.int .i64 b.id)).setCell (p := ⟨g, i * 2 + 1, none⟩) (.inl rfl) (.int .u64 b.key)).setCell (p := ⟨g, k * 2, none⟩) (.inl rfl) (.int .i64 a.id) |>.setCell (p := ⟨g, k * 2 + 1, none⟩) (.inl rfl) (.int .u64 a.key)) (fun z hz e => by
      have : q = z := by simpa [Value.ownBlock] using hz
      omega)
    have h1 := ((h0.stored b.id (.int .i64 i)).1.stored a.id (.int .i64 k)).1
    rw [vals_set, vals_set] at h1
    refine cast ?_ h1
    congr 1
    refine vals_congr fun j _ => ?_
    by_cases e1 : j = a.id
    · simp [e1]
    · by_cases e2 : j = b.id
      · rw [if_neg e1, if_neg e1, if_pos e2, if_pos e2]
      · rw [if_neg e1, if_neg e1, if_neg e2, if_neg e2]
  · intro j m hm
    rcases sw_get hi hk hm with ⟨rfl, rfl⟩ | ⟨h1, rfl, rfl⟩ | ⟨h1, h2, h3⟩
    · exact ⟨(h.pos _ _ hi).1, by simp⟩
    · refine ⟨(h.pos _ _ hk).1, ?_⟩
      have : ¬ m.id = a.id := fun e => h1 (h.inj hk hi e).symm
      simp [this]
    · refine ⟨(h.pos _ _ h3).1, ?_⟩
      have e1 : ¬ m.id = a.id := fun e => h2 (h.inj h3 hi e)
      have e2 : ¬ m.id = b.id := fun e => h1 (h.inj h3 hk e)
      simp [e1, e2, (h.pos _ _ h3).2]
  · intro j hj hm
    have e1 : ¬ j = a.id := fun e => hm a ((sw_mem hi hk).2 (List.mem_of_getElem? hi)) e.symm
    have e2 : ¬ j = b.id := fun e => hm b ((sw_mem hi hk).2 (List.mem_of_getElem? hk)) e.symm
    simp only [e1, e2, if_false]
    exact h.out j hj fun m hmm => hm m ((sw_mem hi hk).2 hmm)
set_option maxRecDepth 100000 in
set_option maxHeartbeats 4000000 in
theorem swap_c (h : HpIs w p n v vp M pl) {i k : Nat} {a b : Mb} (hi : M[i]? = some a) (hk : M[k]? = some b) :
    Calls Try.prog 25 #[.pointer (some ⟨p, 0, none⟩), .int .i64 i, .int .i64 k] w fun e w' => e = .returned (.tuple #[]) ∧ (∃ pl', HpIs w' p n v vp (sw M i k a b) pl') ∧ Frm (Ter p v vp) w w' := by
  obtain ⟨g, c, rfl, hg, hc, hgp, hgq⟩ := h.elem hi
  obtain ⟨q, c', rfl, hq, hc', hpl, hqf, hqp⟩ := h.place
  have hgq' : g ≠ q := by intro e; subst e; exact hgq rfl
  have h0 := h.c0
  have h1 := h.c1
  obtain ⟨a0, a1, gf⟩ := h.ecell hi
  obtain ⟨b0, b1, -⟩ := h.ecell hk
  have hil := (List.getElem?_eq_some_iff.1 hi).1
  have hkl := (List.getElem?_eq_some_iff.1 hk).1
  have i1 : (i : Int) < (M.length : Int) := by omega
  have k1 : (k : Int) < (M.length : Int) := by omega
  have hp := h.lt
  have HH := Lib.hid h
  have HI := Lib.hid hi
  have HK := Lib.hid hk
  have gf0 := gf (i * 2)
  have gf1 := gf (i * 2 + 1)
  have gf2 := gf (k * 2)
  have gf3 := gf (k * 2 + 1)
  have hab : i = k → a = b := by
    intro e; subst e; rw [hi] at hk; exact Option.some.inj hk
  have e1 : (w.setCell ⟨g, i * 2, none⟩ (.int .i64 b.id)).cell? ⟨g, k * 2, none⟩ = some (.int .i64 b.id) := set_keeps b0 (fun _ => rfl)
  have e2 : ((w.setCell ⟨g, i * 2, none⟩ (.int .i64 b.id)).setCell ⟨g, i * 2 + 1, none⟩ (.int .u64 b.key)).cell? ⟨g, k * 2 + 1, none⟩ = some (.int .u64 b.key) :=
    set_keeps (set_else b1 (by omega)) (fun _ => rfl)
  have e0 : (w.setCell ⟨g, i * 2, none⟩ (.int .i64 b.id)).cell? ⟨g, i * 2, none⟩ = some (.int .i64 b.id) := World.cell?_setCell_same _ _ _ a0
  have e3 : (((w.setCell ⟨g, i * 2, none⟩ (.int .i64 b.id)).setCell ⟨g, i * 2 + 1, none⟩ (.int .u64 b.key)).setCell ⟨g, k * 2, none⟩ (.int .i64 a.id)).cell? ⟨g, i * 2, none⟩ = some (.int .i64 b.id) :=
    set_keeps (set_else e0 (by omega)) (fun e => by rw [hab (by omega)])
  have na := (h.pos i a hi).1
  have nb := (h.pos k b hk).1
  have na' : (a.id : Int) < (n : Int) := by omega
  have nb' : (b.id : Int) < (n : Int) := by omega
  have pa := hpl _ na
  have pb := hpl _ nb
  have qa := hqf a.id
  have qb := hqf b.id
  have f1 := set_any (i := b.id) (x := .int .i64 (i : Int)) (set_far (i := k * 2 + 1) (x := .int .u64 a.key) (set_far (i := k * 2) (x := .int .i64 a.id) (set_far (i := i * 2 + 1) (x := .int .u64 b.key) (set_far (i := i * 2) (x := .int .i64 b.id) pa hgq') hgq') hgq') hgq')
  clear h hi hk gf hab e0 hpl hqf
  obtain ⟨ai, ak⟩ := a
  obtain ⟨bi, bk⟩ := b
  simp only at a0 a1 b0 b1 e1 e2 e3 na nb na' nb' pa pb qa qb f1
  go_enter Try.func25, Try.ntmps25
  go_wp2_with fail
  go_region
  all_goals
    go_wp2_with fail
    go_region
    go_wp2_with fail
    refine bodyPost_end (v := .tuple #[]) (by simp [results, Try.results25, go_sem]) rfl ⟨rfl, ⟨_, (HH.out.swapped HI.out HK.out).keep (Frm.refl _ _).drew.drew⟩, ?_⟩
    exact ((((((((Frm.refl (Ter p _ _) w).setCell (.inl (.inr (.inl rfl))) _).setCell (.inl (.inr (.inl rfl))) _).setCell (.inl (.inr (.inl rfl))) _).setCell (.inl (.inr (.inl rfl))) _).setCell (.inl (.inr (.inr rfl))) _).setCell (.inl (.inr (.inr rfl))) _).drew).drew
end
end Go.Proofs.Yteclboaeoohfoaa
