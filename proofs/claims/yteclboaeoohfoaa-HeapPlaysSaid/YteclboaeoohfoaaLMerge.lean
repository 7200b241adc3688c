/- HeapMerge: the walk. -/
import Derived.Test.YteclboaeoohfoaaLSorts
namespace Go.Proofs.Yteclboaeoohfoaa
open Go.RowKit
/-- Three heaps side by side. -/
def Tri (w wr : World) (a b c : Nat) (Ka Kb Kc : Nat → Option Int) : Prop :=
  ∃ Ta Tb Tc : Nat → Prop, HeapR wr Ta a 100 Ka ∧ HeapR wr Tb b 100 Kb ∧ HeapR wr Tc c 100 Kc ∧ Frm (fun _ => False) w wr ∧
    (∀ k, Ta k → (w.heap.size ≤ k ∧ k < wr.heap.size) ∧ ¬ Tb k ∧ ¬ Tc k) ∧ (∀ k, Tb k → (w.heap.size ≤ k ∧ k < wr.heap.size) ∧ ¬ Tc k) ∧ (∀ k, Tc k → w.heap.size ≤ k ∧ k < wr.heap.size)
/-- c holds what a and b hold. -/
def Un (Ka Kb Kc : Nat → Option Int) : Prop := ∀ j, (Ka j = none ∧ Kc j = Kb j) ∨ (Kb j = none ∧ Kc j = Ka j)
theorem Un.symm {Ka Kb Kc : Nat → Option Int} (h : Un Ka Kb Kc) : Un Kb Ka Kc := fun j => (h j).elim .inr .inl
theorem Un.put {Ka Kb Kc : Nat → Option Int} (h : Un Ka Kb Kc) {n i : Nat} (hi : i < n) (hn : Kc i = none) (v : Int) : Un (putK n Ka i v) Kb (putK n Kc i v) := by
  intro j
  by_cases e : j = i
  · subst e
    rw [putK_self hi, putK_self hi]
    rcases h j with ⟨h1, h2⟩ | ⟨h1, h2⟩
    · exact .inr ⟨by rw [← h2, hn], rfl⟩
    · exact .inr ⟨h1, rfl⟩
  · rw [putK_other hi _ e, putK_other hi _ e]; exact h j
theorem Un.drop {Ka Kb Kc : Nat → Option Int} (h : Un Ka Kb Kc) {i : Nat} {x : Int} (hn : Ka i = some x) : Un (dropK Ka i) Kb (dropK Kc i) := by
  intro j
  by_cases e : j = i
  · subst e
    rw [dropK_self, dropK_self]
    rcases h j with ⟨h1, h2⟩ | ⟨h1, h2⟩
    · rw [hn] at h1; cases h1
    · exact .inr ⟨h1, rfl⟩
  · rw [dropK_other e, dropK_other e]; exact h j
theorem Un.none {Ka Kb Kc : Nat → Option Int} (h : Un Ka Kb Kc) (hc : ∀ j, Kc j = none) : (∀ j, Ka j = none) ∧ (∀ j, Kb j = none) := by
  constructor <;> intro j <;> rcases h j with ⟨h1, h2⟩ | ⟨h1, h2⟩
  · exact h1
  · rw [← h2, hc]
  · rw [← h2, hc]
  · exact h1
theorem Un.of_a {Ka Kb Kc : Nat → Option Int} (h : Un Ka Kb Kc) {j : Nat} {x : Int} (hj : Ka j = some x) : Kc j = some x := by
  rcases h j with ⟨h1, h2⟩ | ⟨h1, h2⟩
  · rw [hj] at h1; cases h1
  · rw [h2, hj]
theorem Un.first_a {Ka Kb Kc : Nat → Option Int} (h : Un Ka Kb Kc) {z : Nat} {t : Int} (hf : FirstIs Kc z t) (hb : Kb z = Option.none) : FirstIs Ka z t ∧ ∀ y l, FirstIs Kb y l → t < l ∨ t = l ∧ z < y := by
  have ha : Ka z = some t := by
    rcases h z with ⟨h1, h2⟩ | ⟨h1, h2⟩
    · rw [hb, hf.1] at h2; cases h2
    · rw [← h2, hf.1]
  refine ⟨⟨ha, fun j x hj => hf.2 j x (h.of_a hj)⟩, fun y l hyl => ?_⟩
  have h1 := hf.2 y l (h.symm.of_a hyl.1)
  have hne : y ≠ z := fun e => by have := hyl.1; rw [e, hb] at this; cases this
  omega
theorem Un.split {Ka Kb Kc : Nat → Option Int} (h : Un Ka Kb Kc) {z : Nat} {t : Int} (hf : FirstIs Kc z t) :
    (FirstIs Ka z t ∧ ∀ y l, FirstIs Kb y l → t < l ∨ t = l ∧ z < y) ∨ (FirstIs Kb z t ∧ ∀ y l, FirstIs Ka y l → t < l ∨ t = l ∧ z < y) := by
  cases hb : Kb z with
  | none => exact .inl (h.first_a hf hb)
  | some x =>
    refine .inr (h.symm.first_a hf ?_)
    rcases h z with ⟨h1, _⟩ | ⟨h1, _⟩
    · exact h1
    · rw [hb] at h1; cases h1
section
variable {w wr : World} {a b c : Nat} {Ka Kb Kc : Nat → Option Int}
theorem Tri.frm (h : Tri w wr a b c Ka Kb Kc) : Frm (fun _ => False) w wr := by
  obtain ⟨_, _, _, _, _, _, h, _⟩ := h
  exact h
theorem Tri.keep {w' : World} (h : Tri w wr a b c Ka Kb Kc) (hf : Frm (fun _ => False) wr w') : Tri w w' a b c Ka Kb Kc := by
  obtain ⟨Ta, Tb, Tc, h1, h2, h3, h4, h5, h6, h7⟩ := h
  have hs := hf.size
  refine ⟨Ta, Tb, Tc, h1.keep hf (fun _ _ => id), h2.keep hf (fun _ _ => id), h3.keep hf (fun _ _ => id), h4.trans hf, fun k hk => ?_, fun k hk => ?_, fun k hk => ?_⟩
  · have := h5 k hk; exact ⟨by omega, this.2⟩
  · have := h6 k hk; exact ⟨by omega, this.2⟩
  · have := h7 k hk; omega
theorem Tri.rot (h : Tri w wr a b c Ka Kb Kc) : Tri w wr b c a Kb Kc Ka := by
  obtain ⟨Ta, Tb, Tc, h1, h2, h3, h4, h5, h6, h7⟩ := h
  exact ⟨Tb, Tc, Ta, h2, h3, h1, h4, fun k hk => ⟨(h6 k hk).1, (h6 k hk).2, fun e => (h5 k e).2.1 hk⟩, fun k hk => ⟨h7 k hk, fun e => (h5 k e).2.2 hk⟩, fun k hk => (h5 k hk).1⟩
theorem Tri.step_of {Ta Tb Tc T' : Nat → Prop} {w' : World} {K' : Nat → Option Int} (h2 : HeapR wr Tb b 100 Kb) (h3 : HeapR wr Tc c 100 Kc) (h4 : Frm (fun _ => False) w wr)
    (h5 : ∀ k, Ta k → (w.heap.size ≤ k ∧ k < wr.heap.size) ∧ ¬ Tb k ∧ ¬ Tc k) (h6 : ∀ k, Tb k → (w.heap.size ≤ k ∧ k < wr.heap.size) ∧ ¬ Tc k) (h7 : ∀ k, Tc k → w.heap.size ≤ k ∧ k < wr.heap.size)
    (h' : HeapR w' T' a 100 K') (hg : Grow Ta T' wr w') : Tri w w' a b c K' Kb Kc := by
  have hs := h4.size
  have hs2 := hg.2.size
  refine ⟨T', Tb, Tc, h', h2.keep hg.2 (fun k hk e => (h5 k e).2.1 hk), h3.keep hg.2 (fun k hk e => (h5 k e).2.2 hk), (h4.of_none.trans (hg.2.mono fun k _ hk => (h5 k hk).1.1)).down, fun k hk => ?_, fun k hk => ?_, fun k hk => ?_⟩
  · obtain ⟨e1, e2 | e2⟩ := hg.1 k hk
    · have := h5 k e2; exact ⟨by omega, this.2⟩
    · exact ⟨by omega, fun e => by have := h6 k e; omega, fun e => by have := h7 k e; omega⟩
  · have := h6 k hk; exact ⟨by omega, this.2⟩
  · have := h7 k hk; omega
theorem Tri.put (h : Tri w wr a b c Ka Kb Kc) (id key : Int) : Calls Try.prog 12 #[.pointer (some ⟨a, 0, none⟩), .int .i64 id, .int .u64 key] wr fun e w' =>
    e = .returned (.int .i64 (putC 100 id)) ∧ Tri w w' a b c (putK 100 Ka id key) Kb Kc := by
  obtain ⟨Ta, Tb, Tc, h1, h2, h3, h4, h5, h6, h7⟩ := h
  exact (put_k h1 id key).mono fun e w' ⟨he, T', h8, h9⟩ => ⟨he, Tri.step_of h2 h3 h4 h5 h6 h7 h8 h9⟩
theorem Tri.take (h : Tri w wr a b c Ka Kb Kc) {j : Nat} {x : Int} (hf : FirstIs Ka j x) : Calls Try.prog 16 #[.pointer (some ⟨a, 0, none⟩)] wr fun e w' =>
    e = .returned (.tuple #[.int .i64 j, .int .u64 x, .int .i64 0]) ∧ Tri w w' a b c (dropK Ka j) Kb Kc := by
  obtain ⟨Ta, Tb, Tc, h1, h2, h3, h4, h5, h6, h7⟩ := h
  exact (take_s h1 hf).mono fun e w' ⟨he, T', h8, h9⟩ => ⟨he, Tri.step_of h2 h3 h4 h5 h6 h7 h8 h9⟩
theorem Tri.first_s (h : Tri w wr a b c Ka Kb Kc) {j : Nat} {x : Int} (hf : FirstIs Ka j x) : Calls Try.prog 18 #[.pointer (some ⟨a, 0, none⟩)] wr fun e w' =>
    e = .returned (.tuple #[.int .i64 j, .int .u64 x, .int .i64 0]) ∧ Tri w w' a b c Ka Kb Kc := by
  obtain ⟨Ta, Tb, Tc, h1, -⟩ := id h
  exact (Yteclboaeoohfoaa.first_s h1 hf).mono fun e w' ⟨he, h8⟩ => ⟨he, h.keep h8⟩
theorem Tri.first_n (h : Tri w wr a b c Ka Kb Kc) (hf : ∀ j, Ka j = none) : Calls Try.prog 18 #[.pointer (some ⟨a, 0, none⟩)] wr fun e w' =>
    e = .returned (.tuple #[.int .i64 0, .int .u64 0, .int .i64 5]) ∧ Tri w w' a b c Ka Kb Kc := by
  obtain ⟨Ta, Tb, Tc, h1, -⟩ := id h
  exact (Yteclboaeoohfoaa.first_n h1 hf).mono fun e w' ⟨he, h8⟩ => ⟨he, h.keep h8⟩
theorem Tri.len (h : Tri w wr a b c Ka Kb Kc) : Calls Try.prog 20 #[.pointer (some ⟨a, 0, none⟩)] wr fun e w' =>
    e = .returned (.int .i64 (countK 100 Ka)) ∧ Tri w w' a b c Ka Kb Kc := by
  obtain ⟨Ta, Tb, Tc, h1, -⟩ := id h
  exact (len_k h1).mono fun e w' ⟨he, h8⟩ => ⟨he, h8 ▸ h⟩
theorem Tri.has (h : Tri w wr a b c Ka Kb Kc) : (∀ j, Ka j = none) ∨ ∃ j x, FirstIs Ka j x := by
  obtain ⟨Ta, Tb, Tc, h1, -⟩ := h
  exact h1.first
theorem Tri.lt (h : Tri w wr a b c Ka Kb Kc) {j : Nat} {x : Int} (hj : Ka j = some x) : j < 100 := by
  obtain ⟨Ta, Tb, Tc, h1, -⟩ := h
  exact h1.lt hj
end
def MergeAt (w wr : World) (a b c n i : Nat) : Prop := ∃ Ka Kb Kc, Tri w wr a b c Ka Kb Kc ∧ Un Ka Kb Kc ∧ countK 100 Kc + i = n
def FillAt (w wr : World) (a b c : Nat) (V : Nat → Int) (i : Nat) : Prop := ∃ Ka Kb, Tri w wr a b c Ka Kb (preK V i) ∧ Un Ka Kb (preK V i)
/-- What a heap's First tells. -/
def FstC (w : World) (a b c q : Nat) (x k r : Int) (Ka Kb Kc : Nat → Option Int) : Prop :=
  ∀ wr', Tri w wr' a b c Ka Kb Kc → Calls Try.prog 18 #[.pointer (some ⟨q, 0, none⟩)] wr' fun e w' => e = .returned (.tuple #[.int .i64 x, .int .u64 k, .int .i64 r]) ∧ Tri w w' a b c Ka Kb Kc
theorem fstC_some {w : World} {a b c : Nat} {Ka Kb Kc : Nat → Option Int} {j : Nat} {x : Int} (h : FirstIs Ka j x) : FstC w a b c a j x 0 Ka Kb Kc := fun _ ht => ht.first_s h
theorem fstC_none {w : World} {a b c : Nat} {Ka Kb Kc : Nat → Option Int} (h : ∀ j, Ka j = none) : FstC w a b c a 0 0 5 Ka Kb Kc := fun _ ht => ht.first_n h
theorem FstC.rot {w : World} {a b c q : Nat} {x k r : Int} {Ka Kb Kc : Nat → Option Int} (h : FstC w b c a q x k r Kb Kc Ka) : FstC w a b c q x k r Ka Kb Kc :=
  fun wr' ht => (h wr' ht.rot).mono fun _ _ ⟨he, h2⟩ => ⟨he, h2.rot.rot⟩
theorem FstC.call {w wr : World} {a b c q : Nat} {x k r : Int} {Ka Kb Kc : Nat → Option Int} (h : FstC w a b c q x k r Ka Kb Kc) (ht : Tri w wr a b c Ka Kb Kc) :
    Calls Try.prog 18 #[.pointer (some ⟨q, 0, none⟩)] wr fun e w' => e = .returned (.tuple #[.int .i64 x, .int .u64 k, .int .i64 r]) ∧ Tri w w' a b c Ka Kb Kc := h wr ht
theorem merge_step {w wr : World} {a b c n i : Nat} (h : MergeAt w wr a b c n i) (hi : i < n) :
    ∃ (Ka Kb Kc : Nat → Option Int) (z : Nat) (t : Int), Tri w wr a b c Ka Kb Kc ∧ FirstIs Kc z t ∧
      ((FirstIs Ka z t ∧ (∃ y l r : Int, FstC w a b c b y l r Ka Kb Kc ∧ (r = 5 ∨ r = 0 ∧ (decide (t < l) = true ∨ decide (t < l) = false ∧ (t == l) = true ∧ decide ((z : Int) < y) = true))) ∧
        ∀ w', Tri w w' a b c (dropK Ka z) Kb (dropK Kc z) → MergeAt w w' a b c n (i + 1)) ∨
       (FirstIs Kb z t ∧ (∃ y l r : Int, FstC w a b c a y l r Ka Kb Kc ∧ (r = 5 ∨ r = 0 ∧ decide (l < t) = false ∧ ((l == t) = false ∨ (l == t) = true ∧ decide (y < (z : Int)) = false))) ∧
        ∀ w', Tri w w' a b c Ka (dropK Kb z) (dropK Kc z) → MergeAt w w' a b c n (i + 1))) := by
  obtain ⟨Ka, Kb, Kc, h1, h2, h3⟩ := h
  refine ⟨Ka, Kb, Kc, ?_⟩
  rcases h1.rot.rot.has with hn | ⟨z, t, hf⟩
  · have := countK_zero (n := 100) (fun j _ => hn j); omega
  · have hc := countK_drop (h1.rot.rot.lt hf.1) hf.1
    refine ⟨z, t, h1, hf, ?_⟩
    rcases h2.split hf with ⟨ha, ho⟩ | ⟨hb, ho⟩
    · refine .inl ⟨ha, ?_, fun w' hw => ⟨_, _, _, hw, h2.drop ha.1, by omega⟩⟩
      rcases h1.rot.has with hbn | ⟨y, l, hbf⟩
      · exact ⟨0, 0, 5, (fstC_none hbn).rot, .inl rfl⟩
      · refine ⟨y, l, 0, (fstC_some hbf).rot, .inr ⟨rfl, ?_⟩⟩
        have := ho y l hbf
        by_cases e : t < l
        · exact .inl (by simpa using e)
        · exact .inr ⟨by simpa using e, by simp; omega, by simp; omega⟩
    · refine .inr ⟨hb, ?_, fun w' hw => ⟨_, _, _, hw, (h2.symm.drop hb.1).symm, by omega⟩⟩
      rcases h1.has with han | ⟨y, l, haf⟩
      · exact ⟨0, 0, 5, fstC_none han, .inl rfl⟩
      · refine ⟨y, l, 0, fstC_some haf, .inr ⟨rfl, ?_⟩⟩
        have := ho y l haf
        refine ⟨by simp; omega, ?_⟩
        by_cases e : l = t
        · exact .inr ⟨by simpa using e, by simp; omega⟩
        · exact .inl (by simpa using e)
set_option maxRecDepth 100000 in
set_option maxHeartbeats 2000000 in
theorem merge_c (w : World) (B : Option Addr) (cb : Nat) (l : List UInt64) (hl : RowsAt w B 1 enc64 l) (A : Option Addr) (ca : Nat) (la : List Bool) (ha : RowsAt w A 1 encB la) :
    Calls Try.prog 7 #[.slice B l.length cb, .slice A la.length ca] w fun e w' => e = .returned (.bool true) ∧ Frm (fun _ => False) w w' := by
  have hlen := hl.len
  have hlena := ha.len
  have HA := Lib.hid ha
  have HLL := Lib.hid hl
  obtain ⟨n, hn⟩ : ∃ n, l.length = n := ⟨_, rfl⟩
  obtain ⟨V, hV⟩ : ∃ V, valU l = V := ⟨_, rfl⟩
  by_cases hg : n ≤ 100 ∧ 0 < la.length
  · obtain ⟨g1, g2⟩ := hg
    have HC : Hid (0 < n → ∃ b off, B = some ⟨b, off, none⟩ ∧ b < w.heap.size ∧ ∀ j, j < n → w.cell? ⟨b, off + j, none⟩ = some (.int .u64 (V j))) := Lib.hid (by rw [← hn, ← hV]; exact cellU hl)
    rw [hn] at hlen ⊢
    clear hl ha hn hV HLL l
    have e1 : decide (100 < (n : Int)) = false := by simp; omega
    have e2 : ((la.length : Int) == 0) = false := by simp; intro e; subst e; simp at g2
    go_enter Try.func7, Try.ntmps7
    go_wp2_with fail
    with_reducible refine (awake_c w).mono ?_
    rintro e w1 ⟨rfl, hf1⟩
    have F1 := Lib.hid hf1
    clear hf1
    go_wp2_with fail
    with_reducible refine (new_l w1 100 100 rfl (by omega)).mono ?_
    rintro e w2 ⟨rfl, T2, h2, hg2⟩
    have H2 := Lib.hid h2
    have G2 := Lib.hid hg2
    clear h2 hg2
    go_wp2_with fail
    with_reducible refine (new_l w2 100 100 rfl (by omega)).mono ?_
    rintro e w3 ⟨rfl, T3, h3, hg3⟩
    have H3 := Lib.hid h3
    have G3 := Lib.hid hg3
    clear h3 hg3
    go_wp2_with fail
    with_reducible refine (new_l w3 100 100 rfl (by omega)).mono ?_
    rintro e w4 ⟨rfl, T4, h4, hg4⟩
    have H4 : Hid (FillAt w1 w4 w1.heap.size w2.heap.size w3.heap.size V 0) := by
      have s2 := G2.out.2.size
      have s3 := G3.out.2.size
      have s4 := hg4.2.size
      refine Lib.hid ⟨fun _ => none, fun _ => none, ⟨T2, T3, T4, (H2.out.keep G3.out.2 (fun _ _ => id)).keep hg4.2 (fun _ _ => id), H3.out.keep hg4.2 (fun _ _ => id), h4, (G2.out.2.trans G3.out.2).trans hg4.2, fun k hk => ?_, fun k hk => ?_, fun k hk => ?_⟩, fun j => .inl ⟨rfl, rfl⟩⟩
      · have a2 := G2.out.1 k hk
        refine ⟨?_, fun e => ?_, fun e => ?_⟩
        · rcases a2.2 with e | e
          · exact e.elim
          · omega
        · have a3 := G3.out.1 k e
          rcases a3.2 with e | e
          · exact e.elim
          · omega
        · have a3 := hg4.1 k e
          rcases a3.2 with e | e
          · exact e.elim
          · omega
      · have a2 := G3.out.1 k hk
        refine ⟨?_, fun e => ?_⟩
        · rcases a2.2 with e | e
          · exact e.elim
          · omega
        · have a3 := hg4.1 k e
          rcases a3.2 with e | e
          · exact e.elim
          · omega
      · have a2 := hg4.1 k hk
        rcases a2.2 with e | e
        · exact e.elim
        · omega
    clear h4 hg4 H2 H3 G2 G3
    go_wp2_with fail
    generalize w1.heap.size = a at *
    generalize w2.heap.size = b at *
    generalize w3.heap.size = c at *
    go_loopw [11] (fun i wr => ∃ t : Nat, t ≤ n ∧ i = .int .i64 t ∧ Hid (FillAt w1 wr a b c V t)) (fun i _ => n - (intOf i).toNat)
    case atStart => exact ⟨0, by omega, rfl, H4⟩
    case round =>
      obtain ⟨t, ht, rfl, HX⟩ := hrel
      clear H4
      by_cases hlt : t < n
      · have e3 : decide (t < n) = true := by simpa using hlt
        obtain ⟨bb, off, rfl, hb, hc⟩ := HC.out (by omega)
        have hb1 : bb < w1.heap.size := by have := F1.out.size; omega
        have HV := Lib.hid (F1.out.cell hb id (hc t hlt))
        obtain ⟨b0, off0, hAe, hb0, hca⟩ := HA.out.at_ g2
        subst hAe
        have hm := Nat.mod_lt t g2
        obtain ⟨d, hd⟩ : ∃ d, la[t % la.length]? = some d := ⟨_, List.getElem?_eq_getElem hm⟩
        obtain ⟨Ka, Kb, hT, hU⟩ := HX.out
        have y0 := hT.frm.cell (by have := F1.out.size; omega) id (F1.out.cell hb0 id (hca _ d hd 0 _ rfl))
        have x0 := hT.frm.cell hb1 id HV.out
        simp only [Nat.mul_one, Nat.add_zero] at y0
        have HT := Lib.hid hT
        have HU := Lib.hid hU
        clear hT hU HX hc hca hd
        cases d
        · go_wp2_with fail
          with_reducible refine (HT.out.put t (V t)).mono ?_
          rintro e w5 ⟨rfl, h5⟩
          have x5 := h5.frm.cell hb1 id HV.out
          have H5 := Lib.hid h5
          clear h5 HT x0 y0
          go_wp2_with fail
          with_reducible refine (H5.out.rot.rot.put t (V t)).mono ?_
          rintro e w6 ⟨rfl, h6⟩
          rw [preK_put (by omega)] at h6
          have H6 := Lib.hid h6.rot
          clear h6 H5 x5
          go_wp2_with fail
          go_roundw
          case rel => exact ⟨t + 1, by omega, by go_num, Lib.hid ⟨_, _, H6.out, by rw [← preK_put (n := 100) (by omega)]; exact HU.out.put (by omega) (by simp [preK]) _⟩⟩
          case measure => simp [intOf]; omega
        · go_wp2_with fail
          with_reducible refine (HT.out.rot.put t (V t)).mono ?_
          rintro e w5 ⟨rfl, h5⟩
          have x5 := h5.frm.cell hb1 id HV.out
          have H5 := Lib.hid h5
          clear h5 HT x0 y0
          go_wp2_with fail
          with_reducible refine (H5.out.rot.put t (V t)).mono ?_
          rintro e w6 ⟨rfl, h6⟩
          rw [preK_put (by omega)] at h6
          have H6 := Lib.hid h6.rot
          clear h6 H5 x5
          go_wp2_with fail
          go_roundw
          case rel => exact ⟨t + 1, by omega, by go_num, Lib.hid ⟨_, _, H6.out, by rw [← preK_put (n := 100) (by omega)]; exact (HU.out.symm.put (by omega) (by simp [preK]) _).symm⟩⟩
          case measure => simp [intOf]; omega
      · have e3 : decide (t < n) = false := by simpa using hlt
        obtain rfl : t = n := by omega
        have H5 : Hid (MergeAt w1 wr a b c t 0) := by
          obtain ⟨Ka, Kb, hT, hU⟩ := HX.out
          exact Lib.hid ⟨Ka, Kb, _, hT, hU, preK_count V (by omega)⟩
        clear HX
        go_wp2_with fail
        go_loopw [12] (fun i wr => ∃ s : Nat, s ≤ t ∧ i = .int .i64 s ∧ Hid (MergeAt w1 wr a b c t s)) (fun i _ => t - (intOf i).toNat)
        case atStart => exact ⟨0, by omega, rfl, H5⟩
        case round =>
          obtain ⟨s, hs, rfl, HX⟩ := hrel
          clear H5
          by_cases hst : s < t
          · have e4 : decide (s < t) = true := by simpa using hst
            obtain ⟨Ka, Kb, Kc, z, v, hT, hf, hcase⟩ := merge_step HX.out hst
            have HT := Lib.hid hT
            have HF := Lib.hid hf
            clear hT hf HX
            rcases hcase with ⟨ha, ⟨y, l, r, hb, hr⟩, hnext⟩ | ⟨hb, ⟨y, l, r, ha, hr⟩, hnext⟩
            · have HFA := Lib.hid ha
              have HFB := Lib.hid hb
              have HN := Lib.hid hnext
              clear ha hb hnext
              go_wp2_with fail
              with_reducible refine (HT.out.first_s HFA.out).mono ?_
              rintro e w5 ⟨rfl, h5⟩
              have H5 := Lib.hid h5
              clear h5 HT
              go_wp2_with fail
              with_reducible refine (HFB.out.call H5.out).mono ?_
              rintro e w6 ⟨rfl, h6⟩
              have H6 := Lib.hid h6
              clear h6 H5
              go_wp2_with fail
              with_reducible refine (H6.out.rot.rot.take HF.out).mono ?_
              rintro e w7 ⟨rfl, h7⟩
              have H7 := Lib.hid h7.rot
              clear h7 H6
              rcases hr with rfl | ⟨rfl, e5 | ⟨e5, e6, e7⟩⟩
              all_goals
                go_wp2_with fail
                with_reducible refine (H7.out.take HFA.out).mono ?_
                rintro e w8 ⟨rfl, h8⟩
                have H8 := Lib.hid h8
                clear h8 H7
                go_wp2_with fail
                go_roundw
                case rel => exact ⟨s + 1, by omega, by go_num, Lib.hid (HN.out _ H8.out)⟩
                case measure => simp [intOf]; omega
            · have HFA := Lib.hid ha
              have HFB := Lib.hid hb
              have HN := Lib.hid hnext
              clear ha hb hnext
              go_wp2_with fail
              with_reducible refine (HFA.out.call HT.out).mono ?_
              rintro e w5 ⟨rfl, h5⟩
              have H5 := Lib.hid h5
              clear h5 HT
              go_wp2_with fail
              with_reducible refine (H5.out.rot.first_s HFB.out).mono ?_
              rintro e w6 ⟨rfl, h6⟩
              have H6 := Lib.hid h6
              clear h6 H5
              go_wp2_with fail
              with_reducible refine (H6.out.rot.take HF.out).mono ?_
              rintro e w7 ⟨rfl, h7⟩
              have H7 := Lib.hid h7.rot.rot
              clear h7 H6
              rcases hr with rfl | ⟨rfl, e5, e6 | ⟨e6, e7⟩⟩
              all_goals
                go_wp2_with fail
                with_reducible refine (H7.out.take HFB.out).mono ?_
                rintro e w8 ⟨rfl, h8⟩
                have H8 := Lib.hid h8.rot.rot
                clear h8 H7
                go_wp2_with fail
                go_roundw
                case rel => exact ⟨s + 1, by omega, by go_num, Lib.hid (HN.out _ H8.out)⟩
                case measure => simp [intOf]; omega
          · have e4 : decide (s < t) = false := by simpa using hst
            obtain rfl : s = t := by omega
            obtain ⟨Ka, Kb, Kc, hT, hU, hcnt⟩ := HX.out
            have hno : ∀ j, Kc j = none := fun j => by
              cases hj : Kc j with
              | none => rfl
              | some x => have := countK_pos (hT.rot.rot.lt hj) hj; omega
            obtain ⟨hna, hnb⟩ := hU.none hno
            have HT := Lib.hid hT
            have z1 := Lib.hid (countK_zero (n := 100) fun j _ => hna j)
            have z2 := Lib.hid (countK_zero (n := 100) fun j _ => hnb j)
            have z3 := Lib.hid (countK_zero (n := 100) fun j _ => hno j)
            clear hT hU hcnt hno hna hnb HX
            go_wp2_with fail
            have hl := HT.out.len
            rw [z1.out] at hl
            with_reducible refine hl.mono ?_
            rintro e w5 ⟨rfl, h5⟩
            have H5 := Lib.hid h5.rot
            clear h5 hl HT
            go_wp2_with fail
            have hl := H5.out.len
            rw [z2.out] at hl
            with_reducible refine hl.mono ?_
            rintro e w6 ⟨rfl, h6⟩
            have H6 := Lib.hid h6.rot
            clear h6 hl H5
            go_wp2_with fail
            have hl := H6.out.len
            rw [z3.out] at hl
            with_reducible refine hl.mono ?_
            rintro e w7 ⟨rfl, h7⟩
            have H7 := Lib.hid h7.frm
            clear h7 hl H6
            go_wp2_with fail
            go_ret
            exact ⟨rfl, F1.out.trans H7.out⟩
  · rw [hn]
    clear hl HLL hlen HA ha
    obtain ⟨m, hm⟩ : ∃ m, la.length = m := ⟨_, rfl⟩
    rw [hm] at hg hlena ⊢
    clear hn hV hm l la
    have hex : decide (100 < (n : Int)) = true ∨ decide (100 < (n : Int)) = false ∧ m = 0 := by
      by_cases h : 100 < n
      · exact .inl (by simp; omega)
      · exact .inr ⟨by simp; omega, by omega⟩
    clear hg
    rcases hex with e1 | ⟨e1, rfl⟩
    all_goals
      go_enter Try.func7, Try.ntmps7
      go_wp2_with fail
      with_reducible refine (awake_c w).mono ?_
      rintro e w1 ⟨rfl, hf1⟩
      have F1 := Lib.hid hf1
      clear hf1
      go_wp2_with fail
      go_ret
      exact ⟨rfl, F1.out⟩
end Go.Proofs.Yteclboaeoohfoaa
