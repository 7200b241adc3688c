/- The reference's table: Live, Get, Set, Drop. -/
import Derived.Test.YtogjnclliaagbaaC
namespace Go.Proofs.Ytogjnclliaagbaa
open Go.RowKit
def uvals (L : List Slot) : List Value := L.map fun s => .bool s.isUsed
def gvals (L : List Slot) : List Value := L.map fun s => .int .u64 s.gen
structure RefAt (w : World) (r g u v : Nat) (L : List Slot) (V : List Int) : Prop where
  len : L.length ≤ 1000
  vlen : V.length = L.length
  hr : w.heap[r]? = some (.cells #[.slice (some ⟨g, 0, none⟩) L.length L.length, .slice (some ⟨u, 0, none⟩) L.length L.length, .slice (some ⟨v, 0, none⟩) L.length L.length] 69 (0, 0))
  vg : VecAt w g 29 (gvals L)
  vu : VecAt w u 4 (uvals L)
  vv : VecAt w v 3 (V.map fun x => .int .i64 x)
  agree : ∀ (i : Nat) (a x : Int), L[i]? = some (.used a x) → V[i]? = some x
  ne : r ≠ g ∧ r ≠ u ∧ r ≠ v ∧ g ≠ u ∧ g ≠ v ∧ u ≠ v
section
variable {w : World} {r g u v : Nat} {L : List Slot} {V : List Int}
theorem RefAt.c0 (h : RefAt w r g u v L V) : w.cell? ⟨r, 0, none⟩ = some (.slice (some ⟨g, 0, none⟩) L.length L.length) := by simp [World.cell?, h.hr]
theorem RefAt.c1 (h : RefAt w r g u v L V) : w.cell? ⟨r, 1, none⟩ = some (.slice (some ⟨u, 0, none⟩) L.length L.length) := by simp [World.cell?, h.hr]
theorem RefAt.c2 (h : RefAt w r g u v L V) : w.cell? ⟨r, 2, none⟩ = some (.slice (some ⟨v, 0, none⟩) L.length L.length) := by simp [World.cell?, h.hr]
theorem RefAt.cg (h : RefAt w r g u v L V) {i : Nat} {s : Slot} (hi : L[i]? = some s) : w.cell? ⟨g, i, none⟩ = some (.int .u64 s.gen) := h.vg.cell (by simp [gvals, hi])
theorem RefAt.cu (h : RefAt w r g u v L V) {i : Nat} {s : Slot} (hi : L[i]? = some s) : w.cell? ⟨u, i, none⟩ = some (.bool s.isUsed) := h.vu.cell (by simp [uvals, hi])
theorem RefAt.cv (h : RefAt w r g u v L V) {i : Nat} (hi : i < L.length) : ∃ x, V[i]? = some x ∧ w.cell? ⟨v, i, none⟩ = some (.int .i64 x) := by
  obtain ⟨x, hx⟩ : ∃ x, V[i]? = some x := ⟨_, List.getElem?_eq_getElem (by rw [h.vlen]; exact hi)⟩
  exact ⟨x, hx, h.vv.cell (by simp [hx])⟩
theorem RefAt.lt (h : RefAt w r g u v L V) : r < w.heap.size ∧ g < w.heap.size ∧ u < w.heap.size ∧ v < w.heap.size := ⟨lt_of_block h.hr, h.vg.lt, h.vu.lt, h.vv.lt⟩
theorem RefAt.frm {S : Nat → Prop} {w' : World} (h : RefAt w r g u v L V) (hf : Frm S w w') (hr : ¬ S r) (hg : ¬ S g) (hu : ¬ S u) (hv : ¬ S v) : RefAt w' r g u v L V :=
  ⟨h.len, h.vlen, hf.blk h.hr hr, h.vg.frm hf hg, h.vu.frm hf hu, h.vv.frm hf hv, h.agree, h.ne⟩
theorem RefAt.keep {w' : World} (h : RefAt w r g u v L V) (hf : Frm (fun _ => False) w w') : RefAt w' r g u v L V := h.frm hf id id id id
theorem RefAt.alloc (h : RefAt w r g u v L V) (o : Obj) : RefAt (w.alloc o) r g u v L V := h.keep ((Frm.refl _ _).alloc o)
theorem RefAt.setv (h : RefAt w r g u v L V) {i : Nat} {a x : Int} (hi : L[i]? = some (.used a x)) (y : Int) : RefAt (w.setCell ⟨v, i, none⟩ (.int .i64 y)) r g u v (L.set i (.used a y)) (V.set i y) := by
  obtain ⟨n1, n2, n3, n4, n5, n6⟩ := h.ne
  have hil : i < L.length := (List.getElem?_eq_some_iff.1 hi).1
  refine ⟨by simpa using h.len, by simpa using h.vlen, ?_, ?_, ?_, ?_, ?_, h.ne⟩
  · rw [List.length_set]; exact blk_other h.hr (a := ⟨v, i, none⟩) n3 _
  · have e : gvals (L.set i (.used a y)) = gvals L := by
      unfold gvals
      rw [List.map_set]
      apply List.ext_getElem?
      intro j
      rw [List.getElem?_set]
      by_cases hj : i = j
      · subst hj
        have he := (List.getElem?_eq_some_iff.1 hi).2
        simp [hil, he, Slot.gen]
      · simp [hj]
    rw [e]; exact h.vg.other (a := ⟨v, i, none⟩) n5 _
  · have e : uvals (L.set i (.used a y)) = uvals L := by
      unfold uvals
      rw [List.map_set]
      apply List.ext_getElem?
      intro j
      rw [List.getElem?_set]
      by_cases hj : i = j
      · subst hj
        have he := (List.getElem?_eq_some_iff.1 hi).2
        simp [hil, he, Slot.isUsed]
      · simp [hj]
    rw [e]; exact h.vu.other (a := ⟨v, i, none⟩) n6 _
  · rw [List.map_set]; exact h.vv.set i _
  · intro j a' x' hj
    by_cases hij : i = j
    · subst hij
      rw [List.getElem?_set_self hil] at hj
      injection hj with hj; injection hj with _ hj; subst hj
      exact List.getElem?_set_self (by rw [h.vlen]; exact hil)
    · rw [List.getElem?_set_ne hij] at hj ⊢
      exact h.agree j a' x' hj
/-- A slot is dropped. -/
theorem RefAt.dropped (h : RefAt w r g u v L V) {i : Nat} {a x : Int} (hi : L[i]? = some (.used a x)) (b : Int) : RefAt ((w.setCell ⟨u, i, none⟩ (.bool false)).setCell ⟨g, i, none⟩ (.int .u64 b)) r g u v (L.set i (.free b)) V := by
  obtain ⟨n1, n2, n3, n4, n5, n6⟩ := h.ne
  have hil : i < L.length := (List.getElem?_eq_some_iff.1 hi).1
  refine ⟨by simpa using h.len, by simpa using h.vlen, ?_, ?_, ?_, ?_, ?_, h.ne⟩
  · rw [List.length_set]; exact blk_other (blk_other h.hr (a := ⟨u, i, none⟩) n2 _) (a := ⟨g, i, none⟩) n1 _
  · unfold gvals
    rw [List.map_set]
    exact (h.vg.other (a := ⟨u, i, none⟩) n4 _).set i _
  · unfold uvals
    rw [List.map_set]
    exact (h.vu.set i _).other (a := ⟨g, i, none⟩) n4.symm _
  · exact (h.vv.other (a := ⟨u, i, none⟩) n6.symm _).other (a := ⟨g, i, none⟩) n5.symm _
  · intro j a' x' hj
    by_cases hij : i = j
    · subst hij
      rw [List.getElem?_set_self hil] at hj
      cases hj
    · rw [List.getElem?_set_ne hij] at hj
      exact h.agree j a' x' hj
/-- A slot is filled. -/
theorem RefAt.filled (h : RefAt w r g u v L V) {i : Nat} {a : Int} (hi : L[i]? = some (.free a)) (y : Int) : RefAt ((w.setCell ⟨u, i, none⟩ (.bool true)).setCell ⟨v, i, none⟩ (.int .i64 y)) r g u v (L.set i (.used a y)) (V.set i y) := by
  obtain ⟨n1, n2, n3, n4, n5, n6⟩ := h.ne
  have hil : i < L.length := (List.getElem?_eq_some_iff.1 hi).1
  refine ⟨by simpa using h.len, by simpa using h.vlen, ?_, ?_, ?_, ?_, ?_, h.ne⟩
  · rw [List.length_set]; exact blk_other (blk_other h.hr (a := ⟨u, i, none⟩) n2 _) (a := ⟨v, i, none⟩) n3 _
  · have e : gvals (L.set i (.used a y)) = gvals L := by
      unfold gvals
      rw [List.map_set]
      apply List.ext_getElem?
      intro j
      rw [List.getElem?_set]
      by_cases hj : i = j
      · subst hj
        have he := (List.getElem?_eq_some_iff.1 hi).2
        simp [hil, he, Slot.gen]
      · simp [hj]
    rw [e]; exact (h.vg.other (a := ⟨u, i, none⟩) n4 _).other (a := ⟨v, i, none⟩) n5 _
  · unfold uvals
    rw [List.map_set]
    exact (h.vu.set i _).other (a := ⟨v, i, none⟩) n6 _
  · rw [List.map_set]; exact (h.vv.other (a := ⟨u, i, none⟩) n6.symm _).set i _
  · intro j a' x' hj
    by_cases hij : i = j
    · subst hij
      rw [List.getElem?_set_self hil] at hj
      injection hj with hj; injection hj with _ hj; subst hj
      exact List.getElem?_set_self (by rw [h.vlen]; exact hil)
    · rw [List.getElem?_set_ne hij] at hj ⊢
      exact h.agree j a' x' hj

theorem rlive_neg (w : World) (r : Nat) (s a : Int) (hs : s < 0) :
    Calls Try.prog 26 #[.pointer (some ⟨r, 0, none⟩), .agg #[.int .i64 s, .int .u64 a]] w fun e w' => e = .returned (.bool false) ∧ Frm (fun _ => False) w w' := by
  have hd : decide (0 ≤ s) = false := by simpa using hs
  go_enter Try.func26, Try.ntmps26
  go_wp2
  go_quiet (fail)
  go_wp2
  go_ret
  exact ⟨rfl, ((Frm.refl _ _).alloc _).drewN _⟩
theorem rlive_far (h : RefAt w r g u v L V) (s : Nat) (a : Int) (hs : L.length ≤ s) :
    Calls Try.prog 26 #[.pointer (some ⟨r, 0, none⟩), .agg #[.int .i64 s, .int .u64 a]] w fun e w' => e = .returned (.bool false) ∧ Frm (fun _ => False) w w' := by
  have h1 := h.c1
  obtain ⟨l1, l2, l3, l4⟩ := h.lt
  have hd : decide ((0 : Int) ≤ (s : Int)) = true := by simp
  have hd2 : decide (s < L.length) = false := by simpa using hs
  clear h
  go_enter Try.func26, Try.ntmps26
  go_wp2
  go_quiet (fail)
  go_wp2
  go_ret
  exact ⟨rfl, ((Frm.refl _ _).alloc _).drewN _⟩
theorem rlive_at (h : RefAt w r g u v L V) (s : Nat) (a : Int) (x : Slot) (hx : L[s]? = some x) :
    Calls Try.prog 26 #[.pointer (some ⟨r, 0, none⟩), .agg #[.int .i64 s, .int .u64 a]] w fun e w' => e = .returned (.bool (at? L s a).isSome) ∧ Frm (fun _ => False) w w' := by
  have h0 := h.c0
  have h1 := h.c1
  have hg := h.cg hx
  have hu := h.cu hx
  obtain ⟨l1, l2, l3, l4⟩ := h.lt
  have hlt : s < L.length := (List.getElem?_eq_some_iff.1 hx).1
  have hd : decide ((0 : Int) ≤ (s : Int)) = true := by simp
  have hd2 : decide (s < L.length) = true := by simpa using hlt
  cases x with
  | free b =>
    have e : (at? L s a).isSome = false := by rw [at?_free hx]; rfl
    rw [e]
    simp only [Slot.isUsed, Slot.gen] at hu hg
    clear h hx e
    go_enter Try.func26, Try.ntmps26
    go_wp2
    go_quiet (fail)
    go_wp2
    go_ret
    exact ⟨rfl, ((Frm.refl _ _).alloc _).drewN _⟩
  | used b y =>
    have e : (at? L s a).isSome = (b == a) := by
      rw [at?_nat hx]
      by_cases hg : b = a <;> simp [hg]
    rw [e]
    simp only [Slot.isUsed, Slot.gen] at hu hg
    clear h hx e
    go_enter Try.func26, Try.ntmps26
    go_wp2
    go_quiet (fail)
    go_wp2
    go_ret
    exact ⟨rfl, ((Frm.refl _ _).alloc _).drewN _⟩
theorem rlive_c (h : RefAt w r g u v L V) (s a : Int) :
    Calls Try.prog 26 #[.pointer (some ⟨r, 0, none⟩), .agg #[.int .i64 s, .int .u64 a]] w fun e w' => e = .returned (.bool (at? L s a).isSome) ∧ Frm (fun _ => False) w w' := by
  by_cases hs : s < 0
  · rw [at?_neg hs]; exact rlive_neg w r s a hs
  · obtain ⟨n, rfl⟩ := Int.eq_ofNat_of_zero_le (show 0 ≤ s by omega)
    by_cases hn : L.length ≤ n
    · rw [at?_far hn]; exact rlive_far h n a hn
    · exact rlive_at h n a _ (List.getElem?_eq_getElem (by omega))

def GetR (L : List Slot) (s a x c : Int) : Prop := (at? L s a = some x ∧ c = 0) ∨ (at? L s a = none ∧ x = 0 ∧ c = 3)
theorem rget_c (h : RefAt w r g u v L V) (s a : Int) :
    Calls Try.prog 20 #[.pointer (some ⟨r, 0, none⟩), .agg #[.int .i64 s, .int .u64 a]] w fun e w' => ∃ x c, e = .returned (.tuple #[.int .i64 x, .int .i64 c]) ∧ GetR L s a x c ∧ Frm (fun _ => False) w w' := by
  have hlive := rlive_c (h.alloc (.cells #[.int .i64 s, .int .u64 a] 31)) s a
  cases hs : at? L s a with
  | none =>
    rw [hs] at hlive
    have H := Lib.hid hlive
    have HS := Lib.hid hs
    clear hlive h hs
    go_enter Try.func20, Try.ntmps20
    go_wp2_with fail
    refine H.out.mono ?_
    rintro e w' ⟨rfl, hf⟩
    have HF := Lib.hid hf
    clear hf
    go_wp2
    go_ret2
    exact ⟨0, 3, rfl, .inr ⟨HS.out, rfl, rfl⟩, ((Frm.refl _ _).alloc _).trans HF.out⟩
  | some y =>
    rw [hs] at hlive
    have H := Lib.hid hlive
    have HS := Lib.hid hs
    obtain ⟨n, rfl, hn⟩ := at?_some hs
    clear hlive hs
    go_enter Try.func20, Try.ntmps20
    go_wp2_with fail
    refine H.out.mono ?_
    rintro e w' ⟨rfl, hf⟩
    have ht := (h.alloc (.cells #[.int .i64 n, .int .u64 a] 31)).keep hf
    have h1 := ht.c2
    have hlt : n < L.length := (List.getElem?_eq_some_iff.1 hn).1
    have h2 : w'.cell? ⟨v, n, none⟩ = some (.int .i64 y) := by
      obtain ⟨x, hx, hc⟩ := ht.cv hlt
      rw [h.agree n a y hn] at hx; injection hx with hx; subst hx; exact hc
    have h3 : w'.cell? ⟨w.heap.size, 0, none⟩ = some (.int .i64 n) := hf.cell (by simp) id (by simp)
    have HF := Lib.hid hf
    clear H h hn ht hf
    go_wp2
    go_quiet (fail)
    go_wp2
    go_ret2
    exact ⟨y, 0, rfl, .inl ⟨HS.out, rfl⟩, (((Frm.refl _ _).alloc _).trans HF.out).drewN _⟩
theorem rset_c (h : RefAt w r g u v L V) (s a x : Int) :
    Calls Try.prog 21 #[.pointer (some ⟨r, 0, none⟩), .agg #[.int .i64 s, .int .u64 a], .int .i64 x] w fun e w' => ∃ c L' V', e = .returned (.int .i64 c) ∧ RefAt w' r g u v L' V' ∧ SetR L s a x c L' ∧ Frm (fun k => k = g ∨ k = u ∨ k = v) w w' := by
  have hlive := rlive_c (h.alloc (.cells #[.int .i64 s, .int .u64 a] 31)) s a
  cases hs : at? L s a with
  | none =>
    rw [hs] at hlive
    have H := Lib.hid hlive
    have HS := Lib.hid hs
    have HR := Lib.hid h
    clear hlive h hs
    go_enter Try.func21, Try.ntmps21
    go_wp2_with fail
    refine H.out.mono ?_
    rintro e w' ⟨rfl, hf⟩
    have HF := Lib.hid hf
    clear hf
    go_wp2
    go_ret
    exact ⟨3, L, V, rfl, HR.out.keep (((Frm.refl _ _).alloc _).trans HF.out), .inr ⟨rfl, rfl, HS.out⟩, (((Frm.refl _ _).alloc _).trans HF.out).of_none⟩
  | some y =>
    rw [hs] at hlive
    have H := Lib.hid hlive
    obtain ⟨n, rfl, hn⟩ := at?_some hs
    clear hlive hs
    go_enter Try.func21, Try.ntmps21
    go_wp2_with fail
    refine H.out.mono ?_
    rintro e w' ⟨rfl, hf⟩
    have ht := (h.alloc (.cells #[.int .i64 n, .int .u64 a] 31)).keep hf
    have h1 := ht.c2
    have hlt : n < L.length := (List.getElem?_eq_some_iff.1 hn).1
    have h2 : w'.cell? ⟨v, n, none⟩ = some (.int .i64 y) := by
      obtain ⟨x, hx, hc⟩ := ht.cv hlt
      rw [h.agree n a y hn] at hx; injection hx with hx; subst hx; exact hc
    have h2f := ht.vv.frozen n
    have h3 : w'.cell? ⟨w.heap.size, 0, none⟩ = some (.int .i64 n) := hf.cell (by simp) id (by simp)
    have HF := Lib.hid hf
    have HT := Lib.hid ht
    have HN := Lib.hid hn
    clear H h hn ht hf
    go_wp2
    go_region
    go_wp2
    go_ret
    exact ⟨0, _, _, rfl, (HT.out.setv HN.out x).keep (Frm.refl _ _).drew, .inl ⟨n, y, rfl, rfl, HN.out, rfl⟩, ((((Frm.refl (fun k => k = g ∨ k = u ∨ k = v) w).alloc _).trans HF.out.of_none).setCell (.inl (.inr (.inr rfl))) _).drew⟩
theorem rdrop_c (h : RefAt w r g u v L V) (s a : Int) :
    Calls Try.prog 22 #[.pointer (some ⟨r, 0, none⟩), .agg #[.int .i64 s, .int .u64 a]] w fun e w' => ∃ x c L' V', e = .returned (.tuple #[.int .i64 x, .int .i64 c]) ∧ RefAt w' r g u v L' V' ∧ DropR L s a x c L' ∧ Frm (fun k => k = g ∨ k = u ∨ k = v) w w' := by
  have hlive := rlive_c (h.alloc (.cells #[.int .i64 s, .int .u64 a] 31)) s a
  cases hs : at? L s a with
  | none =>
    rw [hs] at hlive
    have H := Lib.hid hlive
    have HS := Lib.hid hs
    have HR := Lib.hid h
    clear hlive h hs
    go_enter Try.func22, Try.ntmps22
    go_wp2_with fail
    refine H.out.mono ?_
    rintro e w' ⟨rfl, hf⟩
    have HF := Lib.hid hf
    clear hf
    go_wp2
    go_ret2
    exact ⟨0, 3, L, V, rfl, HR.out.keep (((Frm.refl _ _).alloc _).trans HF.out), .inr ⟨rfl, rfl, rfl, HS.out⟩, (((Frm.refl _ _).alloc _).trans HF.out).of_none⟩
  | some y =>
    rw [hs] at hlive
    have H := Lib.hid hlive
    obtain ⟨n, rfl, hn⟩ := at?_some hs
    clear hlive hs
    go_enter Try.func22, Try.ntmps22
    go_wp2_with fail
    refine H.out.mono ?_
    rintro e w' ⟨rfl, hf⟩
    have ht := (h.alloc (.cells #[.int .i64 n, .int .u64 a] 31)).keep hf
    have h0 := ht.c0
    have h1 := ht.c1
    have h1' := ht.c2
    have hlt : n < L.length := (List.getElem?_eq_some_iff.1 hn).1
    have h2 : w'.cell? ⟨v, n, none⟩ = some (.int .i64 y) := by
      obtain ⟨x, hx, hc⟩ := ht.cv hlt
      rw [h.agree n a y hn] at hx; injection hx with hx; subst hx; exact hc
    have hg := ht.cg hn
    have hgf := ht.vg.frozen n
    have hu := ht.cu hn
    have huf := ht.vu.frozen n
    simp only [Slot.isUsed, Slot.gen] at hu hg
    have h3 : w'.cell? ⟨w.heap.size, 0, none⟩ = some (.int .i64 n) := hf.cell (by simp) id (by simp)
    obtain ⟨l1, l2, l3, l4⟩ := ht.lt
    obtain ⟨k1, k2, k3, k4⟩ := h.lt
    obtain ⟨n1, n2, n3, n4, n5, n6⟩ := h.ne
    have q1 : r ≠ w.heap.size := by omega
    have q2 : g ≠ w.heap.size := by omega
    have q3 : u ≠ w.heap.size := by omega
    have q4 : v ≠ w.heap.size := by omega
    have HF := Lib.hid hf
    have HT := Lib.hid ht
    have HN := Lib.hid hn
    clear H h hn ht hf
    go_wp2
    go_region
    go_wp2
    go_region
    go_wp2
    go_quiet (fail)
    go_wp2
    go_ret2
    refine ⟨y, 0, L.set n (.free (IntKind.u64.wrap (a + 1))), V, rfl, ?_, .inl ⟨n, rfl, rfl, HN.out, rfl⟩, ?_⟩
    · exact (HT.out.dropped HN.out _).keep ((((Frm.refl _ _).drew).drew).drewN _)
    · exact ((((((Frm.refl (fun k => k = g ∨ k = u ∨ k = v) w).alloc _).trans HF.out.of_none).setCell (.inl (.inr (.inl rfl))) _).setCell (.inl (.inl rfl)) _)).drew.drew.drewN _
end
end Go.Proofs.Ytogjnclliaagbaa
