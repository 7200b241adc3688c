/- A ring whose descriptors carry their numbers. -/
import Derived.Test.YtnbbaggmkinfkaaAw
import Derived.Test.YtnbbaggmkinfkaaDos
namespace Go.Proofs.Ytnbbaggmkinfkaa
open Go.RowKit
theorem mayB_D (q : Int) (h0 : 0 ≤ q) (h1 : q ≤ 65535) : mayB (D q).fresh = true := by
  simp [mayB, inB, D, DM.zero, DM.fresh, h0, h1]
def upd (F : Nat → Bool) (k : Nat) (m : Nat) : Bool := if m = k then true else F m
theorem info4 : (Try.prog.info? 4).map (fun i => (i.zero, i.size, i.bytes)) = some (some (.bool false), 1, 1) := by kernel_rfl
structure LRing (w wr : World) (p b s a t R : Nat) (G : Nat → Bool) : Prop where
  hp : w.heap.size ≤ p ∧ w.heap.size ≤ b
  frm : Frm (fun k => w.heap.size ≤ k) w wr
  ring : ∃ L P, RingIs wr p b s L t R P ∧ L.length = a ∧ ∀ m, m < a → ∃ d, L[m]? = some d ∧ d.req = m ∧ d.done = G m ∧ (d.done = true → d.device = false)
section
variable {w wr : World} {p b q s a t R n : Nat} {F G : Nat → Bool}
theorem LRing.frame {w' : World} (h : LRing w wr p b s a t R G) (hf : Frm (fun k => k = q) wr w') (h1 : q ≠ p) (h2 : q ≠ b) (hq : w.heap.size ≤ q) : LRing w w' p b s a t R G := by
  obtain ⟨hp, hf0, L, P, hr, e, hi⟩ := h
  exact ⟨hp, hf0.trans (hf.up (by omega)), L, P, hr.frm hf h1.symm h2.symm, e, hi⟩
theorem LRing.keep {w' : World} (h : LRing w wr p b s a t R G) (hf : Frm (fun _ => False) wr w') : LRing w w' p b s a t R G := by
  obtain ⟨hp, hf0, L, P, hr, e, hi⟩ := h
  exact ⟨hp, hf0.trans hf.of_none, L, P, hr.keep hf, e, hi⟩
theorem LRing.alloc (h : LRing w wr p b s a t R G) (o : Obj) : LRing w (wr.alloc o) p b s a t R G := h.keep ((Frm.refl _ _).alloc o)
theorem LRing.lt (h : LRing w wr p b s a t R G) : (p < wr.heap.size ∧ b < wr.heap.size) ∧ R ≤ t ∧ t ≤ a ∧ a ≤ R + s := by
  obtain ⟨hp, hf, L, P, hr, rfl, hi⟩ := h
  exact ⟨hr.lt, hr.ord⟩
theorem LRing.put (h : LRing w wr p b s a t R G) (ha : a < R + s) (hm : a ≤ 65535) (hg : G a = false) :
    Calls Try.prog 10 #[.pointer (some ⟨p, 0, none⟩), .agg #[.int .i64 0, .int .i64 a, .int .i64 0, .int .u64 0, .int .i64 0, .int .i64 0, .bool false, .bool false, .int .i64 0]] wr fun e w' =>
      e = .returned (.tuple #[.int .i64 a, .int .i64 0]) ∧ LRing w w' p b s (a + 1) t R G ∧ Frm (fun k => k = p ∨ k = b) wr w' := by
  obtain ⟨hp, hf, L, P, hr, rfl, hi⟩ := h
  have := put_ok hr (D (L.length : Int)) (mayB_D _ (by omega) (by omega)) ha (by omega)
  simp only [DM.cells, D, DM.zero] at this
  refine this.mono ?_
  rintro e w' ⟨rfl, hr', hf'⟩
  refine ⟨rfl, ⟨hp, hf.trans (hf'.up (by omega)), _, _, hr', by simp, ?_⟩, hf'⟩
  intro m h1
  by_cases hx : m < L.length
  · rw [List.getElem?_append_left hx]; exact hi m hx
  · obtain rfl : m = L.length := by omega
    rw [List.getElem?_append_right (by omega)]
    simp [DM.fresh, hg]
theorem LRing.take (h : LRing w wr p b s a t R G) (ht : t < a) :
    Calls Try.prog 11 #[.pointer (some ⟨p, 0, none⟩)] wr fun e w' =>
      ∃ op sl ge fr le de dn st, e = .returned (.tuple #[.int .i64 t, .agg #[.int .i64 op, .int .i64 t, .int .i64 sl, .int .u64 ge, .int .i64 fr, .int .i64 le, .bool de, .bool dn, .int .i64 st], .int .i64 0]) ∧ LRing w w' p b s a (t + 1) R G ∧ Frm (fun k => k = p ∨ k = b) wr w' := by
  obtain ⟨hp, hf, L, P, hr, rfl, hi⟩ := h
  obtain ⟨d, hd, e1, e2⟩ := hi t ht
  have := take_ok hr _ hd
  obtain ⟨op, req, sl, ge, fr, le, de, dn, st⟩ := d
  simp only [DM.cells] at this e1
  subst e1
  refine this.mono ?_
  rintro e w' ⟨rfl, hr', hf'⟩
  exact ⟨op, sl, ge, fr, le, de, dn, st, rfl, ⟨hp, hf.trans (hf'.up (by omega)), _, _, hr', rfl, hi⟩, hf'⟩
theorem LRing.finish (h : LRing w wr p b s a t R G) (k : Nat) (st : Int) (hs : 0 ≤ st ∧ st ≤ 255) (h1 : R ≤ k) (h2 : k < t) :
    Calls Try.prog 12 #[.pointer (some ⟨p, 0, none⟩), .int .i64 k, .int .i64 st] wr fun e w' =>
      e = .returned (.int .i64 (if G k then 12 else 0)) ∧ LRing w w' p b s a t R (upd G k) ∧ Frm (fun k => k = p ∨ k = b) wr w' := by
  obtain ⟨hp, hf, L, P, hr, rfl, hi⟩ := h
  have hta := hr.ord
  obtain ⟨d, hd, e1, e2, e3⟩ := hi k (by omega)
  have := finish_in hr k st hs h1 h2 _ hd
  rw [e2] at this
  refine this.mono ?_
  rintro e w' ⟨rfl, hr', hf'⟩
  refine ⟨rfl, ⟨hp, hf.trans (hf'.up (by omega)), _, _, hr', by split <;> simp, ?_⟩, hf'⟩
  intro m hm
  by_cases hx : m = k
  · subst hx
    cases hg : G m with
    | true => exact ⟨d, by simpa using hd, e1, by simp [upd, e2, hg], e3⟩
    | false => exact ⟨d.finished st, by simp [hm], e1, by simp [upd, DM.finished], by simp [DM.finished]⟩
  · obtain ⟨d', hd', q1, q2, q3⟩ := hi m hm
    refine ⟨d', ?_, q1, by simp [upd, hx, q2], q3⟩
    split
    · exact hd'
    · rw [List.getElem?_set_ne (fun e => hx e.symm)]; exact hd'
theorem LRing.reap (h : LRing w wr p b s a t R G) (hR : R < a) (hg : G R = true) :
    Calls Try.prog 13 #[.pointer (some ⟨p, 0, none⟩)] wr fun e w' =>
      ∃ op sl ge fr le st, e = .returned (.tuple #[.agg #[.int .i64 op, .int .i64 R, .int .i64 sl, .int .u64 ge, .int .i64 fr, .int .i64 le, .bool false, .bool true, .int .i64 st], .int .i64 0]) ∧ LRing w w' p b s a t (R + 1) G ∧ Frm (fun k => k = p ∨ k = b) wr w' := by
  obtain ⟨hp, hf, L, P, hr, rfl, hi⟩ := h
  obtain ⟨d, hd, e1, e2, e3⟩ := hi R hR
  rw [hg] at e2
  have := reap_ok hr _ hd e2
  obtain ⟨op, req, sl, ge, fr, le, de, dn, st⟩ := d
  simp only [DM.cells] at this e1 e2 e3
  subst e1 e2
  rw [e3 rfl] at this
  refine this.mono ?_
  rintro e w' ⟨rfl, hr', hf'⟩
  exact ⟨op, sl, ge, fr, le, st, rfl, ⟨hp, hf.trans (hf'.up (by omega)), _, _, hr', rfl, hi⟩, hf'⟩
theorem LRing.stop (h : LRing w wr p b s a t R G) (hg : R < a → G R = false) :
    Calls Try.prog 13 #[.pointer (some ⟨p, 0, none⟩)] wr fun e w' =>
      ∃ c : Int, e = .returned (.tuple #[.agg #[.int .i64 0, .int .i64 0, .int .i64 0, .int .u64 0, .int .i64 0, .int .i64 0, .bool false, .bool false, .int .i64 0], .int .i64 c]) ∧ c ≠ 0 ∧ Frm (fun _ => False) wr w' := by
  obtain ⟨hp, hf, L, P, hr, rfl, hi⟩ := h
  refine (reap_not hr fun d hd => ?_).mono ?_
  · have hl := (List.getElem?_eq_some_iff.1 hd).1
    obtain ⟨d', hd', q1, q2, _⟩ := hi R hl
    rw [hd] at hd'; injection hd' with hd'; subst hd'
    rw [q2]; exact hg hl
  · rintro e w' ⟨rfl, hf'⟩
    exact ⟨_, rfl, by split <;> omega, hf'⟩
end
section
variable {w wr : World} {p b q s a t R n : Nat} {F G : Nat → Bool}
theorem LRing.full (h : LRing w wr p b s a t R G) (ha : a = R + s) (q : Int) (h0 : 0 ≤ q) (h1 : q ≤ 65535) :
    Calls Try.prog 10 #[.pointer (some ⟨p, 0, none⟩), .agg #[.int .i64 0, .int .i64 q, .int .i64 0, .int .u64 0, .int .i64 0, .int .i64 0, .bool false, .bool false, .int .i64 0]] wr fun e w' =>
      e = .returned (.tuple #[.int .i64 0, .int .i64 4]) ∧ Frm (fun _ => False) wr w' := by
  obtain ⟨hp, hf, L, P, hr, rfl, hi⟩ := h
  have := put_full hr (D q) (mayB_D _ h0 h1) ha
  simp only [DM.cells, D, DM.zero] at this
  exact this
theorem LRing.none_ (h : LRing w wr p b s a t R G) (ha : t = a) :
    Calls Try.prog 11 #[.pointer (some ⟨p, 0, none⟩)] wr fun e w' =>
      e = .returned (.tuple #[.int .i64 0, .agg #[.int .i64 0, .int .i64 0, .int .i64 0, .int .u64 0, .int .i64 0, .int .i64 0, .bool false, .bool false, .int .i64 0], .int .i64 5]) ∧ Frm (fun _ => False) wr w' := by
  obtain ⟨hp, hf, L, P, hr, rfl, hi⟩ := h
  have := take_empty hr ha
  simp only [DM.cells, DM.zero] at this
  exact this
/-- What Finish does. -/
def FinR (t R : Nat) (G : Nat → Bool) (no c : Int) (G' : Nat → Bool) : Prop :=
  (c = 0 ∧ ∃ k : Nat, no = k ∧ R ≤ k ∧ k < t ∧ G k = false ∧ G' = upd G k) ∨ (c ≠ 0 ∧ G' = G)
theorem LRing.fin (h : LRing w wr p b s a t R G) (no st : Int) :
    Calls Try.prog 12 #[.pointer (some ⟨p, 0, none⟩), .int .i64 no, .int .i64 st] wr fun e w' =>
      ∃ c G', e = .returned (.int .i64 c) ∧ FinR t R G no c G' ∧ LRing w w' p b s a t R G' ∧ Frm (fun k => k = p ∨ k = b) wr w' := by
  by_cases hs : st < 0 ∨ 255 < st
  · refine (finish_arg wr p no st hs).mono ?_
    rintro e w' ⟨rfl, rfl⟩
    exact ⟨1, G, rfl, .inr ⟨by omega, rfl⟩, h, Frm.refl _ _⟩
  · by_cases hn : no < R ∨ (t : Int) ≤ no
    · obtain ⟨hp, hf, L, P, hr, rfl, hi⟩ := h
      refine (finish_state hr no st (by omega) hn).mono ?_
      rintro e w' ⟨rfl, rfl⟩
      exact ⟨12, G, rfl, .inr ⟨by omega, rfl⟩, ⟨hp, hf, L, P, hr, rfl, hi⟩, Frm.refl _ _⟩
    · obtain ⟨k, rfl⟩ := Int.eq_ofNat_of_zero_le (show 0 ≤ no by omega)
      refine (h.finish k st (by omega) (by omega) (by omega)).mono ?_
      rintro e w' ⟨rfl, hr', hf'⟩
      cases hg : G k with
      | true =>
        have hu : upd G k = G := by
          funext m
          by_cases hm : m = k
          · subst hm; simp [upd, hg]
          · simp [upd, hm]
        rw [hu] at hr'
        exact ⟨12, G, by simp, .inr ⟨by omega, rfl⟩, hr', hf'⟩
      | false => exact ⟨0, _, by simp, .inl ⟨rfl, k, rfl, by omega, by omega, hg, rfl⟩, hr', hf'⟩
end
end Go.Proofs.Ytnbbaggmkinfkaa
