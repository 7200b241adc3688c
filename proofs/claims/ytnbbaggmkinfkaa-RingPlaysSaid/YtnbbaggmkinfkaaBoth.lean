/- The ring and the reference's, side by side. -/
import Derived.Test.YtnbbaggmkinfkaaRat
namespace Go.Proofs.Ytnbbaggmkinfkaa
open Go.RowKit
structure Both (w wr : World) (p b g base n : Nat) (L : List DM) (t r : Nat) (M : List DM) (t' r' : Nat) : Prop where
  hp : w.heap.size ≤ p ∧ w.heap.size ≤ b ∧ w.heap.size ≤ g
  ne : p ≠ g ∧ b ≠ g ∧ p < base ∧ b < base
  frm : Frm (fun k => w.heap.size ≤ k) w wr
  one : ∃ P, RingIs wr p b n L t r P
  two : ∃ v, RefIs wr g base n v M t' r'
structure DBox' (w : World) (q : Nat) (d : DM) : Prop where
  c0 : w.cell? ⟨q, 1, none⟩ = some (.int .i64 d.op)
  c1 : w.cell? ⟨q, 2, none⟩ = some (.int .i64 d.req)
  c2 : w.cell? ⟨q, 3, none⟩ = some (.int .i64 d.slot)
  c3 : w.cell? ⟨q, 4, none⟩ = some (.int .u64 d.gen)
  c4 : w.cell? ⟨q, 5, none⟩ = some (.int .i64 d.frm)
  c5 : w.cell? ⟨q, 6, none⟩ = some (.int .i64 d.len)
  c6 : w.cell? ⟨q, 7, none⟩ = some (.bool d.device)
  c7 : w.cell? ⟨q, 8, none⟩ = some (.bool d.done)
  c8 : w.cell? ⟨q, 9, none⟩ = some (.int .i64 d.status)
section
variable {w wr : World} {p b g base n t r t' r' : Nat} {L M : List DM}
theorem Both.keep {w' : World} (h : Both w wr p b g base n L t r M t' r') (hf : Frm (fun _ => False) wr w') : Both w w' p b g base n L t r M t' r' := by
  obtain ⟨hp, hn, hf0, ⟨P, h1⟩, ⟨v, h2⟩⟩ := h
  exact ⟨hp, hn, hf0.trans hf.of_none, ⟨P, h1.keep hf⟩, ⟨v, h2.keep hf⟩⟩
theorem Both.alloc (h : Both w wr p b g base n L t r M t' r') (o : Obj) : Both w (wr.alloc o) p b g base n L t r M t' r' := h.keep ((Frm.refl _ _).alloc o)
theorem Both.lt (h : Both w wr p b g base n L t r M t' r') : p < wr.heap.size ∧ b < wr.heap.size ∧ g < wr.heap.size ∧ base ≤ wr.heap.size ∧ w.heap.size ≤ wr.heap.size := by
  obtain ⟨hp, hn, hf0, ⟨P, h1⟩, ⟨v, h2⟩⟩ := h
  exact ⟨h1.lt.1, h1.lt.2, h2.lt, h2.hb.2, hf0.size⟩
theorem Both.next1 {w' : World} {L1 : List DM} {t1 r1 : Nat} {P1 : List (Option DM)} (h : Both w wr p b g base n L t r M t' r') (hr : RingIs w' p b n L1 t1 r1 P1) (hf : Frm (fun k => k = p ∨ k = b) wr w') : Both w w' p b g base n L1 t1 r1 M t' r' := by
  obtain ⟨hp, hn, hf0, _, ⟨v, h2⟩⟩ := h
  refine ⟨hp, hn, hf0.trans (hf.up (by omega)), ⟨_, hr⟩, ⟨v, h2.frm hf (by omega) ?_⟩⟩
  intro k hk
  have := own_base h2.own k hk
  omega
theorem Both.next2 {w' : World} {L1 : List DM} {t1 r1 : Nat} {v1 : Value} {S : Nat → Prop} (h : Both w wr p b g base n L t r M t' r') (hr : RefIs w' g base n v1 L1 t1 r1) (hf : Frm S wr w') (hS : ∀ k, S k → k = g ∨ base ≤ k) : Both w w' p b g base n L t r L1 t1 r1 := by
  obtain ⟨hp, hn, hf0, ⟨P, h1⟩, _⟩ := h
  have hb := hr.hb
  exact ⟨hp, hn, hf0.trans (hf.up (fun k hk => by have := hS k hk; omega)), ⟨P, h1.frm hf (fun hh => by have := hS _ hh; omega) (fun hh => by have := hS _ hh; omega)⟩, ⟨_, hr⟩⟩
theorem Both.put1 (h : Both w wr p b g base n L t r M t' r') (d : DM) (hmax : L.length < 1000000) :
    Calls Try.prog 10 #[.pointer (some ⟨p, 0, none⟩), .agg d.cells.toArray] wr fun e w' => e = .returned (.tuple #[.int .i64 (putF n L r d).no, .int .i64 (putF n L r d).c]) ∧ Both w w' p b g base n (putF n L r d).L t r M t' r' ∧ Frm (fun k => k = p ∨ k = b) wr w' := by
  obtain ⟨P, h1⟩ := h.one
  refine (put_c h1 d hmax).mono ?_
  rintro e w' ⟨P', rfl, hr, hf⟩
  exact ⟨rfl, h.next1 hr hf, hf⟩
theorem Both.put2 (h : Both w wr p b g base n L t r M t' r') (d : DM) (hmax : M.length < 1000000) :
    Calls Try.prog 18 #[.pointer (some ⟨g, 0, none⟩), .agg d.cells.toArray] wr fun e w' => e = .returned (.tuple #[.int .i64 (putF n M r' d).no, .int .i64 (putF n M r' d).c]) ∧ Both w w' p b g base n L t r (putF n M r' d).L t' r' := by
  obtain ⟨v, h1⟩ := h.two
  refine (rput_c h1 d hmax).mono ?_
  rintro e w' ⟨v', rfl, hr, hf⟩
  exact ⟨rfl, h.next2 hr hf (fun k hk => by rcases hk with hk | hk; exact .inl hk; exact .inr (own_base h1.own k hk))⟩
theorem Both.take1 (h : Both w wr p b g base n L t r M t' r') :
    Calls Try.prog 11 #[.pointer (some ⟨p, 0, none⟩)] wr fun e w' => e = .returned (.tuple #[.int .i64 (takeF L t).no, .agg (takeF L t).d.cells.toArray, .int .i64 (takeF L t).c]) ∧ Both w w' p b g base n L (takeF L t).t r M t' r' := by
  obtain ⟨P, h1⟩ := h.one
  refine (take_c h1).mono ?_
  rintro e w' ⟨rfl, hr, hf⟩
  exact ⟨rfl, h.next1 hr hf⟩
theorem Both.take2 (h : Both w wr p b g base n L t r M t' r') :
    Calls Try.prog 19 #[.pointer (some ⟨g, 0, none⟩)] wr fun e w' => e = .returned (.tuple #[.int .i64 (takeF M t').no, .agg (takeF M t').d.cells.toArray, .int .i64 (takeF M t').c]) ∧ Both w w' p b g base n L t r M (takeF M t').t r' ∧ Frm (fun k => k = g) wr w' := by
  obtain ⟨v, h1⟩ := h.two
  refine (rtake_c h1).mono ?_
  rintro e w' ⟨rfl, hr, hf⟩
  exact ⟨rfl, h.next2 hr hf (fun k hk => .inl hk), hf⟩
theorem Both.fin1 (h : Both w wr p b g base n L t r M t' r') (no st : Int) :
    Calls Try.prog 12 #[.pointer (some ⟨p, 0, none⟩), .int .i64 no, .int .i64 st] wr fun e w' => e = .returned (.int .i64 (finF L t r no st).c) ∧ Both w w' p b g base n (finF L t r no st).L t r M t' r' ∧ Frm (fun k => k = p ∨ k = b) wr w' := by
  obtain ⟨P, h1⟩ := h.one
  refine (fin_c h1 no st).mono ?_
  rintro e w' ⟨P', rfl, hr, hf⟩
  exact ⟨rfl, h.next1 hr hf, hf⟩
theorem Both.fin2 (h : Both w wr p b g base n L t r M t' r') {v : Value} (h1 : RefIs wr g base n v M t' r') (no st : Int) :
    Calls Try.prog 20 #[.pointer (some ⟨g, 0, none⟩), .int .i64 no, .int .i64 st] wr fun e w' => e = .returned (.int .i64 (finF M t' r' no st).c) ∧ Both w w' p b g base n L t r (finF M t' r' no st).L t' r' ∧ Frm (fun k => v.ownBlock = some k) wr w' := by
  refine (rfin_c h1 no st).mono ?_
  rintro e w' ⟨rfl, hr, hf⟩
  exact ⟨rfl, h.next2 hr hf (fun k hk => .inr (own_base h1.own k hk)), hf⟩
theorem Both.reap1 (h : Both w wr p b g base n L t r M t' r') :
    Calls Try.prog 13 #[.pointer (some ⟨p, 0, none⟩)] wr fun e w' => e = .returned (.tuple #[.agg (reapF L r).d.cells.toArray, .int .i64 (reapF L r).c]) ∧ Both w w' p b g base n L t (reapF L r).r M t' r' := by
  obtain ⟨P, h1⟩ := h.one
  refine (reap_c h1).mono ?_
  rintro e w' ⟨P', rfl, hr, hf⟩
  exact ⟨rfl, h.next1 hr hf⟩
theorem Both.fresh (h : Both w wr p b g base n L t r M t' r') : ∀ (no : Nat) (d : DM), t ≤ no → L[no]? = some d → d.done = false := by
  obtain ⟨P, h1⟩ := h.one
  exact h1.fresh
theorem Both.reap2 (h : Both w wr p b g base n L t r M t' r') (hfr : ∀ (no : Nat) (d : DM), t' ≤ no → M[no]? = some d → d.done = false) :
    Calls Try.prog 21 #[.pointer (some ⟨g, 0, none⟩)] wr fun e w' => e = .returned (.tuple #[.agg (reapF M r').d.cells.toArray, .int .i64 (reapF M r').c]) ∧ Both w w' p b g base n L t r M t' (reapF M r').r ∧ Frm (fun k => k = g) wr w' := by
  obtain ⟨v, h1⟩ := h.two
  refine (rreap_c h1 hfr).mono ?_
  rintro e w' ⟨rfl, hr, hf⟩
  exact ⟨rfl, h.next2 hr hf (fun k hk => .inl hk), hf⟩
theorem Both.reset1 (h : Both w wr p b g base n L t r M t' r') :
    Calls Try.prog 16 #[.pointer (some ⟨p, 0, none⟩)] wr fun e w' => ∃ A c, e = .returned (.slice A (L.length - r : Nat) c) ∧ RowsAt w' A 9 DM.cells (L.drop r) ∧ (∀ x off, A = some ⟨x, off, none⟩ → wr.heap.size ≤ x) ∧ Both w w' p b g base n [] 0 0 M t' r' := by
  obtain ⟨P, h1⟩ := h.one
  refine (reset_c h1).mono ?_
  rintro e w' ⟨v, rfl, hown, hr, hf⟩
  obtain ⟨A, c, rfl, hA, hb⟩ := own_rows cells_len (by simp) hown
  exact ⟨A, c, by simp, hA, hb, h.next1 hr hf⟩
theorem Both.reset2 (h : Both w wr p b g base n L t r M t' r') :
    Calls Try.prog 22 #[.pointer (some ⟨g, 0, none⟩)] wr fun e w' => ∃ A c, e = .returned (.slice A (M.length - r' : Nat) c) ∧ RowsAt w' A 9 DM.cells (M.drop r') ∧ Both w w' p b g base n L t r [] 0 0 ∧ Frm (fun k => k = g) wr w' := by
  obtain ⟨v, h1⟩ := h.two
  refine (rreset_c h1).mono ?_
  rintro e w' ⟨A, c, rfl, hA, hr, hf⟩
  exact ⟨A, c, rfl, hA, h.next2 hr hf (fun k hk => .inl hk), hf⟩
theorem putF_len (n : Nat) (L : List DM) (r : Nat) (d : DM) : (putF n L r d).L.length ≤ L.length + 1 := by
  unfold putF; split
  · simp
  · split <;> simp
theorem finF_len (L : List DM) (t r : Nat) (no st : Int) : (finF L t r no st).L.length ≤ L.length + 1 := by
  unfold finF; split
  · simp
  · split
    · simp
    · split
      · simp
      · split <;> simp
theorem Both.counts (h : Both w wr p b g base n L t r M t' r') :
    Calls Try.prog 14 #[.pointer (some ⟨p, 0, none⟩)] wr fun e w' => e = .returned (.tuple #[.int .i64 L.length, .int .i64 t, .int .i64 r]) ∧ Both w w' p b g base n L t r M t' r' := by
  obtain ⟨P, h1⟩ := h.one
  refine (counts_c h1).mono ?_
  rintro e w' ⟨rfl, hf⟩
  exact ⟨rfl, h.keep hf⟩
theorem Both.at1 (h : Both w wr p b g base n L t r M t' r') (k : Int) :
    Calls Try.prog 23 #[.pointer (some ⟨p, 0, none⟩), .int .i64 k] wr fun e w' => ∃ d c, e = .returned (.tuple #[.agg d.cells.toArray, .int .i64 c]) ∧ AtR n L r k d c ∧ Both w w' p b g base n L t r M t' r' := by
  obtain ⟨P, h1⟩ := h.one
  refine (at_c h1 k).mono ?_
  rintro e w' ⟨d, c, rfl, ha, hf⟩
  exact ⟨d, c, rfl, ha, h.keep hf⟩
theorem Both.at2 (h : Both w wr p b g base n L t r L t r) (k : Int) (d : DM) (c : Int) (ha : AtR n L r k d c) :
    Calls Try.prog 24 #[.pointer (some ⟨g, 0, none⟩), .int .i64 k] wr fun e w' => e = .returned (.tuple #[.agg d.cells.toArray, .int .i64 c]) ∧ Both w w' p b g base n L t r L t r ∧ Frm (fun _ => False) wr w' := by
  obtain ⟨v, h1⟩ := h.two
  refine (rat_c h1 k).mono ?_
  rintro e w' ⟨d', c', rfl, ha', hf⟩
  obtain ⟨rfl, rfl⟩ := ha.det h1.ord.2.2 ha'
  exact ⟨rfl, h.keep hf, hf⟩
/-- What a step leaves. -/
def Later (w : World) (p b g base n k : Nat) (wr : World) : Prop := ∃ L t r, L.length ≤ k ∧ Both w wr p b g base n L t r L t r
/-- The box of a step. -/
theorem VecAt.dbox {w : World} {q : Nat} {o : DoM} (h : VecAt w q 35 o.enc) : (w.cell? ⟨q, 0, none⟩ = some (.int .i64 o.kind) ∧ w.cell? ⟨q, 10, none⟩ = some (.int .i64 o.no) ∧ w.cell? ⟨q, 11, none⟩ = some (.int .i64 o.st)) ∧ DBox' w q o.d := by
  refine ⟨⟨h.cell rfl, h.cell rfl, h.cell rfl⟩, ?_⟩
  constructor <;> exact h.cell rfl
end
end Go.Proofs.Ytnbbaggmkinfkaa
