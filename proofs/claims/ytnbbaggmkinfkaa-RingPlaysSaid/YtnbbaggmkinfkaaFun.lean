/- What each call answers, as functions of the puts. -/
import Derived.Test.YtnbbaggmkinfkaaAw
import Derived.Test.YtnbbaggmkinfkaaRst
import Derived.Test.YtnbbaggmkinfkaaDos
namespace Go.Proofs.Ytnbbaggmkinfkaa
open Go.RowKit
structure PutA where
  no : Int
  c : Int
  L : List DM
structure TakeA where
  no : Int
  d : DM
  c : Int
  t : Nat
structure FinA where
  c : Int
  L : List DM
structure ReapA where
  d : DM
  c : Int
  r : Nat
def putF (n : Nat) (L : List DM) (r : Nat) (d : DM) : PutA := if mayB d.fresh = false then ⟨0, 1, L⟩ else if L.length = r + n then ⟨0, 4, L⟩ else ⟨L.length, 0, L ++ [d.fresh]⟩
def takeF (L : List DM) (t : Nat) : TakeA := match L[t]? with
  | none => ⟨0, DM.zero, 5, t⟩
  | some d => ⟨t, d, 0, t + 1⟩
def finF (L : List DM) (t r : Nat) (no st : Int) : FinA := if st < 0 ∨ 255 < st then ⟨1, L⟩ else if no < r ∨ (t : Int) ≤ no then ⟨12, L⟩ else match L[no.toNat]? with
  | none => ⟨12, L⟩
  | some d => if d.done then ⟨12, L⟩ else ⟨0, L.set no.toNat (d.finished st)⟩
def reapF (L : List DM) (r : Nat) : ReapA := match L[r]? with
  | none => ⟨DM.zero, 5, r⟩
  | some d => if d.done then ⟨d, 0, r + 1⟩ else ⟨DM.zero, 10, r⟩
section
variable {w : World} {p b n t r : Nat} {L : List DM} {P : List (Option DM)}
theorem put_c (h : RingIs w p b n L t r P) (d : DM) (hmax : L.length < 1000000) :
    Calls Try.prog 10 #[.pointer (some ⟨p, 0, none⟩), .agg d.cells.toArray] w fun e w' => ∃ P', e = .returned (.tuple #[.int .i64 (putF n L r d).no, .int .i64 (putF n L r d).c]) ∧ RingIs w' p b n (putF n L r d).L t r P' ∧ Frm (fun k => k = p ∨ k = b) w w' := by
  unfold putF
  cases hm : mayB d.fresh with
  | false =>
    refine (put_arg w p d hm).mono ?_
    rintro e w' ⟨rfl, hf⟩
    exact ⟨P, rfl, h.keep hf, hf.of_none⟩
  | true =>
    by_cases hl : L.length = r + n
    · refine (put_full h d hm hl).mono ?_
      rintro e w' ⟨rfl, hf⟩
      rw [if_neg (by decide), if_pos hl]
      exact ⟨P, rfl, h.keep hf, hf.of_none⟩
    · have := h.ord
      refine (put_ok h d hm (by omega) hmax).mono ?_
      rintro e w' ⟨rfl, hr, hf⟩
      rw [if_neg (by decide), if_neg hl]
      exact ⟨_, rfl, hr, hf⟩
theorem take_c (h : RingIs w p b n L t r P) :
    Calls Try.prog 11 #[.pointer (some ⟨p, 0, none⟩)] w fun e w' => e = .returned (.tuple #[.int .i64 (takeF L t).no, .agg (takeF L t).d.cells.toArray, .int .i64 (takeF L t).c]) ∧ RingIs w' p b n L (takeF L t).t r P ∧ Frm (fun k => k = p ∨ k = b) w w' := by
  unfold takeF
  cases hd : L[t]? with
  | none =>
    have h1 := h.ord
    refine (take_empty h (by rw [List.getElem?_eq_none_iff] at hd; omega)).mono ?_
    rintro e w' ⟨rfl, hf⟩
    exact ⟨rfl, h.keep hf, hf.of_none⟩
  | some d =>
    refine (take_ok h d hd).mono ?_
    rintro e w' ⟨rfl, hr, hf⟩
    exact ⟨rfl, hr, hf⟩
theorem fin_c (h : RingIs w p b n L t r P) (no st : Int) :
    Calls Try.prog 12 #[.pointer (some ⟨p, 0, none⟩), .int .i64 no, .int .i64 st] w fun e w' => ∃ P', e = .returned (.int .i64 (finF L t r no st).c) ∧ RingIs w' p b n (finF L t r no st).L t r P' ∧ Frm (fun k => k = p ∨ k = b) w w' := by
  unfold finF
  by_cases hs : st < 0 ∨ 255 < st
  · refine (finish_arg w p no st hs).mono ?_
    rintro e w' ⟨rfl, rfl⟩
    rw [if_pos hs]
    exact ⟨P, rfl, h, Frm.refl _ _⟩
  · rw [if_neg hs]
    by_cases hn : no < r ∨ (t : Int) ≤ no
    · refine (finish_state h no st (by omega) hn).mono ?_
      rintro e w' ⟨rfl, rfl⟩
      rw [if_pos hn]
      exact ⟨P, rfl, h, Frm.refl _ _⟩
    · rw [if_neg hn]
      obtain ⟨k, rfl⟩ := Int.eq_ofNat_of_zero_le (show 0 ≤ no by omega)
      have h1 := h.ord
      obtain ⟨d, hd⟩ : ∃ d, L[k]? = some d := ⟨_, List.getElem?_eq_getElem (by omega)⟩
      refine (finish_in h k st (by omega) (by omega) (by omega) d hd).mono ?_
      rintro e w' ⟨rfl, hr, hf⟩
      simp only [Int.toNat_natCast, hd]
      cases hdd : d.done with
      | true => rw [hdd] at hr; exact ⟨_, rfl, hr, hf⟩
      | false => rw [hdd] at hr; exact ⟨_, rfl, hr, hf⟩
theorem reap_c (h : RingIs w p b n L t r P) :
    Calls Try.prog 13 #[.pointer (some ⟨p, 0, none⟩)] w fun e w' => ∃ P', e = .returned (.tuple #[.agg (reapF L r).d.cells.toArray, .int .i64 (reapF L r).c]) ∧ RingIs w' p b n L t (reapF L r).r P' ∧ Frm (fun k => k = p ∨ k = b) w w' := by
  unfold reapF
  cases hd : L[r]? with
  | none =>
    refine (reap_not h (by simp [hd])).mono ?_
    rintro e w' ⟨rfl, hf⟩
    rw [List.getElem?_eq_none_iff] at hd
    rw [if_neg (by omega)]
    exact ⟨P, rfl, h.keep hf, hf.of_none⟩
  | some d =>
    have hl := (List.getElem?_eq_some_iff.1 hd).1
    cases hdd : d.done with
    | true =>
      refine (reap_ok h d hd hdd).mono ?_
      rintro e w' ⟨rfl, hr, hf⟩
      exact ⟨_, by simp [hdd], by simpa [hdd] using hr, hf⟩
    | false =>
      refine (reap_not h (by intro d' hd'; rw [hd] at hd'; injection hd' with hd'; rw [← hd']; exact hdd)).mono ?_
      rintro e w' ⟨rfl, hf⟩
      rw [if_pos hl]
      exact ⟨P, by simp [hdd], by simpa [hdd] using h.keep hf, hf.of_none⟩
def boxed (w : World) (q : Nat) (v0 v1 v2 v3 v4 v5 v6 v7 v8 : Value) : World := (((((((((w.setCell ⟨q, 0, none⟩ v0).setCell ⟨q, 1, none⟩ v1).setCell ⟨q, 2, none⟩ v2).setCell ⟨q, 3, none⟩ v3).setCell ⟨q, 4, none⟩ v4).setCell ⟨q, 5, none⟩ v5).setCell ⟨q, 6, none⟩ v6).setCell ⟨q, 7, none⟩ v7).setCell ⟨q, 8, none⟩ v8)
theorem boxed_frm {S : Nat → Prop} {w w' : World} {q : Nat} (h : Frm S w w') (hq : S q ∨ w.heap.size ≤ q) (v0 v1 v2 v3 v4 v5 v6 v7 v8 : Value) : Frm S w (boxed w' q v0 v1 v2 v3 v4 v5 v6 v7 v8) := by
  unfold boxed
  have h0 := h.setCell (p := ⟨q, 0, none⟩) hq v0
  have h1 := h0.setCell (p := ⟨q, 1, none⟩) hq v1
  have h2 := h1.setCell (p := ⟨q, 2, none⟩) hq v2
  have h3 := h2.setCell (p := ⟨q, 3, none⟩) hq v3
  have h4 := h3.setCell (p := ⟨q, 4, none⟩) hq v4
  have h5 := h4.setCell (p := ⟨q, 5, none⟩) hq v5
  have h6 := h5.setCell (p := ⟨q, 6, none⟩) hq v6
  have h7 := h6.setCell (p := ⟨q, 7, none⟩) hq v7
  exact h7.setCell (p := ⟨q, 8, none⟩) hq v8
theorem VecAt.box {w : World} {q : Nat} {d : DM} (h : VecAt w q 33 d.cells) : DBox w q d := by
  constructor <;> exact h.cell rfl
/-- A step: what it tells; what there is behind it. -/
structure StepA where
  d : DM
  c : Int
  L : List DM
  t : Nat
  r : Nat
def stepF (n : Nat) (L : List DM) (t r : Nat) (o : DoM) : StepA :=
  if o.kind = 0 then ⟨{ DM.zero with req := (putF n L r o.d).no }, (putF n L r o.d).c, (putF n L r o.d).L, t, r⟩
  else if o.kind = 1 then ⟨(takeF L t).d, (takeF L t).c, L, (takeF L t).t, r⟩
  else if o.kind = 2 then ⟨DM.zero, (finF L t r o.no o.st).c, (finF L t r o.no o.st).L, t, r⟩
  else ⟨(reapF L r).d, (reapF L r).c, L, t, (reapF L r).r⟩
set_option maxHeartbeats 1000000 in
theorem step_c (h : RingIs w p b n L t r P) (o : DoM) (hmax : L.length < 1000000) :
    Calls Try.prog 15 #[.pointer (some ⟨p, 0, none⟩), .agg o.enc.toArray] w fun e w' =>
      ∃ P', e = .returned (.tuple #[.agg (stepF n L t r o).d.cells.toArray, .int .i64 (stepF n L t r o).c]) ∧ RingIs w' p b n (stepF n L t r o).L (stepF n L t r o).t (stepF n L t r o).r P' ∧ Frm (fun k => k = p ∨ k = b) w w' := by
  obtain ⟨l1, l2⟩ := h.lt
  have HR := Lib.hid ((h.alloc (.cells o.enc.toArray 35)).alloc (.cells DM.zero.cells.toArray 33))
  clear h
  obtain ⟨kind, d, no, st⟩ := o
  obtain ⟨op, req, slot, gen, frm, len, device, done, status⟩ := d
  simp only [DoM.enc, DM.cells, DM.zero] at HR ⊢
  have q1 : p < w.heap.size + 1 + 1 := by omega
  have F0 : Frm (fun k => k = p ∨ k = b) w ((w.alloc (.cells #[.int .i64 kind, .int .i64 op, .int .i64 req, .int .i64 slot, .int .u64 gen, .int .i64 frm, .int .i64 len, .bool device, .bool done, .int .i64 status, .int .i64 no, .int .i64 st] 35)).alloc (.cells #[.int .i64 0, .int .i64 0, .int .i64 0, .int .u64 0, .int .i64 0, .int .i64 0, .bool false, .bool false, .int .i64 0] 33)) :=
    ((Frm.refl _ _).alloc _).alloc _
  have HF0 := Lib.hid F0
  clear F0
  by_cases k0 : kind = 0
  · subst k0
    have hst : stepF n L t r ⟨0, ⟨op, req, slot, gen, frm, len, device, done, status⟩, no, st⟩ = ⟨{ DM.zero with req := (putF n L r ⟨op, req, slot, gen, frm, len, device, done, status⟩).no }, (putF n L r ⟨op, req, slot, gen, frm, len, device, done, status⟩).c, (putF n L r ⟨op, req, slot, gen, frm, len, device, done, status⟩).L, t, r⟩ := by simp [stepF]
    have T := put_c HR.out ⟨op, req, slot, gen, frm, len, device, done, status⟩ hmax
    rw [hst]
    clear hst
    generalize putF n L r ⟨op, req, slot, gen, frm, len, device, done, status⟩ = A at *
    obtain ⟨no', c', L'⟩ := A
    simp only [DM.cells, DM.zero] at T ⊢
    have HT := Lib.hid T
    clear T
    go_enter Try.func15, Try.ntmps15
    go_wp2_with fail
    refine HT.out.mono ?_
    rintro e w' ⟨P', rfl, hr, hf⟩
    have HRR := Lib.hid hr
    have HFF := Lib.hid (HF0.out.trans hf)
    have hv : VecAt w' (w.heap.size + 1) 33 DM.zero.cells := VecAt.frm (by have := VecAt.new (w.alloc (.cells #[.int .i64 0, .int .i64 op, .int .i64 req, .int .i64 slot, .int .u64 gen, .int .i64 frm, .int .i64 len, .bool device, .bool done, .int .i64 status, .int .i64 no, .int .i64 st] 35)) 33 DM.zero.cells; rw [World.size_alloc] at this; exact this) hf (by omega)
    obtain ⟨z0, z1, z2, z3, z4, z5, z6, z7, z8⟩ := hv.box
    have y0 := hv.frozen 0
    have y1 := hv.frozen 1
    have y2 := hv.frozen 2
    have y3 := hv.frozen 3
    have y4 := hv.frozen 4
    have y5 := hv.frozen 5
    have y6 := hv.frozen 6
    have y7 := hv.frozen 7
    have y8 := hv.frozen 8
    have q2 : w.heap.size + 1 ≠ p := by omega
    have q3 : w.heap.size + 1 ≠ b := by omega
    have FS : Hid (∀ v0 v1 v2 v3 v4 v5 v6 v7 v8, Frm (fun k => k = p ∨ k = b) w (boxed w' (w.heap.size + 1) v0 v1 v2 v3 v4 v5 v6 v7 v8)) := fun _ _ _ _ _ _ _ _ _ => boxed_frm HFF.out (.inr (by omega)) _ _ _ _ _ _ _ _ _
    have RS : Hid (∀ v0 v1 v2 v3 v4 v5 v6 v7 v8, RingIs (boxed w' (w.heap.size + 1) v0 v1 v2 v3 v4 v5 v6 v7 v8) p b n L' t r P') := fun _ _ _ _ _ _ _ _ _ => HRR.out.frm (boxed_frm (Frm.refl (fun k => k = w.heap.size + 1) w') (.inl rfl) _ _ _ _ _ _ _ _ _) q2.symm q3.symm
    clear hr hf hv
    go_wp2_with fail
    refine bodyPost_ret (v := .tuple #[.agg #[.int .i64 0, .int .i64 no', .int .i64 0, .int .u64 0, .int .i64 0, .int .i64 0, .bool false, .bool false, .int .i64 0], .int .i64 c']) (by simp [results, Try.results15, go_sem, z0, z1, z2, z3, z4, z5, z6, z7, z8]) rfl ⟨P', rfl, RS.out _ _ _ _ _ _ _ _ _, FS.out _ _ _ _ _ _ _ _ _⟩
  · have e0 : (kind == 0) = false := by simpa using k0
    by_cases k1 : kind = 1
    · subst k1
      have hst : stepF n L t r ⟨1, ⟨op, req, slot, gen, frm, len, device, done, status⟩, no, st⟩ = ⟨(takeF L t).d, (takeF L t).c, L, (takeF L t).t, r⟩ := by simp [stepF]
      have T := take_c HR.out
      rw [hst]
      clear hst
      generalize takeF L t = A at *
      obtain ⟨no', ⟨op', req', slot', gen', frm', len', device', done', status'⟩, c', t'⟩ := A
      simp only [DM.cells] at T ⊢
      have HT := Lib.hid T
      clear T
      go_enter Try.func15, Try.ntmps15
      go_wp2_with fail
      refine HT.out.mono ?_
      rintro e w' ⟨rfl, hr, hf⟩
      have HRR := Lib.hid hr
      have HFF := Lib.hid (HF0.out.trans hf)
      have hv : VecAt w' (w.heap.size + 1) 33 DM.zero.cells := VecAt.frm (by have := VecAt.new (w.alloc (.cells #[.int .i64 1, .int .i64 op, .int .i64 req, .int .i64 slot, .int .u64 gen, .int .i64 frm, .int .i64 len, .bool device, .bool done, .int .i64 status, .int .i64 no, .int .i64 st] 35)) 33 DM.zero.cells; rw [World.size_alloc] at this; exact this) hf (by omega)
      have hlt := hv.lt
      obtain ⟨z0, z1, z2, z3, z4, z5, z6, z7, z8⟩ := hv.box
      have y0 := hv.frozen 0
      have y1 := hv.frozen 1
      have y2 := hv.frozen 2
      have y3 := hv.frozen 3
      have y4 := hv.frozen 4
      have y5 := hv.frozen 5
      have y6 := hv.frozen 6
      have y7 := hv.frozen 7
      have y8 := hv.frozen 8
      have q2 : w.heap.size + 1 ≠ p := by omega
      have q3 : w.heap.size + 1 ≠ b := by omega
      have FS : Hid (∀ v0 v1 v2 v3 v4 v5 v6 v7 v8, Frm (fun k => k = p ∨ k = b) w (boxed w' (w.heap.size + 1) v0 v1 v2 v3 v4 v5 v6 v7 v8)) := fun _ _ _ _ _ _ _ _ _ => boxed_frm HFF.out (.inr (by omega)) _ _ _ _ _ _ _ _ _
      have RS : Hid (∀ v0 v1 v2 v3 v4 v5 v6 v7 v8, RingIs (boxed w' (w.heap.size + 1) v0 v1 v2 v3 v4 v5 v6 v7 v8) p b n L t' r P) := fun _ _ _ _ _ _ _ _ _ => HRR.out.frm (boxed_frm (Frm.refl (fun k => k = w.heap.size + 1) _) (.inl rfl) _ _ _ _ _ _ _ _ _) q2.symm q3.symm
      clear hr hf hv
      go_wp2_with fail
      refine bodyPost_ret (v := .tuple #[.agg #[.int .i64 op', .int .i64 req', .int .i64 slot', .int .u64 gen', .int .i64 frm', .int .i64 len', .bool device', .bool done', .int .i64 status'], .int .i64 c']) (by simp [results, Try.results15, go_sem, hlt, z0, z1, z2, z3, z4, z5, z6, z7, z8]) rfl ⟨P, rfl, (RS.out _ _ _ _ _ _ _ _ _).alloc _, (FS.out _ _ _ _ _ _ _ _ _).alloc _⟩
    · have e1 : (kind == 1) = false := by simpa using k1
      by_cases k2 : kind = 2
      · subst k2
        have hst : stepF n L t r ⟨2, ⟨op, req, slot, gen, frm, len, device, done, status⟩, no, st⟩ = ⟨DM.zero, (finF L t r no st).c, (finF L t r no st).L, t, r⟩ := by simp [stepF]
        have T := fin_c HR.out no st
        rw [hst]
        clear hst
        generalize finF L t r no st = A at *
        obtain ⟨c', L'⟩ := A
        simp only [DM.zero]
        have HT := Lib.hid T
        clear T
        go_enter Try.func15, Try.ntmps15
        go_wp2_with fail
        refine HT.out.mono ?_
        rintro e w' ⟨P', rfl, hr, hf⟩
        have HRR := Lib.hid hr
        have HFF := Lib.hid (HF0.out.trans hf)
        have hv : VecAt w' (w.heap.size + 1) 33 DM.zero.cells := VecAt.frm (by have := VecAt.new (w.alloc (.cells #[.int .i64 2, .int .i64 op, .int .i64 req, .int .i64 slot, .int .u64 gen, .int .i64 frm, .int .i64 len, .bool device, .bool done, .int .i64 status, .int .i64 no, .int .i64 st] 35)) 33 DM.zero.cells; rw [World.size_alloc] at this; exact this) hf (by omega)
        have hlt := hv.lt
        obtain ⟨z0, z1, z2, z3, z4, z5, z6, z7, z8⟩ := hv.box
        have y0 := hv.frozen 0
        have y1 := hv.frozen 1
        have y2 := hv.frozen 2
        have y3 := hv.frozen 3
        have y4 := hv.frozen 4
        have y5 := hv.frozen 5
        have y6 := hv.frozen 6
        have y7 := hv.frozen 7
        have y8 := hv.frozen 8
        have q2 : w.heap.size + 1 ≠ p := by omega
        have q3 : w.heap.size + 1 ≠ b := by omega
        have FS : Hid (∀ v0 v1 v2 v3 v4 v5 v6 v7 v8, Frm (fun k => k = p ∨ k = b) w (boxed w' (w.heap.size + 1) v0 v1 v2 v3 v4 v5 v6 v7 v8)) := fun _ _ _ _ _ _ _ _ _ => boxed_frm HFF.out (.inr (by omega)) _ _ _ _ _ _ _ _ _
        have RS : Hid (∀ v0 v1 v2 v3 v4 v5 v6 v7 v8, RingIs (boxed w' (w.heap.size + 1) v0 v1 v2 v3 v4 v5 v6 v7 v8) p b n L' t r P') := fun _ _ _ _ _ _ _ _ _ => HRR.out.frm (boxed_frm (Frm.refl (fun k => k = w.heap.size + 1) _) (.inl rfl) _ _ _ _ _ _ _ _ _) q2.symm q3.symm
        clear hr hf hv
        go_wp2_with fail
        refine bodyPost_ret (v := .tuple #[.agg #[.int .i64 0, .int .i64 0, .int .i64 0, .int .u64 0, .int .i64 0, .int .i64 0, .bool false, .bool false, .int .i64 0], .int .i64 c']) (by simp [results, Try.results15, go_sem, z0, z1, z2, z3, z4, z5, z6, z7, z8]) rfl ⟨P', rfl, RS.out _ _ _ _ _ _ _ _ _, FS.out _ _ _ _ _ _ _ _ _⟩
      · have e2 : (kind == 2) = false := by simpa using k2
        have hst : stepF n L t r ⟨kind, ⟨op, req, slot, gen, frm, len, device, done, status⟩, no, st⟩ = ⟨(reapF L r).d, (reapF L r).c, L, t, (reapF L r).r⟩ := by simp [stepF, k0, k1, k2]
        have T := reap_c HR.out
        rw [hst]
        clear hst
        generalize reapF L r = A at *
        obtain ⟨⟨op', req', slot', gen', frm', len', device', done', status'⟩, c', r'⟩ := A
        simp only [DM.cells] at T ⊢
        have HT := Lib.hid T
        clear T
        go_enter Try.func15, Try.ntmps15
        go_wp2_with fail
        refine HT.out.mono ?_
        rintro e w' ⟨P', rfl, hr, hf⟩
        have HRR := Lib.hid hr
        have HFF := Lib.hid (HF0.out.trans hf)
        have hv : VecAt w' (w.heap.size + 1) 33 DM.zero.cells := VecAt.frm (by have := VecAt.new (w.alloc (.cells #[.int .i64 kind, .int .i64 op, .int .i64 req, .int .i64 slot, .int .u64 gen, .int .i64 frm, .int .i64 len, .bool device, .bool done, .int .i64 status, .int .i64 no, .int .i64 st] 35)) 33 DM.zero.cells; rw [World.size_alloc] at this; exact this) hf (by omega)
        have hlt := hv.lt
        obtain ⟨z0, z1, z2, z3, z4, z5, z6, z7, z8⟩ := hv.box
        have y0 := hv.frozen 0
        have y1 := hv.frozen 1
        have y2 := hv.frozen 2
        have y3 := hv.frozen 3
        have y4 := hv.frozen 4
        have y5 := hv.frozen 5
        have y6 := hv.frozen 6
        have y7 := hv.frozen 7
        have y8 := hv.frozen 8
        have q2 : w.heap.size + 1 ≠ p := by omega
        have q3 : w.heap.size + 1 ≠ b := by omega
        have FS : Hid (∀ v0 v1 v2 v3 v4 v5 v6 v7 v8, Frm (fun k => k = p ∨ k = b) w (boxed w' (w.heap.size + 1) v0 v1 v2 v3 v4 v5 v6 v7 v8)) := fun _ _ _ _ _ _ _ _ _ => boxed_frm HFF.out (.inr (by omega)) _ _ _ _ _ _ _ _ _
        have RS : Hid (∀ v0 v1 v2 v3 v4 v5 v6 v7 v8, RingIs (boxed w' (w.heap.size + 1) v0 v1 v2 v3 v4 v5 v6 v7 v8) p b n L t r' P') := fun _ _ _ _ _ _ _ _ _ => HRR.out.frm (boxed_frm (Frm.refl (fun k => k = w.heap.size + 1) _) (.inl rfl) _ _ _ _ _ _ _ _ _) q2.symm q3.symm
        clear hr hf hv
        go_wp2_with fail
        refine bodyPost_ret (v := .tuple #[.agg #[.int .i64 op', .int .i64 req', .int .i64 slot', .int .u64 gen', .int .i64 frm', .int .i64 len', .bool device', .bool done', .int .i64 status'], .int .i64 c']) (by simp [results, Try.results15, go_sem, z0, z1, z2, z3, z4, z5, z6, z7, z8]) rfl ⟨P', rfl, RS.out _ _ _ _ _ _ _ _ _, FS.out _ _ _ _ _ _ _ _ _⟩
end
end Go.Proofs.Ytnbbaggmkinfkaa
