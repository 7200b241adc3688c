/- TopTaken: what stands beside the processor, and what was counted. -/
import Derived.Test.YtadngogbnjodhaaB7
namespace Go.Proofs.Ytadngogbnjodhaa
open Go.RowKit
def updN (Z : Nat → Nat) (i v : Nat) : Nat → Nat := fun j => if j = i then v else Z j
theorem updN_self (Z : Nat → Nat) (i v : Nat) : updN Z i v i = v := if_pos rfl
theorem updN_other (Z : Nat → Nat) {i v j : Nat} (h : j ≠ i) : updN Z i v j = Z j := if_neg h
def Tr (w : World) (u x : Nat) (k : Nat) : Prop := w.heap.size ≤ k ∧ k ≠ u ∧ k ≠ x
structure TAt (w wr : World) (c u x : Nat) (K : TK) (C : CS) (s : Wk) (Z : Nat → Nat) : Prop where
  cpu : CpuAt wr (Tr w u x) c K C
  frm : Frm (fun _ => False) w wr
  vec : VecAt wr u 22 (vals 301 fun j => .int .u64 (Z j : Nat))
  box : VecAt wr x 24 s.enc
  lo : w.heap.size ≤ u ∧ w.heap.size ≤ x ∧ u ≠ x
section
variable {w wr : World} {c u x : Nat} {K : TK} {C : CS} {s : Wk} {Z : Nat → Nat}
theorem TAt.keep {w' : World} (h : TAt w wr c u x K C s Z) (hf : Frm (fun _ => False) wr w') : TAt w w' c u x K C s Z := ⟨h.cpu.keep hf, h.frm.trans hf, h.vec.frm hf id, h.box.frm hf id, h.lo⟩
theorem TAt.step {w' : World} {C' : CS} (h : TAt w wr c u x K C s Z) (h' : CpuAt w' (Tr w u x) c K C') (hf : Frm (Tr w u x) wr w') : TAt w w' c u x K C' s Z :=
  ⟨h', (h.frm.of_none.trans (hf.mono fun _ _ hk => hk.1)).down, h.vec.frm hf (fun e => e.2.1 rfl), h.box.frm hf (fun e => e.2.2 rfl), h.lo⟩
theorem TAt.fresh (h : TAt w wr c u x K C s Z) : ∀ k, wr.heap.size ≤ k → Tr w u x k := fun _ hk => by
  have h1 := h.frm.size
  have h2 := h.vec.lt
  have h3 := h.box.lt
  exact ⟨by omega, by omega, by omega⟩
theorem TAt.store (h : TAt w wr c u x K C s Z) (j v : Nat) : TAt w (wr.setCell ⟨u, j, none⟩ (.int .u64 v)) c u x K C s (updN Z j v) := by
  have hf : Frm (fun k => k = u) wr (wr.setCell ⟨u, j, none⟩ (.int .u64 v)) := (Frm.refl (fun k => k = u) wr).setCell (p := ⟨u, j, none⟩) (.inl rfl) _
  have h1 := h.lo
  refine ⟨h.cpu.far hf (fun k hk => ⟨22, by subst hk; exact h.vec.ty, by decide⟩) (fun k hk e => hk.2.1 e), (h.frm.of_none.trans (hf.mono fun k _ hk => by omega)).down, ?_, h.box.frm hf (fun e => h1.2.2 e.symm), h.lo⟩
  have := h.vec.set j (.int .u64 v)
  rw [vals_set] at this
  refine cast ?_ this
  congr 1
  refine vals_congr fun x _ => ?_
  unfold updN
  split <;> rfl
theorem TAt.cell (h : TAt w wr c u x K C s Z) {j : Nat} (hj : j < 301) : wr.cell? ⟨u, j, none⟩ = some (.int .u64 (Z j : Nat)) := h.vec.cell (vals_get hj _)
theorem rel_t (h : TAt w wr c u x K C s Z) (hs : s.cost = K.C) : Calls Try.prog 8 #[.pointer (some ⟨c, 0, none⟩), .int .i64 0, .int .u64 s.cost] wr fun e w' =>
    ∃ (r : Int) (C' : CS), e = .returned (.int .i64 r) ∧ TAt w w' c u x K C' s Z ∧ C'.now = C.now ∧ C'.L = C.L := by
  rw [hs]
  exact (release_c h.cpu h.fresh).mono fun _ _ ⟨r, C', he, h1, h2, h3⟩ => ⟨r, C', he, h.step h1 h3, h2.1, h2.2.1⟩
theorem wake_t (h : TAt w wr c u x K C s Z) {i n : Nat} {v : SrvM} (hi : C.L[i]? = some v) (hn : n ≤ 100000) : Calls Try.prog 9 #[.pointer (some ⟨c, 0, none⟩), .int .i64 i, .int .u64 n] wr fun e w' =>
    e = .returned (.int .i64 0) ∧ ∃ m, TAt w w' c u x K { C with L := C.L.set i { v with work := m } } s Z :=
  (wake_c h.cpu hi n hn).mono fun _ _ ⟨he, h1, h3⟩ => ⟨he, _, h.step h1 h3⟩
theorem job_t (h : TAt w wr c u x K C s Z) : Calls Try.prog 10 #[.pointer (some ⟨c, 0, none⟩), .int .i64 0] wr fun e w' =>
    ∃ (r d : Int) (b : Bool), e = .returned (.tuple #[.int .u64 r, .int .u64 d, .bool b]) ∧ TAt w w' c u x K C s Z := by
  refine (job_c h.cpu).mono fun _ _ ⟨he, hf⟩ => ?_
  cases hj : C.job with
  | none => rw [hj] at he; exact ⟨0, 0, false, he, h.keep hf⟩
  | some j => rw [hj] at he; exact ⟨_, _, true, he, h.keep hf⟩
theorem tick_t (h : TAt w wr c u x K C s Z) (hn : C.now < 90000) : Calls Try.prog 11 #[.pointer (some ⟨c, 0, none⟩)] wr fun e w' =>
    ∃ (who : Int) (A1 A2 A3 : Option Addr) (n1 n2 n3 c1 c2 c3 : Nat) (C' : CS), e = .returned (.tuple #[.agg #[.int .i64 who, .slice A1 n1 c1, .slice A2 n2 c2, .slice A3 n3 c3], .int .i64 0]) ∧ TAt w w' c u x K C' s Z ∧ C'.now = C.now + 1 ∧ TickR K C C' who (.slice A1 n1 c1) :=
  (tick_c h.cpu h.fresh hn).mono fun _ _ ⟨who, A1, A2, A3, n1, n2, n3, c1, c2, c3, C', he, h1, h2, h3, h4⟩ => ⟨who, A1, A2, A3, n1, n2, n3, c1, c2, c3, C', he, h.step h1 h4, h2, h3⟩
end
/-- What was counted. -/
def TakeI (l : List Sv) (C : CS) (Z : Nat → Nat) (t : Nat) : Prop := C.now = t ∧ Z 0 = 0 ∧ Fits l C.L ∧ ∃ G, GInv C.L G t ∧ Counted Z G t
section
variable {l : List Sv} {C C' : CS} {Z : Nat → Nat} {t : Nat}
theorem TakeI.rel (h : TakeI l C Z t) (h1 : C'.now = C.now) (h2 : C'.L = C.L) : TakeI l C' Z t := by
  unfold TakeI at *
  rw [h1, h2]; exact h
theorem TakeI.wake (h : TakeI l C Z t) {i m : Nat} {v : SrvM} (hi : C.L[i]? = some v) : TakeI l { C with L := C.L.set i { v with work := m } } Z t := by
  obtain ⟨h1, h0, ⟨h2, h3⟩, G, ⟨h4, h5⟩, h6⟩ := h
  refine ⟨h1, h0, ⟨by simp only [List.length_set]; exact h2, fun j v' s hv hs => ?_⟩, G, ⟨by simp only [List.length_set]; exact h4, fun j v' us hv hu => ?_⟩, h6⟩
  · by_cases e : i = j
    · subst e
      rw [List.getElem?_set_self (List.getElem?_eq_some_iff.1 hi).1] at hv
      injection hv with hv; subst hv
      exact h3 i v s hi hs
    · rw [List.getElem?_set_ne e] at hv
      exact h3 _ _ _ hv hs
  · by_cases e : i = j
    · subst e
      rw [List.getElem?_set_self (List.getElem?_eq_some_iff.1 hi).1] at hv
      injection hv with hv; subst hv
      have := h5 i v us hi hu
      exact ⟨this.sorted, this.lt, this.gap, this.back⟩
    · rw [List.getElem?_set_ne e] at hv
      exact h5 _ _ _ hv hu
theorem TakeI.le (h : TakeI l C Z t) {k : Nat} (hk : k ≤ t) : Z k ≤ k := by
  obtain ⟨h1, h0, h2, G, h3, h4⟩ := h
  have := (h4.span (s := 0) k (by omega)).2.1
  rw [Nat.zero_add, h0] at this
  omega
theorem TakeI.tick {K : TK} {who : Int} {dn : Value} {Z' : Nat → Nat} {y : Nat} (h : TakeI l C Z t) (hb : ∀ (i : Nat) (v : SrvM), C.L[i]? = some v → v.bn ≤ C.now) (h1 : C'.now = C.now + 1) (h2 : TickR K C C' who dn)
    (hz : ∀ k, k ≤ t → Z' k = Z k) (hz2 : Z' (t + 1) = Z t + y) (hy : y ≤ 1 ∧ (y = 1 → 100 ≤ who)) : TakeI l C' Z' (t + 1) := by
  obtain ⟨k1, k0, k2, G, k3, k4⟩ := h
  obtain ⟨r, r1, r2⟩ := h2
  rw [k1] at hb r1
  obtain ⟨G', g1, g2, g3⟩ := k3.tick hb r1
  refine ⟨by omega, by rw [hz 0 (by omega), k0], k2.tick r1, G', g1, Counted.tick k4 k3 g2 g3 hz hz2 ⟨hy.1, fun e => ?_⟩⟩
  have := hy.2 e
  rcases r2 with ⟨e1, -, -⟩ | ⟨e1, e2, -⟩
  · exact e1
  · omega
theorem TakeI.law (h : TakeI l C Z t) (hf : fits l) {a b : Nat} (hab : a ≤ b) (hb : b ≤ t) : Z a ≤ Z b ∧ Z b - Z a ≤ min (b - a) (takenN l (b - a)) := by
  obtain ⟨k1, k0, k2, G, k3, k4⟩ := h
  exact taken_law k4 k2 k3 (fun i x hx => hf.2 i x hx) hab hb
theorem TakeI.start {L : List SrvM} {tau q : Nat} {vt vs : Value} (h : Made l l.length L) : TakeI l (cs0 tau q vt vs L) (fun _ => 0) 0 :=
  ⟨rfl, rfl, (GInv.start h).2, _, (GInv.start h).1, fun s hs => by omega⟩
end
end Go.Proofs.Ytadngogbnjodhaa
