/- Release. -/
import Derived.Test.YtadngogbnjodhaaA8
namespace Go.Proofs.Ytadngogbnjodhaa
open Go.RowKit
/-- What Release makes. -/
def RelR (C C' : CS) : Prop := C'.now = C.now ∧ C'.L = C.L ∧ (C.job = none → C.begun = false → ∃ j, C'.job = some j ∧ j.ran = 0)
theorem cellm {w : World} {b i : Nat} {v : Value} (h : w.cell? ⟨b, i, none⟩ = some v) : ∀ m O, ((w.drewN m).alloc O).cell? ⟨b, i, none⟩ = some v := fun m O => (((Frm.refl (fun _ => False) w).drewN m).alloc O).cell (lt_of_cell h) id h
theorem frozm {w : World} {b i : Nat} {v : Value} {x : Bool} (h : w.cell? ⟨b, i, none⟩ = some v) (hf : w.frozen? ⟨b, i, none⟩ = x) : ∀ m O, ((w.drewN m).alloc O).frozen? ⟨b, i, none⟩ = x := fun m O => (((Frm.refl (fun _ => False) w).drewN m).alloc O).frozen (lt_of_cell h) id hf
section
variable {w : World} {T : Nat → Prop} {c : Nat} {K : TK} {C : CS}
theorem CpuAt.task1 {w' : World} {S : Nat → Prop} {vq : Value} {job : Option JobM} {begun : Bool} {last : Nat} (h : CpuAt w T c K C) (hf : Frm S w w') (hS : ∀ k, S k → k = C.tau ∨ k = C.q ∨ C.vq.ownBlock = some k ∨ (∃ j, C.job = some j ∧ k = j.jb) ∨ Ty w k 41)
    (h' : TaskAt w' T K C.tau C.q vq job begun last) (hl : last ≤ C.now) : CpuAt w' T c K { C with vq := vq, job := job, begun := begun, last := last } := by
  have ho : Off w S [54, 55, 63, 65, 81, 22] := fun k hk => by
    rcases hS k hk with rfl | rfl | e | ⟨j, hj, rfl⟩ | e
    · exact ⟨_, h.task.task.ty, by decide⟩
    · exact ⟨_, h.task.queue.str.ty, by decide⟩
    · exact ⟨_, own_ty h.task.queue.own e, by decide⟩
    · exact ⟨_, (h.task.jobs j hj).1.ty, by decide⟩
    · exact ⟨_, e, by decide⟩
  exact ⟨h.core.frm hf (ho.sub (by decide)), h', h.srvs.frm hf (ho.sub (by decide)) (fun k _ ht => ho.no ht (by decide)), h.hK, ⟨h.hn.1, hl, h.hn.2.2⟩, h.hb⟩
theorem CpuAt.named (h : CpuAt w T c K C) : ∀ k, (k = C.tau ∨ k = C.q ∨ C.vq.ownBlock = some k ∨ ∃ j, C.job = some j ∧ k = j.jb) → T k := by
  rintro k (rfl | rfl | e | ⟨j, hj, rfl⟩)
  · exact h.task.tt.1
  · exact h.task.tt.2.1
  · exact h.task.tt.2.2 k e
  · exact (h.task.jobs j hj).2.2
theorem world_as {P : Program} {code : Code} {Q : Exit → Act → World → Prop} {a : Act} {w : World} (h : ∀ w2, w2 = w → Code.wp P code Q a w2) : Code.wp P code Q a w := h w rfl
theorem rel_world {w2 : World} {m : Nat} (h : CpuAt w T c K C) (hj : C.job = none)
    (hw2 : w2 = (((((w.drewN m).alloc (.cells #[.int .u64 K.C, .int .u64 0, .int .u64 ((C.now : Int) + (K.D : Int)), .bool false] 70)).setCell ⟨C.tau, 4, none⟩ (.pointer (some ⟨w.heap.size, 0, none⟩))).setCell ⟨C.tau, 5, none⟩ (.bool true)).setCell ⟨C.tau, 6, none⟩ (.int .u64 C.now))) :
    Frm (fun k => k = C.tau) w w2 ∧ VecAt w2 C.tau 58 [.int .i64 K.P, .int .u64 K.C, .int .u64 K.Pe, .int .u64 K.D, .pointer (some ⟨w.heap.size, 0, none⟩), .bool true, .int .u64 C.now] ∧
      VecAt w2 w.heap.size 70 [.int .u64 K.C, .int .u64 0, .int .u64 ((C.now + K.D : Nat) : Int), .bool false] ∧ QAt w2 C.q K.P C.vq false ∧ w.heap.size < w2.heap.size := by
  have hlt := h.task.task.lt
  have f0 : Frm (fun k => k = C.tau) w ((w.drewN m).alloc (.cells #[.int .u64 K.C, .int .u64 0, .int .u64 ((C.now : Int) + (K.D : Int)), .bool false] 70)) := ((Frm.refl _ w).drewN m).alloc _
  have f1 : Frm (fun k => k = C.tau) w w2 := by
    rw [hw2]
    exact ((f0.setCell (p := ⟨C.tau, 4, none⟩) (.inl rfl) _).setCell (p := ⟨C.tau, 5, none⟩) (.inl rfl) _).setCell (p := ⟨C.tau, 6, none⟩) (.inl rfl) _
  have hv := ((((h.task.task.keep ((Frm.refl _ w).drewN m)).alloc (.cells #[.int .u64 K.C, .int .u64 0, .int .u64 ((C.now : Int) + (K.D : Int)), .bool false] 70)).set 4 (.pointer (some ⟨w.heap.size, 0, none⟩))).set 5 (.bool true)).set 6 (.int .u64 C.now)
  rw [← hw2] at hv
  have hn : VecAt ((w.drewN m).alloc (.cells #[.int .u64 K.C, .int .u64 0, .int .u64 ((C.now : Int) + (K.D : Int)), .bool false] 70)) w.heap.size 70 [.int .u64 K.C, .int .u64 0, .int .u64 ((C.now + K.D : Nat) : Int), .bool false] := VecAt.new (w.drewN m) 70 [.int .u64 K.C, .int .u64 0, .int .u64 ((C.now : Int) + (K.D : Int)), .bool false]
  have hn2 := ((hn.other (a := ⟨C.tau, 4, none⟩) (by show w.heap.size ≠ C.tau; omega) (.pointer (some ⟨w.heap.size, 0, none⟩))).other (a := ⟨C.tau, 5, none⟩) (by show w.heap.size ≠ C.tau; omega) (.bool true)).other (a := ⟨C.tau, 6, none⟩) (by show w.heap.size ≠ C.tau; omega) (.int .u64 C.now)
  rw [← hw2] at hn2
  refine ⟨f1, hv, hn2, ?_, hn2.lt⟩
  have hq := h.task.queue
  rw [hj] at hq
  refine hq.frm f1 (fun e => ?_) (fun k hk e => ?_)
  · have := hq.str.ty
    rw [e] at this
    exact absurd (this.det h.task.task.ty) (by decide)
  · subst e
    exact absurd ((own_ty hq.own hk).det h.task.task.ty) (by decide)
theorem rel_done {w2 w3 : World} {vq' : Value} (h : CpuAt w T c K C) (hT : ∀ k, w.heap.size ≤ k → T k) (f1 : Frm (fun k => k = C.tau) w w2)
    (v2 : VecAt w2 C.tau 58 [.int .i64 K.P, .int .u64 K.C, .int .u64 K.Pe, .int .u64 K.D, .pointer (some ⟨w.heap.size, 0, none⟩), .bool true, .int .u64 C.now])
    (v3 : VecAt w2 w.heap.size 70 [.int .u64 K.C, .int .u64 0, .int .u64 ((C.now + K.D : Nat) : Int), .bool false]) (hs : w.heap.size < w2.heap.size)
    (hq : QAt w3 C.q K.P vq' true) (hv : ∀ k, vq'.ownBlock = some k → C.vq.ownBlock = some k ∨ w2.drew.heap.size ≤ k) (f3 : Frm (fun k => k = C.q ∨ C.vq.ownBlock = some k) w2 w3) :
    CpuAt w3 T c K { C with vq := vq', job := some ⟨w.heap.size, 0, C.now + K.D, false⟩, begun := true, last := C.now } ∧ Frm T w w3 := by
  have hq0 := h.task.queue
  have k1 : ∀ k e, Ty w2 k e → k < w.heap.size → k ≠ C.tau → Ty w k e := fun k e ⟨cur, fr, ht⟩ hk hne => ⟨cur, fr, by rw [← f1.block k hk hne]; exact ht⟩
  have no : ∀ k e, Ty w2 k e → (e = 58 ∨ e = 70) → ¬ (k = C.q ∨ C.vq.ownBlock = some k) := by
    intro k e ht he hc
    have hqt : Ty w2 C.q 76 := ((hq0.str.frm f1 (fun e => by
      have := hq0.str.ty
      rw [e] at this
      exact absurd (this.det h.task.task.ty) (by decide))).ty)
    rcases hc with rfl | hc
    · have := hqt.det ht
      rcases he with rfl | rfl
      · exact absurd this (by decide)
      · exact absurd this (by decide)
    · have h3 := own_ty hq0.own hc
      have hk : k < w.heap.size := by obtain ⟨cur, fr, hb⟩ := h3; exact lt_of_block hb
      by_cases e2 : k = C.tau
      · subst e2
        exact absurd (h3.det h.task.task.ty) (by decide)
      · have := (k1 k e ht hk e2).det h3
        rcases he with rfl | rfl
        · exact absurd this (by decide)
        · exact absurd this (by decide)
  have hf : Frm (fun k => k = C.tau ∨ k = C.q ∨ C.vq.ownBlock = some k) w w3 := (f1.mono fun k _ e => .inl e).trans (f3.mono fun k _ e => .inr e)
  refine ⟨h.task1 hf (fun k hk => ?_) ⟨v2.frm f3 (no _ _ v2.ty (.inl rfl)), fun j hj => ?_, hq, h.task.tt.1, h.task.tt.2.1, fun k hk => ?_⟩ (Nat.le_refl _), hf.mono fun k _ hk => h.named k ?_⟩
  · rcases hk with e | e | e
    · exact .inl e
    · exact .inr (.inl e)
    · exact .inr (.inr (.inl e))
  · injection hj with hj
    subst hj
    exact ⟨v3.frm f3 (no _ _ v3.ty (.inr rfl)), h.hK.2.1, hT _ (Nat.le_refl _)⟩
  · rcases hv k hk with e | e
    · exact h.task.tt.2.2 k e
    · exact hT k (by have : w2.drew.heap.size = w2.heap.size := rfl; omega)
  · rcases hk with e | e | e
    · exact .inl e
    · exact .inr (.inl e)
    · exact .inr (.inr (.inl e))
set_option maxRecDepth 100000 in
set_option maxHeartbeats 2000000 in
theorem release_c (h : CpuAt w T c K C) (hT : ∀ k, w.heap.size ≤ k → T k) : Calls Try.prog 8 #[.pointer (some ⟨c, 0, none⟩), .int .i64 0, .int .u64 K.C] w fun e w' => ∃ (r : Int) (C' : CS), e = .returned (.int .i64 r) ∧ CpuAt w' T c K C' ∧ RelR C C' ∧ Frm T w w' := by
  have HI := Lib.hid (Is_c h)
  have c0 := h.c0
  have c2 := h.c2
  have c3 := h.c3
  obtain ⟨g, cap, hv, x0⟩ := h.vt
  rw [hv] at c0
  obtain ⟨ht, htf⟩ := h.tasky
  have t0 := ht 0 _ rfl
  have t2 := ht 2 _ rfl
  have t3 := ht 3 _ rfl
  have t4 := ht 4 _ rfl
  have t5 := ht 5 _ rfl
  have t6 := ht 6 _ rfl
  have f4 := htf 4
  have f5 := htf 5
  have f6 := htf 6
  obtain ⟨k1, k2, k3, k4, k5⟩ := h.hK
  obtain ⟨n1, n2, n3⟩ := h.hn
  have e1 : ((K.C : Int) == 0) = false := by simp; omega
  have HA := Lib.hid (fun w => add_c w C.now K.D (by omega))
  have HH := Lib.hid h
  have HT := Lib.hid hT
  have nc : c ≠ w.heap.size := by have := h.core.str.lt; omega
  have nt : C.tau ≠ w.heap.size := by have := h.task.task.lt; omega
  clear h ht htf hv hT
  go_enter Try.func8, Try.ntmps8
  go_wp2_with fail
  with_reducible refine HI.out.mono ?_
  rintro e w1 ⟨rfl, rfl⟩
  clear HI
  go_wp2_with fail
  go_quiet ((go_at_call 19; exact Calls.quiet_of_same (HA.out _)))
  cases hjob : C.job with
  | some j =>
    rw [hjob] at t4
    simp only [jptr] at t4
    have HJ := Lib.hid hjob
    clear hjob
    go_wp2_with fail
    go_ret
    refine ⟨_, C, rfl, HH.out.keep ((Frm.refl _ _).drewN nq), ⟨rfl, rfl, fun hc => by rw [HJ.out] at hc; cases hc⟩, (Frm.refl _ _).drewN nq⟩
  | none =>
    rw [hjob] at t4
    simp only [jptr] at t4
    have HJ := Lib.hid hjob
    clear hjob
    have W1 : IntKind.u64.wrap ((C.now : Int) - (C.last : Int)) = ((C.now - C.last : Nat) : Int) := by
      rw [show (C.now : Int) - (C.last : Int) = ((C.now - C.last : Nat) : Int) by omega]; exact u64_small _ (by omega)
    have hex : (C.begun = true ∧ decide (((C.now - C.last : Nat) : Int) < (K.Pe : Int)) = true ∧ decide (C.now - C.last < K.Pe) = true) ∨ ((C.begun = true ∨ C.begun = false) ∧ (C.begun = true → decide (((C.now - C.last : Nat) : Int) < (K.Pe : Int)) = false ∧ decide (C.now - C.last < K.Pe) = false)) := by
      cases C.begun with
      | false => exact .inr ⟨.inr rfl, fun hc => by cases hc⟩
      | true =>
        by_cases hden : C.now - C.last < K.Pe
        · exact .inl ⟨rfl, by simp; omega, by simp; omega⟩
        · exact .inr ⟨.inl rfl, fun _ => ⟨by simp; omega, by simp; omega⟩⟩
    rcases hex with ⟨hbeg, e2, e2'⟩ | ⟨hbeg, he2⟩
    · rw [hbeg] at t5
      have HBG := Lib.hid hbeg
      clear hbeg
      go_wp2_with fail
      go_quiet (fail)
      go_wp2_with fail
      go_ret
      refine ⟨_, C, rfl, HH.out.keep (((Frm.refl _ _).drewN _).drewN _), ⟨rfl, rfl, fun _ hc => by rw [HBG.out] at hc; cases hc⟩, ((Frm.refl _ _).drewN _).drewN _⟩
    · rcases hbeg with hbeg | hbeg
      all_goals
        have he3 := he2
        rw [hbeg] at he3 t5
        clear he2 hbeg
        first
          | obtain ⟨e2, e2'⟩ := he3 rfl
          | skip
        clear he3
        go_wp2_with fail
        go_quiet (fail)
        have m3 := cellm c3
        have m4 := cellm t4
        have m5 := cellm t5
        have m6 := cellm t6
        have q4 := frozm t4 f4
        have q5 := frozm t5 f5
        have q6 := frozm t6 f6
        go_wp2_with fail
        refine world_as fun w2 hw2 => ?_
        obtain ⟨v1, v2, v3, v4, v5⟩ := rel_world HH.out HJ.out hw2
        have V1 := Lib.hid v1
        have V2 := Lib.hid v2
        have V3 := Lib.hid v3
        have V4 := Lib.hid v4
        have hq : w2.cell? ⟨c, 2, none⟩ = some (.pointer (some ⟨C.q, 0, none⟩)) := v1.cell (lt_of_cell c2) (fun e => by
          have := HH.out.core.str.ty
          rw [e] at this
          exact absurd (this.det HH.out.task.task.ty) (by decide)) c2
        have hp : w2.cell? ⟨C.tau, 0, none⟩ = some (.int .i64 K.P) := v2.cell rfl
        have HQ := Lib.hid (come_c (v4.keep (Frm.refl _ w2).drew))
        clear hw2 v1 v2 v3 v4 m3 m4 m5 m6 q4 q5 q6 c0 c2 c3 x0 t0 t2 t3 t4 t5 t6 f4 f5 f6 W1
        go_region_with (go_at_call 20; (with_reducible refine HQ.out.mono ?_); rintro e w3 ⟨rfl, ⟨vq', hq', hvq⟩, hf3⟩; have H3 := Lib.hid hq'; have H4 := Lib.hid hvq; have F3 := Lib.hid ((Frm.refl _ w2).drew.trans hf3); clear hq' hvq hf3)
        all_goals
          go_wp2_with fail
          go_ret
          obtain ⟨z1, z2⟩ := rel_done HH.out HT.out V1.out V2.out V3.out v5 H3.out H4.out F3.out
          exact ⟨0, _, rfl, z1, ⟨rfl, rfl, fun _ _ => ⟨_, rfl, rfl⟩⟩, z2⟩
end
end Go.Proofs.Ytadngogbnjodhaa
