/- work. -/
import Derived.Test.YtadngogbnjodhaaA9
import Derived.Deep.DeepCutAuto
import Derived.Deep.CutBlock
namespace Go.Proofs.Ytadngogbnjodhaa
open Go.RowKit
theorem app_id {ops : Array Oper} {rest : List Oper} {o : Oper} {a : Act} {Q : Exit → Act → World → Prop} (w : World) (hgd : o.guard = none) (s x : Operand)
    (ho : o.op = .call { callee := .builtin .append, args := #[s, x], argTypes := #[39, 39] })
    (hs : a.eval s = .slice none 0 0) (m : Int) (B : Nat) (hx : a.eval x = .slice (some ⟨B, 0, none⟩) 1 1) (hB : w.heap[B]? = some (.cells #[.int .i64 m] 3 (0, 0)))
    (h : ∀ g cap w', Frm (fun _ => False) w w' → wpList Try.prog ops Q rest (a.put o.dst (.slice (some ⟨g, 0, none⟩) 1 cap)) w') :
    wpList Try.prog ops Q (o :: rest) a w := by
  obtain ⟨i0, hi, hz0, hz1, hz2⟩ := info_parts info3
  refine wpList_append_lies w hgd s x 39 ho w.heap.size 3 i0 _ 1 8 Try.underlying39 hi hz0 hz1 hz2 rfl (by decide) (.slice none 0 0) 0 [] hs (World.ownsRow_nil _ _ _ _) ⟨B, 0, none⟩ 1 1 [.int .i64 m] hx rfl (World.news_of_block hB) ?_ (by omega) (by unfold maxLen; omega) (by omega) (Nat.le_refl _) _ rfl ?_
  · intro u hu
    simp only [List.mem_cons, List.not_mem_nil, or_false] at hu
    subst hu; rfl
  · intro g cap w1 h1 h2 h3 _
    exact h _ _ _ ⟨h2.os, h2.tape, h2.output, h2.size, fun j hj hs => h2.block j hj (fun e => by simp [Value.ownBlock] at e)⟩
def nilS : Value := .slice none 0 0
/-- What work makes. -/
def WorkR (K : TK) (C C' : CS) (r : Int) (dn : Value) : Prop :=
  C'.now = C.now ∧ C'.L = C.L ∧ (r = -1 ∨ r = 0) ∧ (∀ j, C.job = some j → r = 0 ∧ (j.ran + 1 = K.C → ∃ A c, dn = .slice A 1 c))
def WorkPost (T : Nat → Prop) (c : Nat) (K : TK) (C : CS) (w : World) (o : Nat) (who : Value) (e : Ending) (w' : World) : Prop :=
  ∃ (r : Int) (C' : CS) (dn : Value), e = .returned (.int .i64 r) ∧ CpuAt w' T c K C' ∧ WorkR K C C' r dn ∧ (∃ A n cp, dn = .slice A n cp) ∧ VecAt w' o 41 [who, dn, nilS, nilS] ∧ Frm T w w'
section
variable {w : World} {T : Nat → Prop} {c : Nat} {K : TK} {C : CS}
theorem CpuAt.off {w' : World} {S : Nat → Prop} (h : CpuAt w T c K C) (hf : Frm S w w') (ho : Off w S [54, 55, 63, 58, 70, 76, 3, 65, 81, 22]) : CpuAt w' T c K C :=
  ⟨h.core.frm hf (ho.sub (by decide)), h.task.frm hf (ho.sub (by decide)), h.srvs.frm hf (ho.sub (by decide)) (fun k _ ht => ho.no ht (by decide)), h.hK, h.hn, h.hb⟩
theorem run_world {w2 : World} {j : JobM} {o : Nat} {xs : List Value} (h : CpuAt w T c K C) (hj : C.job = some j) (ho : VecAt w o 41 xs) (hw2 : w2 = w.setCell ⟨j.jb, 1, none⟩ (.int .u64 ((j.ran : Int) + 1))) :
    Frm (fun k => k = j.jb) w w2 ∧ VecAt w2 j.jb 70 [.int .u64 K.C, .int .u64 ((j.ran + 1 : Nat) : Int), .int .u64 j.dead, .bool j.missed] ∧
      VecAt w2 C.tau 58 [.int .i64 K.P, .int .u64 K.C, .int .u64 K.Pe, .int .u64 K.D, .pointer (some ⟨j.jb, 0, none⟩), .bool C.begun, .int .u64 C.last] ∧ QAt w2 C.q K.P C.vq true ∧ VecAt w2 o 41 xs := by
  obtain ⟨h1, h2, h3⟩ := h.task.jobs j hj
  have hf : Frm (fun k => k = j.jb) w w2 := by rw [hw2]; exact (Frm.refl (fun k => k = j.jb) w).setCell (p := ⟨j.jb, 1, none⟩) (.inl rfl) _
  have no : ∀ k e, Ty w k e → e ≠ 70 → ¬ k = j.jb := fun k e ht he e2 => by
    subst e2
    exact he (ht.det h1.ty)
  have hv := h1.set 1 (.int .u64 ((j.ran : Int) + 1))
  rw [← hw2] at hv
  have ht := h.task.task
  have hq := h.task.queue
  rw [hj] at ht hq
  exact ⟨hf, hv, ht.frm hf (no _ _ ht.ty (by decide)), hq.frm hf (no _ _ hq.str.ty (by decide)) (fun k hk => no _ _ (own_ty hq.own hk) (by decide)), ho.frm hf (no _ _ ho.ty (by decide))⟩
theorem Frm.frm_core {w2 : World} {j : JobM} (hf : Frm (fun k => k = j.jb) w w2) (h : CpuAt w T c K C) (hj : C.job = some j) : Ty w2 c 54 := by
  refine (h.core.str.frm hf (fun e => ?_)).ty
  have := (h.task.jobs j hj).1.ty
  rw [← e] at this
  exact absurd (this.det h.core.str.ty) (by decide)
theorem done_world {w4 : World} {o tau q P : Nat} {who a0 a1 a2 a3 jp bg ls vq : Value} (v6 : VecAt w4 o 41 [who, nilS, nilS, nilS]) (v7 : VecAt w4 tau 58 [a0, a1, a2, a3, jp, bg, ls]) (v8 : QAt w4 q P vq true) (dn : Value) :
    Frm (fun k => k = o ∨ k = tau) w4 ((w4.setCell ⟨o, 1, none⟩ dn).setCell ⟨tau, 4, none⟩ (.pointer none)) ∧ VecAt ((w4.setCell ⟨o, 1, none⟩ dn).setCell ⟨tau, 4, none⟩ (.pointer none)) o 41 [who, dn, nilS, nilS] ∧
      VecAt ((w4.setCell ⟨o, 1, none⟩ dn).setCell ⟨tau, 4, none⟩ (.pointer none)) tau 58 [a0, a1, a2, a3, .pointer none, bg, ls] ∧ QAt ((w4.setCell ⟨o, 1, none⟩ dn).setCell ⟨tau, 4, none⟩ (.pointer none)) q P vq true := by
  have hf : Frm (fun k => k = o ∨ k = tau) w4 ((w4.setCell ⟨o, 1, none⟩ dn).setCell ⟨tau, 4, none⟩ (.pointer none)) := ((Frm.refl (fun k => k = o ∨ k = tau) w4).setCell (p := ⟨o, 1, none⟩) (.inl (.inl rfl)) _).setCell (p := ⟨tau, 4, none⟩) (.inl (.inr rfl)) _
  have hne : o ≠ tau := fun e => by
    have := v6.ty
    rw [e] at this
    exact absurd (this.det v7.ty) (by decide)
  have no : ∀ k e, Ty w4 k e → e ≠ 41 → e ≠ 58 → ¬ (k = o ∨ k = tau) := fun k e ht h1 h2 hc => by
    rcases hc with rfl | rfl
    · exact h1 (ht.det v6.ty)
    · exact h2 (ht.det v7.ty)
  exact ⟨hf, (v6.set 1 dn).other (a := ⟨tau, 4, none⟩) hne _, (v7.other (a := ⟨o, 1, none⟩) hne.symm dn).set 4 (.pointer none), v8.frm hf (no _ _ v8.str.ty (by decide) (by decide)) (fun k hk => no _ _ (own_ty v8.own hk) (by decide) (by decide))⟩
theorem Ty.back {S : Nat → Prop} {w' : World} {k : Nat} {e : TypeId} (h : Ty w' k e) (hf : Frm S w w') (hk : k < w.heap.size) (hs : ¬ S k) : Ty w k e := by
  obtain ⟨cur, fr, hb⟩ := h
  exact ⟨cur, fr, by rw [← hf.block k hk hs]; exact hb⟩
theorem work_done {w2 w4 w5 w6 : World} {j : JobM} {o : Nat} {who dn vq' : Value} (h : CpuAt w T c K C) (hj : C.job = some j) (hto : Ty w o 41) (hTo : T o) (f1 : Frm (fun k => k = j.jb) w w2) (f2 : Frm (fun _ => False) w2 w4) (f3 : Frm (fun k => k = o ∨ k = C.tau) w4 w5)
    (v2 : VecAt w5 o 41 [who, dn, nilS, nilS]) (v3 : VecAt w5 C.tau 58 [.int .i64 K.P, .int .u64 K.C, .int .u64 K.Pe, .int .u64 K.D, .pointer none, .bool C.begun, .int .u64 C.last])
    (hq : QAt w6 C.q K.P vq' false) (hv : ∀ k, vq'.ownBlock = some k → C.vq.ownBlock = some k) (f4 : Frm (fun k => k = C.q ∨ C.vq.ownBlock = some k) w5 w6) :
    CpuAt w6 T c K { C with vq := vq', job := none } ∧ VecAt w6 o 41 [who, dn, nilS, nilS] ∧ Frm T w w6 := by
  have hq0 := h.task.queue
  have hjb := h.task.jobs j hj
  have hf : Frm (fun k => k = j.jb ∨ k = o ∨ k = C.tau ∨ k = C.q ∨ C.vq.ownBlock = some k) w w6 :=
    (((f1.mono fun k _ e => .inl e).trans f2.of_none).trans (f3.mono fun k _ e => e.elim (fun e => .inr (.inl e)) (fun e => .inr (.inr (.inl e))))).trans (f4.mono fun k _ e => .inr (.inr (.inr e)))
  have f05 : Frm (fun k => k = j.jb ∨ k = o ∨ k = C.tau) w w5 := ((f1.mono fun k _ e => .inl e).trans f2.of_none).trans (f3.mono fun k _ e => .inr e)
  have no : ∀ k e, Ty w k e → (e = 41 ∨ e = 58) → ¬ (k = C.q ∨ C.vq.ownBlock = some k) := fun k e ht he hc => by
    have h1 : e = 76 ∨ e = 3 := by
      rcases hc with rfl | hc
      · exact .inl (ht.det hq0.str.ty)
      · exact .inr (ht.det (own_ty hq0.own hc))
    rcases he with rfl | rfl <;> rcases h1 with h1 | h1 <;> exact absurd h1 (by decide)
  refine ⟨h.task1 (job := none) hf (fun k hk => ?_) ⟨v3.frm f4 (no _ _ h.task.task.ty (.inr rfl)), fun j hj => (by cases hj), hq, h.task.tt.1, h.task.tt.2.1, fun k hk => h.task.tt.2.2 k (hv k hk)⟩ h.hn.2.1, v2.frm f4 (no _ _ hto (.inl rfl)), hf.mono fun k _ hk => ?_⟩
  · rcases hk with e | e | e | e | e
    · exact .inr (.inr (.inr (.inl ⟨j, hj, e⟩)))
    · exact .inr (.inr (.inr (.inr (by rw [e]; exact hto))))
    · exact .inl e
    · exact .inr (.inl e)
    · exact .inr (.inr (.inl e))
  · rcases hk with e | e | e | e | e
    · rw [e]; exact hjb.2.2
    · rw [e]; exact hTo
    · exact h.named k (.inl e)
    · exact h.named k (.inr (.inl e))
    · exact h.named k (.inr (.inr (.inl e)))
set_option maxRecDepth 100000 in
set_option maxHeartbeats 2000000 in
theorem work_c (h : CpuAt w T c K C) {o : Nat} {who : Value} (ho : VecAt w o 41 [who, nilS, nilS, nilS]) (hTo : T o) : Calls Try.prog 23 #[.pointer (some ⟨c, 0, none⟩), .pointer (some ⟨o, 0, none⟩)] w fun e w' => WorkPost T c K C w o who e w' := by
  have c0 := h.c0
  have c2 := h.c2
  have HFst := Lib.hid (first_c h.task.queue)
  have HH := Lib.hid h
  have HO := Lib.hid ho
  cases hjob : C.job with
  | none =>
    rw [hjob] at HFst
    simp only [Option.isSome_none] at HFst
    have HJ := Lib.hid hjob
    clear h ho hjob c0
    go_enter Try.func23, Try.ntmps23
    go_wp2_with fail
    with_reducible refine HFst.out.mono ?_
    rintro e w1 ⟨rfl, rfl⟩
    go_wp2_with fail
    go_ret
    exact ⟨-1, C, nilS, rfl, HH.out, ⟨rfl, rfl, .inl rfl, fun j hj => by rw [HJ.out] at hj; cases hj⟩, ⟨_, _, _, rfl⟩, HO.out, Frm.refl _ _⟩
  | some j =>
    rw [hjob] at HFst
    simp only [Option.isSome_some, if_true] at HFst
    obtain ⟨g, cap, hv, x0⟩ := h.vt
    rw [hv] at c0
    obtain ⟨ht, htf⟩ := h.tasky
    have t1 := ht 1 _ rfl
    have t4 := ht 4 _ rfl
    rw [hjob] at t4
    simp only [jptr] at t4
    have f4 := htf 4
    obtain ⟨hj1, hj2, hj3⟩ := h.task.jobs j hjob
    have j0 := hj1.cell (i := 0) rfl
    have j1 := hj1.cell (i := 1) rfl
    have jf := hj1.frozen 1
    have hK := h.hK
    have HJ := Lib.hid hjob
    have HJ1 := Lib.hid hj1
    have HJ3 := Lib.hid hj3
    obtain ⟨jb, ran, dead, missed⟩ := j
    simp only at t4 j0 j1 jf hj2
    obtain ⟨k1, k2, k3, k4, k5⟩ := hK
    clear h ho hjob hj1 hj3 ht htf hv
    go_enter Try.func23, Try.ntmps23
    go_wp2_with fail
    with_reducible refine HFst.out.mono ?_
    rintro e w1 ⟨rfl, rfl⟩
    clear HFst
    go_upto_region 8 with (fail)
    refine world_as fun w2 hw2 => ?_
    obtain ⟨v1, v2, v3, v4, v5⟩ := run_world HH.out HJ.out HO.out hw2
    have V1 := Lib.hid v1
    have V2 := Lib.hid v2
    have V3 := Lib.hid v3
    have V4 := Lib.hid v4
    have V5 := Lib.hid v5
    have j0 := v2.cell (i := 0) rfl
    have t4 := v3.cell (i := 4) rfl
    have t1 := v3.cell (i := 1) rfl
    have c2 := v1.cell (lt_of_cell c2) (fun e => by
      have := HH.out.core.str.ty
      rw [e] at this
      exact absurd (this.det HJ1.out.ty) (by decide)) c2
    have HO1 := Lib.hid HO.out.ty
    clear hw2 v1 v2 v3 v4 v5 c0 x0 f4 j1 jf HO HJ1
    by_cases hd : ran + 1 = K.C
    · have e1 : ((ran : Int) + 1 == (K.C : Int)) = true := by simp; omega
      have o1 : w2.cell? ⟨o, 1, none⟩ = some (.slice none 0 0) := V5.out.cell (i := 1) rfl
      have HB := Lib.hid (heap_alloc_new w2 (.cells #[.int .i64 0] 3))
      have not1 : ¬ o = C.tau := fun e => by
        have := V5.out.ty
        rw [e] at this
        exact absurd (this.det V3.out.ty) (by decide)
      have hcw := V1.out.frm_core HH.out HJ.out
      have nco : ¬ c = o := fun e => by
        have := V5.out.ty
        rw [← e] at this
        exact absurd (this.det hcw) (by decide)
      have nct : ¬ c = C.tau := fun e => by
        have := V3.out.ty
        rw [← e] at this
        exact absurd (this.det hcw) (by decide)
      have V6 := Lib.hid (V5.out.alloc (.cells #[.int .i64 0] 3))
      have V7 := Lib.hid (V3.out.alloc (.cells #[.int .i64 0] 3))
      have V8 := Lib.hid (V4.out.keep ((Frm.refl (fun _ => False) w2).alloc (.cells #[.int .i64 0] 3)))
      have C9 := Lib.hid (((Frm.refl (fun _ => False) w2).alloc (.cells #[.int .i64 0] 3)).cell (lt_of_cell c2) id c2)
      have L9 : Hid (c < (w2.alloc (.cells #[.int .i64 0] 3)).heap.size) := Lib.hid (lt_of_cell C9.out)
      clear hcw
      go_wp2_with (at_builtin; refine app_id _ rfl (.tmp 58) (.tmp 60) rfl rfl 0 w2.heap.size rfl HB.out ?_; intro g4 cap4 w4 hf4; have F4 := Lib.hid hf4; have V60 := V6.out.keep hf4; have V70 := V7.out.keep hf4; have o4 := V60.cell (i := 1) rfl; have o4f := V60.frozen 1; have t44 := V70.cell (i := 4) rfl; have t44f := V70.frozen 4; have c24 := hf4.cell L9.out id C9.out; clear V60 V70 hf4)
      obtain ⟨u1, u2, u3, u4⟩ := done_world (V6.out.keep F4.out) (V7.out.keep F4.out) (V8.out.keep F4.out) (.slice (some ⟨g4, 0, none⟩) 1 cap4)
      have U1 := Lib.hid u1
      have U2 := Lib.hid u2
      have U3 := Lib.hid u3
      have HG := Lib.hid (go_c u4)
      clear u1 u2 u3 u4
      with_reducible refine HG.out.mono ?_
      rintro e w6 ⟨rfl, ⟨vq', hq', hvq⟩, hf6⟩
      have H6 := Lib.hid hq'
      have HV6 := Lib.hid hvq
      have F6 := Lib.hid hf6
      clear hq' hvq hf6 HG
      go_wp2_with fail
      go_ret
      obtain ⟨z1, z2, z3⟩ := work_done HH.out HJ.out HO1.out hTo V1.out (((Frm.refl (fun _ => False) w2).alloc (.cells #[.int .i64 0] 3)).trans F4.out) U1.out U2.out U3.out H6.out HV6.out F6.out
      exact ⟨0, _, _, rfl, z1, ⟨rfl, rfl, .inr rfl, fun j' hj' => ⟨rfl, fun _ => ⟨_, _, rfl⟩⟩⟩, ⟨_, _, _, rfl⟩, z2, z3⟩
    · have e1 : ((ran : Int) + 1 == (K.C : Int)) = false := by simp; omega
      go_wp2_with fail
      go_ret
      refine ⟨0, { C with job := some ⟨jb, ran + 1, dead, missed⟩ }, nilS, rfl, HH.out.task1 (job := some ⟨jb, ran + 1, dead, missed⟩) (V1.out) (fun k hk => .inr (.inr (.inr (.inl ⟨_, HJ.out, hk⟩)))) ⟨V3.out, fun j' hj' => ?_, V4.out, HH.out.task.tt⟩ HH.out.hn.2.1, ⟨rfl, rfl, .inr rfl, fun j' hj' => ⟨rfl, fun h1 => ?_⟩⟩, ⟨_, _, _, rfl⟩, V5.out, V1.out.mono fun k _ hk => by rw [hk]; exact HJ3.out⟩
      · injection hj' with hj'
        subst hj'
        exact ⟨V2.out, by show ran + 1 < K.C; omega, HJ3.out⟩
      · rw [HJ.out] at hj'
        injection hj' with hj'
        subst hj'
        exact absurd h1 hd
end
end Go.Proofs.Ytadngogbnjodhaa
