/- late. -/
import Derived.Test.YtadngogbnjodhaaB1
namespace Go.Proofs.Ytadngogbnjodhaa
open Go.RowKit
/-- The job is there as before. -/
def KeepJ (C C' : CS) : Prop := ∀ j, C.job = some j → ∃ j', C'.job = some j' ∧ j'.ran = j.ran
theorem KeepJ.refl (C : CS) : KeepJ C C := fun j hj => ⟨j, hj, rfl⟩
def LatePost (T : Nat → Prop) (c : Nat) (K : TK) (C : CS) (w : World) (o : Nat) (who dn : Value) (e : Ending) (w' : World) : Prop :=
  ∃ (C' : CS) (ms : Value), e = .returned (.tuple #[]) ∧ CpuAt w' T c K C' ∧ (C'.now = C.now ∧ C'.L = C.L ∧ KeepJ C C') ∧ (∃ A n cp, ms = .slice A n cp) ∧ VecAt w' o 41 [who, dn, nilS, ms] ∧ Frm T w w'
section
variable {w : World} {T : Nat → Prop} {c : Nat} {K : TK} {C : CS}
theorem late_done {w2 w4 : World} {j : JobM} {o : Nat} {who dn ms : Value} (h : CpuAt w T c K C) (hj : C.job = some j) (ho : VecAt w o 41 [who, dn, nilS, nilS]) (hTo : T o)
    (hw2 : w2 = w.setCell ⟨j.jb, 3, none⟩ (.bool true)) (f2 : Frm (fun _ => False) w2 w4) :
    CpuAt (w4.setCell ⟨o, 3, none⟩ ms) T c K { C with job := some { j with missed := true } } ∧ VecAt (w4.setCell ⟨o, 3, none⟩ ms) o 41 [who, dn, nilS, ms] ∧ Frm T w (w4.setCell ⟨o, 3, none⟩ ms) := by
  obtain ⟨h1, h2, h3⟩ := h.task.jobs j hj
  have f1 : Frm (fun k => k = j.jb) w w2 := by rw [hw2]; exact (Frm.refl (fun k => k = j.jb) w).setCell (p := ⟨j.jb, 3, none⟩) (.inl rfl) _
  have hf : Frm (fun k => k = j.jb ∨ k = o) w (w4.setCell ⟨o, 3, none⟩ ms) := ((f1.mono fun k _ e => .inl e).trans f2.of_none).setCell (p := ⟨o, 3, none⟩) (.inl (.inr rfl)) _
  have f3 : Frm (fun k => k = o) w2 (w4.setCell ⟨o, 3, none⟩ ms) := (f2.of_none (S := fun k => k = o)).setCell (p := ⟨o, 3, none⟩) (.inl rfl) _
  have hne : j.jb ≠ o := fun e => by
    have := ho.ty
    rw [← e] at this
    exact absurd (this.det h1.ty) (by decide)
  have no : ∀ k e, Ty w k e → e ≠ 70 → e ≠ 41 → ¬ (k = j.jb ∨ k = o) := fun k e ht e1 e2 hc => by
    rcases hc with rfl | rfl
    · exact e1 (ht.det h1.ty)
    · exact e2 (ht.det ho.ty)
  have hv := h1.set 3 (.bool true)
  rw [← hw2] at hv
  have ho2 := ((ho.frm f1 (fun e => hne e.symm)).keep f2).set 3 ms
  refine ⟨h.task1 (job := some { j with missed := true }) hf (fun k hk => ?_) ⟨?_, fun j' hj' => ?_, ?_, h.task.tt⟩ h.hn.2.1, ho2, hf.mono fun k _ hk => ?_⟩
  · rcases hk with e | e
    · exact .inr (.inr (.inr (.inl ⟨j, hj, e⟩)))
    · exact .inr (.inr (.inr (.inr (by rw [e]; exact ho.ty))))
  · have ht := h.task.task
    rw [hj] at ht
    exact ht.frm hf (no _ _ ht.ty (by decide) (by decide))
  · injection hj' with hj'
    subst hj'
    exact ⟨hv.frm f3 (fun e => hne e), h2, h3⟩
  · have hq := h.task.queue
    rw [hj] at hq
    exact hq.frm hf (no _ _ hq.str.ty (by decide) (by decide)) (fun k hk => no _ _ (own_ty hq.own hk) (by decide) (by decide))
  · rcases hk with e | e
    · rw [e]; exact h3
    · rw [e]; exact hTo
set_option maxRecDepth 100000 in
set_option maxHeartbeats 2000000 in
theorem late_c (h : CpuAt w T c K C) {o : Nat} {who dn : Value} (ho : VecAt w o 41 [who, dn, nilS, nilS]) (hTo : T o) : Calls Try.prog 32 #[.pointer (some ⟨c, 0, none⟩), .pointer (some ⟨o, 0, none⟩)] w fun e w' => LatePost T c K C w o who dn e w' := by
  have c0 := h.c0
  have c3 := h.c3
  obtain ⟨g, cap, hv, x0⟩ := h.vt
  rw [hv] at c0
  have t4 := h.tasky.1 4 _ rfl
  have hjs := Lib.hid h.task.jobs
  have HH := Lib.hid h
  have HO := Lib.hid ho
  clear h hv ho
  go_enter Try.func32, Try.ntmps32
  go_wp2_with fail
  go_loopw [11] (fun i wr => (i = .int .i64 0 ∧ wr = w) ∨ (i = .int .i64 1 ∧ Hid (LatePost T c K C w o who dn (.returned (.tuple #[])) wr))) (fun i _ => 1 - (intOf i).toNat)
  case atStart => exact .inl ⟨rfl, rfl⟩
  case round =>
    rcases hrel with ⟨rfl, rfl⟩ | ⟨rfl, HP⟩
    · cases hjob : C.job with
      | none =>
        rw [hjob] at t4
        simp only [jptr] at t4
        have HJ := Lib.hid hjob
        clear hjob
        go_wp2_with fail
        go_quiet (fail)
        go_wp2_with fail
        go_roundw
        case rel => exact .inr ⟨rfl, Lib.hid ⟨C, nilS, rfl, HH.out.keep ((Frm.refl _ _).drewN _), ⟨rfl, rfl, KeepJ.refl C⟩, ⟨_, _, _, rfl⟩, HO.out.keep ((Frm.refl _ _).drewN _), (Frm.refl _ _).drewN _⟩⟩
        case measure => simp [intOf]
      | some j =>
        rw [hjob] at t4
        simp only [jptr] at t4
        obtain ⟨h1, h2, h3⟩ := hjs.out j hjob
        have HJ := Lib.hid hjob
        have H1 := Lib.hid h1
        have j2 := h1.cell (i := 2) rfl
        have j3 := h1.cell (i := 3) rfl
        have jf := h1.frozen 3
        obtain ⟨jb, ran, dead, missed⟩ := j
        simp only at t4 j2 j3 jf
        clear hjob h1 h2 h3 hjs
        have hex : missed = true ∨ (missed = false ∧ decide (dead ≤ C.now) = false) ∨ (missed = false ∧ decide (dead ≤ C.now) = true) := by
          cases missed
          · by_cases e : dead ≤ C.now
            · exact .inr (.inr ⟨rfl, by simpa using e⟩)
            · exact .inr (.inl ⟨rfl, by simpa using e⟩)
          · exact .inl rfl
        rcases hex with rfl | ⟨rfl, e2⟩ | ⟨rfl, e2⟩
        · go_wp2_with fail
          go_quiet (fail)
          go_wp2_with fail
          go_roundw
          case rel => exact .inr ⟨rfl, Lib.hid ⟨C, nilS, rfl, HH.out.keep ((Frm.refl _ _).drewN _), ⟨rfl, rfl, KeepJ.refl C⟩, ⟨_, _, _, rfl⟩, HO.out.keep ((Frm.refl _ _).drewN _), (Frm.refl _ _).drewN _⟩⟩
          case measure => simp [intOf]
        · go_wp2_with fail
          go_quiet (fail)
          go_wp2_with fail
          go_roundw
          case rel => exact .inr ⟨rfl, Lib.hid ⟨C, nilS, rfl, HH.out.keep ((Frm.refl _ _).drewN _), ⟨rfl, rfl, KeepJ.refl C⟩, ⟨_, _, _, rfl⟩, HO.out.keep ((Frm.refl _ _).drewN _), (Frm.refl _ _).drewN _⟩⟩
          case measure => simp [intOf]
        · go_wp2_with fail
          go_quiet (fail)
          have HD := Lib.hid (HH.out.keep ((Frm.refl _ wr).drewN nq))
          have HOD := Lib.hid (HO.out.keep ((Frm.refl (fun _ => False) wr).drewN nq))
          go_upto_region 5 with (fail)
          refine world_as fun w2 hw2 => ?_
          have hne : ¬ o = jb := fun e => by
            have h5 := HO.out.ty
            rw [e] at h5
            exact absurd (h5.det H1.out.ty) (by decide)
          have hv2 := HOD.out.frm (S := fun k => k = jb) (w' := w2) (by rw [hw2]; exact (Frm.refl (fun k => k = jb) _).setCell (p := ⟨jb, 3, none⟩) (.inl rfl) _) hne
          have o3 : w2.cell? ⟨o, 3, none⟩ = some (.slice none 0 0) := hv2.cell (i := 3) rfl
          have HB := Lib.hid (heap_alloc_new w2 (.cells #[.int .i64 0] 3))
          have V6 := Lib.hid (hv2.alloc (.cells #[.int .i64 0] 3))
          have HW2 := Lib.hid hw2
          clear hw2 hv2 j2 j3 t4 c3 c0 x0 jf
          go_wp2_with (at_builtin; refine app_id _ rfl (.tmp 55) (.tmp 57) rfl rfl 0 w2.heap.size rfl HB.out ?_; intro g4 cap4 w4 hf4; have F4 := Lib.hid hf4; have V60 := V6.out.keep hf4; have o4 := V60.cell (i := 3) rfl; have o4f := V60.frozen 3; clear V60 hf4)
          go_roundw
          case rel =>
            obtain ⟨z1, z2, z3⟩ := late_done (ms := .slice (some ⟨g4, 0, none⟩) 1 cap4) HD.out HJ.out HOD.out hTo HW2.out (((Frm.refl (fun _ => False) w2).alloc (.cells #[.int .i64 0] 3)).trans F4.out)
            exact .inr ⟨rfl, Lib.hid ⟨_, _, rfl, z1, ⟨rfl, rfl, fun j' hj' => by rw [HJ.out] at hj'; injection hj' with hj'; subst hj'; exact ⟨_, rfl, rfl⟩⟩, ⟨_, _, _, rfl⟩, z2, ((Frm.refl T wr).drewN nq).trans z3⟩⟩
          case measure => simp [intOf]
    · go_wp2_with fail
      exact bodyPost_end (v := .tuple #[]) (by simp [results, Try.results32, go_sem]) rfl HP.out
end
end Go.Proofs.Ytadngogbnjodhaa
