/- Wake. -/
import Derived.Test.YtadngogbnjodhaaA6
namespace Go.Proofs.Ytadngogbnjodhaa
open Go.RowKit
section
variable {w : World} {T : Nat → Prop} {c : Nat} {K : TK} {C : CS}
theorem CpuAt.vs (h : CpuAt w T c K C) {i : Nat} {v : SrvM} (hi : C.L[i]? = some v) : ∃ g cap, C.vs = .slice (some ⟨g, 0, none⟩) C.L.length cap ∧ w.cell? ⟨g, i, none⟩ = some (.pointer (some ⟨v.sb, 0, none⟩)) := by
  have hil := (List.getElem?_eq_some_iff.1 hi).1
  obtain ⟨g, cap, hv, hg, hc⟩ := own_form h.core.servers (by omega)
  refine ⟨g, cap, hv, ?_⟩
  have := h.core.servers
  rw [hv] at this
  rw [this.cellAt i (by omega), ptrs, List.getElem?_map, hi]; rfl
/-- One server changed. -/
theorem CpuAt.srv1 {w' : World} {S : Nat → Prop} (h : CpuAt w T c K C) {i : Nat} {v v' : SrvM} (hi : C.L[i]? = some v) (hf : Frm S w w') (hS : ∀ k, S k → k = v.sb ∨ k = v.bb) (h' : SrvAt w' T v') (e1 : v'.sb = v.sb) (e2 : v'.bb = v.bb) (e3 : v'.bn ≤ C.now) :
    CpuAt w' T c K { C with L := C.L.set i v' } := by
  have hv := h.srvs.all i v hi
  obtain ⟨A, cc, hb⟩ := hv.bud
  have hil := (List.getElem?_eq_some_iff.1 hi).1
  have ho : Off w S [54, 55, 63, 58, 70, 76, 3] := fun k hk => by
    rcases hS k hk with rfl | rfl
    · exact ⟨_, hv.str.ty, by decide⟩
    · exact ⟨_, hb.str.ty, by decide⟩
  have hptr : ptrs (C.L.set i v') = ptrs C.L := by
    unfold ptrs
    rw [List.map_set, e1]
    apply List.ext_getElem?
    intro j
    rw [List.getElem?_set]
    by_cases e : i = j
    · subst e
      rw [if_pos rfl, List.length_map, if_pos hil, List.getElem?_map, hi]; rfl
    · rw [if_neg e]
  have hc := h.core.frm hf (ho.sub (by decide))
  refine ⟨⟨hc.str, hc.tasks, ?_, hc.tt⟩, h.task.frm hf (ho.sub (by decide)), ⟨fun j u hj => ?_, fun j k u x hj hk hux => ?_⟩, h.hK, by simpa using h.hn, fun j u hj => ?_⟩
  · have := hc.servers
    simp only [List.length_set, hptr]
    exact this
  · by_cases e : i = j
    · subst e
      simp only [List.getElem?_set_self hil, Option.some.injEq] at hj
      subst hj; exact h'
    · simp only [List.getElem?_set_ne e] at hj
      have hu := h.srvs.all j u hj
      obtain ⟨A2, c2, hb2⟩ := hu.bud
      refine hu.frm hf (fun hk => ?_) (fun hk => ?_) (fun k _ ht hk => ?_)
      · rcases hS _ hk with e3 | e3
        · exact e (h.srvs.inj i j v u hi hj (.inl e3.symm))
        · have := hu.str.ty
          rw [e3] at this
          exact absurd (this.det hb.str.ty) (by decide)
      · rcases hS _ hk with e3 | e3
        · have := hb2.str.ty
          rw [e3] at this
          exact absurd (this.det hv.str.ty) (by decide)
        · exact e (h.srvs.inj i j v u hi hj (.inr e3.symm))
      · rcases hS _ hk with e3 | e3
        · subst e3
          exact absurd (ht.det hv.str.ty) (by decide)
        · subst e3
          exact absurd (ht.det hb.str.ty) (by decide)
  · have hget : ∀ (j : Nat) (u : SrvM), (C.L.set i v')[j]? = some u → ∃ u0, C.L[j]? = some u0 ∧ u0.sb = u.sb ∧ u0.bb = u.bb := fun j u hj => by
      by_cases e : i = j
      · subst e
        rw [List.getElem?_set_self hil, Option.some.injEq] at hj
        subst hj; exact ⟨v, hi, e1.symm, e2.symm⟩
      · rw [List.getElem?_set_ne e] at hj; exact ⟨u, hj, rfl, rfl⟩
    obtain ⟨u0, h1, h2, h3⟩ := hget j u hj
    obtain ⟨x0, k1, k2, k3⟩ := hget k x hk
    exact h.srvs.inj j k u0 x0 h1 k1 (by rw [h2, h3, k2, k3]; exact hux)
  · by_cases e : i = j
    · subst e
      simp only [List.getElem?_set_self hil, Option.some.injEq] at hj
      subst hj; exact e3
    · simp only [List.getElem?_set_ne e] at hj
      exact h.hb j u hj
theorem SrvAt.worked {v : SrvM} (h : SrvAt w T v) (x : Nat) (hx : x ≤ 1048576) (val : Int) (hv : val = (x : Nat)) : SrvAt (w.setCell ⟨v.sb, 1, none⟩ (.int .u64 val)) T { v with work := x } := by
  subst hv
  obtain ⟨A, cc, hb⟩ := h.bud
  refine ⟨h.str.set 1 _, ⟨A, cc, hb.frm ((Frm.refl (fun k => k = v.sb) w).setCell (p := ⟨v.sb, 1, none⟩) (.inl rfl) _) (fun e => ?_) (fun k cur _ hk e => ?_)⟩, ⟨h.wf.1, h.wf.2.1, h.wf.2.2.1, hx⟩, h.tt⟩
  · have := hb.str.ty
    rw [e] at this
    exact absurd (this.det h.str.ty) (by decide)
  · subst e
    exact absurd (Ty.det ⟨cur, _, hk⟩ h.str.ty) (by decide)
theorem SrvAt.keep {w' : World} {v : SrvM} (h : SrvAt w T v) (hf : Frm (fun _ => False) w w') : SrvAt w' T v := h.frm hf id id (fun _ _ _ => id)
set_option maxRecDepth 100000 in
set_option maxHeartbeats 1000000 in
theorem wake_c (h : CpuAt w T c K C) {i : Nat} {v : SrvM} (hi : C.L[i]? = some v) (n : Nat) (hn : n ≤ 100000) : Calls Try.prog 9 #[.pointer (some ⟨c, 0, none⟩), .int .i64 i, .int .u64 n] w fun e w' => e = .returned (.int .i64 0) ∧
    CpuAt w' T c K { C with L := C.L.set i { v with work := v.work + min n (1048576 - v.work) } } ∧ Frm T w w' := by
  have c1 := h.c1
  obtain ⟨g, cap, hv, x0⟩ := h.vs hi
  rw [hv] at c1
  have hil := (List.getElem?_eq_some_iff.1 hi).1
  have hl := h.hn.2.2
  have e1 : decide ((C.L.length : Int) ≤ (i : Int)) = false := by simp; omega
  have e2 : decide (C.L.length ≤ i) = false := by simp; omega
  have i3 : (i : Int) < (C.L.length : Int) := by omega
  have hs := h.srvs.all i v hi
  have s1 := hs.str.cell (i := 1) rfl
  have f1 := hs.str.frozen 1
  have hw := hs.wf.2.2.2
  have HBN := Lib.hid (h.hb i v hi)
  have HH := Lib.hid h
  have HS := Lib.hid hs
  have HI := Lib.hid hi
  obtain ⟨sb, bb, B, Pr, work, l, bn⟩ := v
  simp only at s1 f1 hw x0
  clear h hs hi hv
  have W1 : IntKind.u64.wrap (1048576 - (work : Int)) = 1048576 - (work : Int) := IntWalk.u64_in _ (by omega)
  go_enter Try.func9, Try.ntmps9
  go_wp2_with fail
  go_region
  go_wp2_with fail
  all_goals
    go_ret
    refine ⟨rfl, HH.out.srv1 (S := fun k => k = sb) HI.out (((Frm.refl (fun k => k = sb) w).setCell (p := ⟨sb, 1, none⟩) (.inl rfl) _).drew) (fun k hk => .inl hk)
      ((HS.out.worked (work + min n (1048576 - work)) (by omega) _ ?_).keep (Frm.refl _ _).drew) rfl rfl HBN.out, ?_⟩
    · omega
    exact ((Frm.refl T w).setCell (p := ⟨sb, 1, none⟩) (.inl HS.out.tt.1) _).drew
end
end Go.Proofs.Ytadngogbnjodhaa
