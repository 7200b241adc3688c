/- step. -/
import Derived.Test.YtadngogbnjodhaaB2
namespace Go.Proofs.Ytadngogbnjodhaa
open Go.RowKit
def fval (f p : Nat) : Value := .func (.func f) #[.pointer (some ⟨p, 0, none⟩)] #[]
def TickR (K : TK) (C C' : CS) (who : Int) (dn : Value) : Prop :=
  ∃ r : Int, ServeR C.now C.L C'.L r ∧ ((r ≠ -1 ∧ who = r ∧ KeepJ C C') ∨ (r = -1 ∧ (who = -1 ∨ who = 0) ∧ (∀ j, C.job = some j → who = 0 ∧ (j.ran + 1 = K.C → ∃ A c, dn = .slice A 1 c))))
section
variable {w : World} {T : Nat → Prop} {c : Nat} {K : TK} {C : CS}
theorem CpuAt.mono {T' : Nat → Prop} (h : CpuAt w T c K C) (hs : ∀ k, k < w.heap.size → T k → T' k) : CpuAt w T' c K C := by
  refine ⟨⟨h.core.str, h.core.tasks, h.core.servers, hs _ h.core.str.lt h.core.tt⟩, ⟨h.task.task, fun j hj => ?_, h.task.queue, hs _ h.task.task.lt h.task.tt.1, hs _ h.task.queue.str.lt h.task.tt.2.1, fun k hk => ?_⟩, ⟨fun i v hi => ?_, h.srvs.inj⟩, h.hK, h.hn, h.hb⟩
  · obtain ⟨h1, h2, h3⟩ := h.task.jobs j hj
    exact ⟨h1, h2, hs _ h1.lt h3⟩
  · obtain ⟨cur, fr, hb⟩ := own_ty h.task.queue.own hk
    exact hs k (lt_of_block hb) (h.task.tt.2.2 k hk)
  · have hv := h.srvs.all i v hi
    obtain ⟨A, cc, hb⟩ := hv.bud
    refine ⟨hv.str, ⟨A, cc, hb.str, hb.rows, ?_, hb.hc⟩, hv.wf, hs _ hv.str.lt hv.tt.1, hs _ hb.str.lt hv.tt.2⟩
    rcases hb.hA with e | ⟨blk, off, e, ht, cur, hh⟩
    · exact .inl e
    · exact .inr ⟨blk, off, e, hs _ (lt_of_block hh) ht, cur, hh⟩
/-- Time goes on. -/
theorem CpuAt.next (h : CpuAt w T c K C) (hn : C.now < 90000) : CpuAt (w.setCell ⟨c, 3, none⟩ (.int .u64 ((C.now : Int) + 1))) T c K { C with now := C.now + 1 } := by
  have hf : Frm (fun k => k = c) w (w.setCell ⟨c, 3, none⟩ (.int .u64 ((C.now : Int) + 1))) := (Frm.refl (fun k => k = c) w).setCell (p := ⟨c, 3, none⟩) (.inl rfl) _
  have ho : Off w (fun k => k = c) [55, 63, 58, 70, 76, 3, 65, 81, 22] := fun k hk => by rw [hk]; exact ⟨_, h.core.str.ty, by decide⟩
  refine ⟨⟨h.core.str.set 3 _, own_frm h.core.tasks hf (fun _ hk => ho.no (own_ty h.core.tasks hk) (by decide)), own_frm h.core.servers hf (fun _ hk => ho.no (own_ty h.core.servers hk) (by decide)), h.core.tt⟩,
    h.task.frm hf (ho.sub (by decide)), h.srvs.frm hf (ho.sub (by decide)) (fun k _ ht => ho.no ht (by decide)), h.hK, ⟨by show C.now + 1 < 100000; omega, by have := h.hn.2.1; show C.last ≤ C.now + 1; omega, h.hn.2.2⟩, fun i v hi => by have := h.hb i v hi; show v.bn ≤ C.now + 1; omega⟩
def StepPost (T : Nat → Prop) (c : Nat) (K : TK) (C : CS) (w : World) (e : Ending) (w' : World) : Prop :=
  ∃ (who : Int) (A1 A2 A3 : Option Addr) (n1 n2 n3 c1 c2 c3 : Nat) (C' : CS), e = .returned (.tuple #[.agg #[.int .i64 who, .slice A1 n1 c1, .slice A2 n2 c2, .slice A3 n3 c3], .int .i64 0]) ∧ CpuAt w' T c K C' ∧ C'.now = C.now + 1 ∧ TickR K C C' who (.slice A1 n1 c1) ∧ Frm T w w'
/-- Behind serve. -/
def Stage1 (T : Nat → Prop) (c : Nat) (K : TK) (C : CS) (w : World) (o : Nat) (wr : World) : Prop :=
  ∃ (r : Int) (L' : List SrvM), CpuAt wr T c K { C with L := L' } ∧ ServeR C.now C.L L' r ∧ VecAt wr o 41 [.int .i64 r, nilS, nilS, nilS] ∧ Frm T w wr
def Stage2 (T : Nat → Prop) (c : Nat) (K : TK) (C : CS) (w : World) (o : Nat) (wr : World) : Prop :=
  ∃ (who : Int) (dn : Value) (C' : CS), CpuAt wr T c K C' ∧ C'.now = C.now ∧ TickR K C C' who dn ∧ (∃ A n cp, dn = .slice A n cp) ∧ VecAt wr o 41 [.int .i64 who, dn, nilS, nilS] ∧ Frm T w wr
theorem post_as {P : Program} {F : Func} {p : Ending → World → Prop} {x : Exit} {a : Act} {w : World} (h : ∀ w2, w2 = w → bodyPost P F p x a w2) : bodyPost P F p x a w := h w rfl
theorem step_world {w2 : World} {R : Nat} (h : CpuAt w T c K C) (hT : ∀ k, w.heap.size ≤ k → T k) (hR : VecAt w R 73 [fval 22 c, fval 23 c]) (hTR : ¬ T R)
    (hw2 : w2 = ((w.alloc (.cells #[.int .i64 0, .slice none 0 0, .slice none 0 0, .slice none 0 0] 41)).alloc (.cells #[.int .i64 (-1), .slice none 0 0, .slice none 0 0, .slice none 0 0] 41))) :
    ∃ T' T1 : Nat → Prop, CpuAt w2 T1 c K C ∧ VecAt w2 (w.heap.size + 1) 41 [.int .i64 (-1), nilS, nilS, nilS] ∧ VecAt w2 R 73 [fval 22 c, fval 23 c] ∧ T' (w.heap.size + 1) ∧ (∀ k, w2.heap.size ≤ k → T1 k) ∧ (∀ k, T1 k → T' k) ∧
      (¬ T1 (w.heap.size + 1) ∧ ¬ T1 R) ∧ R ≠ w.heap.size + 1 ∧ (VecAt w2 w.heap.size 41 [.int .i64 0, nilS, nilS, nilS] ∧ ¬ T' w.heap.size ∧ (∀ k, T' k → T k)) ∧ Frm (fun _ => False) w w2 := by
  have hf : Frm (fun _ => False) w w2 := by rw [hw2]; exact ((Frm.refl _ w).alloc _).alloc _
  have h1 : VecAt w2 w.heap.size 41 [.int .i64 0, nilS, nilS, nilS] := by rw [hw2]; exact (VecAt.new w 41 [.int .i64 0, nilS, nilS, nilS]).alloc _
  have h2 : VecAt w2 (w.heap.size + 1) 41 [.int .i64 (-1), nilS, nilS, nilS] := by
    have := VecAt.new (w.alloc (.cells #[.int .i64 0, .slice none 0 0, .slice none 0 0, .slice none 0 0] 41)) 41 [.int .i64 (-1), nilS, nilS, nilS]
    rw [World.size_alloc] at this
    rw [hw2]; exact this
  have h3 := hR.keep hf
  have hRl := hR.lt
  have hs := h2.lt
  refine ⟨fun k => T k ∧ k ≠ w.heap.size, fun k => T k ∧ k ≠ w.heap.size ∧ k ≠ w.heap.size + 1, (h.mono fun k hk ht => ⟨ht, by omega, by omega⟩).keep hf, h2, h3, ⟨hT _ (by omega), by omega⟩, fun k hk => ⟨hT k (by omega), by omega, by omega⟩, fun k hk => ⟨hk.1, hk.2.1⟩, ⟨fun e => e.2.2 rfl, fun e => hTR e.1⟩, by omega, ⟨h1, fun e => e.2 rfl, fun k hk => hk.1⟩, hf⟩
set_option maxRecDepth 100000 in
set_option maxHeartbeats 2000000 in
theorem step_c (h : CpuAt w T c K C) (hT : ∀ k, w.heap.size ≤ k → T k) (hn : C.now < 90000) {R : Nat} (hR : VecAt w R 73 [fval 22 c, fval 23 c]) (hTR : ¬ T R) :
    Calls Try.prog 21 #[.pointer (some ⟨c, 0, none⟩), .slice (some ⟨R, 0, none⟩) 2 2] w fun e w' => StepPost T c K C w e w' := by
  have HA := Lib.hid (fun w => add_c w C.now 1 (by omega))
  have HH := Lib.hid h
  have c3 := h.c3
  have hcl := h.core.str.lt
  have m3 : ∀ O, (w.alloc O).cell? ⟨c, 3, none⟩ = some (.int .u64 C.now) := fun O => (World.cell?_alloc_past (w := w) O c 3 hcl).trans c3
  clear h
  go_enter Try.func21, Try.ntmps21
  go_wp2_with fail
  with_reducible refine (HA.out _).mono ?_
  rintro e w1 ⟨rfl, rfl⟩
  clear HA
  go_wp2_with fail
  refine world_as fun w2 hw2 => ?_
  obtain ⟨T', T1, u1, u2, u3, u4, u6, u7, u8, u9, u10, u11⟩ := step_world HH.out hT hR hTR hw2
  have U1 := Lib.hid u1
  have U2 := Lib.hid u2
  have U3 := Lib.hid u3
  have U4 := Lib.hid u4
  have U6 := Lib.hid u6
  have U7 := Lib.hid u7
  have U8 := Lib.hid u8
  have U9 := Lib.hid u9
  have U10 := Lib.hid u10
  have U11 := Lib.hid u11
  have hR := Lib.hid hR
  have hT := Lib.hid hT
  clear hw2 u1 u2 u3 u4 u6 u7 u8 u9 u10 u11 m3 hTR c3 hcl
  go_loopw [26] (fun i wr => (i = .int .i64 0 ∧ wr = w2) ∨ (i = .int .i64 1 ∧ Hid (Stage1 T' c K C w2 (w.heap.size + 1) wr ∧ VecAt wr R 73 [fval 22 c, fval 23 c])) ∨ (i = .int .i64 2 ∧ Hid (Stage2 T' c K C w2 (w.heap.size + 1) wr))) (fun i _ => 2 - (intOf i).toNat)
  case atStart => exact .inl ⟨rfl, rfl⟩
  case round =>
    rcases hrel with ⟨rfl, rfl⟩ | ⟨rfl, HP⟩ | ⟨rfl, HP⟩
    · have r0 := U3.out.cell (i := 0) rfl
      have o0 := U2.out.cell (i := 0) rfl
      simp only [fval] at r0
      go_wp2_with fail
      with_reducible refine (serve_c U1.out U6.out _).mono ?_
      rintro e w3 ⟨r, L', rfl, h3, hs3, hf3⟩
      have HS3 := Lib.hid hs3
      have HF3 := Lib.hid hf3
      have H3 := Lib.hid h3
      have V3 := Lib.hid (U2.out.frm hf3 U8.out.1)
      have VR := Lib.hid (U3.out.frm hf3 U8.out.2)
      have o3 := V3.out.cell (i := 0) rfl
      have o3f := V3.out.frozen 0
      clear h3 hs3 hf3 r0 o0
      go_wp2_with fail
      go_roundw
      case rel =>
        refine .inr (.inl ⟨rfl, Lib.hid ⟨⟨r, L', ?_, HS3.out, V3.out.set 0 _, ?_⟩, VR.out.other (a := ⟨w.heap.size + 1, 0, none⟩) U9.out _⟩⟩)
        · exact (H3.out.mono (fun k _ hk => U7.out k hk)).off ((Frm.refl (fun k => k = w.heap.size + 1) w3).setCell (p := ⟨w.heap.size + 1, 0, none⟩) (.inl rfl) _) (fun k hk => by rw [hk]; exact ⟨_, V3.out.ty, by decide⟩)
        · exact (HF3.out.mono (fun k _ hk => U7.out k hk)).setCell (p := ⟨w.heap.size + 1, 0, none⟩) (.inl U4.out) _
      case measure => simp [intOf]
    · obtain ⟨⟨r, L', h1, h2, h3, h4⟩, h5⟩ := HP.out
      have r1 := h5.cell (i := 1) rfl
      have o0 := h3.cell (i := 0) rfl
      simp only [fval] at r1
      have H1 := Lib.hid h1
      have H2 := Lib.hid h2
      have H3 := Lib.hid h3
      have H4 := Lib.hid h4
      clear h1 h2 h3 h4 h5 HP
      by_cases hr : r = -1
      · subst hr
        go_wp2_with fail
        with_reducible refine (work_c H1.out H3.out U4.out).mono ?_
        rintro e w3 ⟨r2, C', dn, rfl, k1, k2, k5, k3, k4⟩
        have K1 := Lib.hid k1
        have K2 := Lib.hid k2
        have K3 := Lib.hid k3
        have K4 := Lib.hid k4
        have K5 := Lib.hid k5
        have o3 := k3.cell (i := 0) rfl
        have o3f := k3.frozen 0
        clear k1 k2 k3 k4 k5 r1 o0
        go_wp2_with fail
        go_roundw
        case rel =>
          refine .inr (.inr ⟨rfl, Lib.hid ⟨r2, dn, C', ?_, K2.out.1, ⟨-1, ?_, .inr ⟨rfl, K2.out.2.2.1, K2.out.2.2.2⟩⟩, K5.out, K3.out.set 0 _, ?_⟩⟩)
          · exact K1.out.off ((Frm.refl (fun k => k = w.heap.size + 1) w3).setCell (p := ⟨w.heap.size + 1, 0, none⟩) (.inl rfl) _) (fun k hk => by rw [hk]; exact ⟨_, K3.out.ty, by decide⟩)
          · rw [K2.out.2.1]; exact H2.out
          · exact (H4.out.trans K4.out).setCell (p := ⟨w.heap.size + 1, 0, none⟩) (.inl U4.out) _
        case measure => simp [intOf]
      · have e1 : (r == -1) = false := by simpa using hr
        have HR := Lib.hid hr
        clear hr
        go_wp2_with fail
        go_roundw
        case rel => exact .inr (.inr ⟨rfl, Lib.hid ⟨r, nilS, { C with L := L' }, H1.out, rfl, ⟨r, H2.out, .inl ⟨HR.out, rfl, fun j hj => ⟨j, hj, rfl⟩⟩⟩, ⟨_, _, _, rfl⟩, H3.out, H4.out⟩⟩)
        case measure => simp [intOf]
    · obtain ⟨who, dn, C', h1, h2, h3, ⟨dA, dN, dC, rfl⟩, h4, h5⟩ := HP.out
      have c3 := h1.c3
      have c3f := h1.core.str.frozen 3
      have HN := Lib.hid (h1.next (by omega))
      have H1 := Lib.hid h1
      have H3 := Lib.hid h3
      have H4 := Lib.hid h4
      have H5 := Lib.hid h5
      have H2 := Lib.hid h2
      have V5 := Lib.hid (h4.other (a := ⟨c, 3, none⟩) (fun e => by
        have h6 := h1.core.str.ty
        have e' : w.heap.size + 1 = c := e
        rw [← e'] at h6
        exact absurd (h6.det h4.ty) (by decide)) (.int .u64 ((C'.now : Int) + 1)))
      rw [h2] at HN V5
      clear h1 h2 h3 h4 h5 HP
      go_wp2_with fail
      with_reducible refine (late_c HN.out V5.out U4.out).mono ?_
      rintro e w5 ⟨C2, ms, rfl, k1, k2, ⟨mA, mN, mC, rfl⟩, k3, k4⟩
      have K1 := Lib.hid k1
      have K2 := Lib.hid k2
      have K4 := Lib.hid k4
      have o0 := k3.cell (i := 0) rfl
      have o1 := k3.cell (i := 1) rfl
      have o2 : w5.cell? ⟨w.heap.size + 1, 2, none⟩ = some (.slice none 0 0) := k3.cell (i := 2) rfl
      have o3 := k3.cell (i := 3) rfl
      have K3 := Lib.hid k3
      have hfc : Frm T' w2 (wr.setCell ⟨c, 3, none⟩ (.int .u64 ((C.now : Int) + 1))) := H5.out.setCell (p := ⟨c, 3, none⟩) (.inl H1.out.core.tt) _
      have hva := U10.out.1.frm (hfc.trans k4) U10.out.2.1
      have a0 := hva.cell (i := 0) rfl
      have a1 := hva.cell (i := 1) rfl
      have a2 := hva.cell (i := 2) rfl
      have a3 := hva.cell (i := 3) rfl
      have af := hva.frozen
      have HVA := Lib.hid hva
      have HFC := Lib.hid hfc
      clear k1 k2 k3 k4 c3 c3f hva hfc
      go_wp2_with fail
      refine post_as fun w6 hw6 => ?_
      have hv6 := (((HVA.out.set 0 (.int .i64 who)).set 1 (.slice dA dN dC)).set 2 (.slice none 0 0)).set 3 (.slice mA mN mC)
      rw [← hw6] at hv6
      have b0 : w6.cell? ⟨w.heap.size, 0, none⟩ = some (.int .i64 who) := hv6.cell rfl
      have b1 : w6.cell? ⟨w.heap.size, 1, none⟩ = some (.slice dA dN dC) := hv6.cell rfl
      have b2 : w6.cell? ⟨w.heap.size, 2, none⟩ = some (.slice none 0 0) := hv6.cell rfl
      have b3 : w6.cell? ⟨w.heap.size, 3, none⟩ = some (.slice mA mN mC) := hv6.cell rfl
      refine bodyPost_ret (v := .tuple #[.agg #[.int .i64 who, .slice dA dN dC, .slice none 0 0, .slice mA mN mC], .int .i64 0]) (by simp [results, Try.results21, go_sem, b0, b1, b2, b3]) rfl ?_
      have hf6 : Frm (fun k => k = w.heap.size) w5 w6 := by
        rw [hw6]
        exact ((((Frm.refl (fun k => k = w.heap.size) w5).setCell (p := ⟨w.heap.size, 0, none⟩) (.inl rfl) _).setCell (p := ⟨w.heap.size, 1, none⟩) (.inl rfl) _).setCell (p := ⟨w.heap.size, 2, none⟩) (.inl rfl) _).setCell (p := ⟨w.heap.size, 3, none⟩) (.inl rfl) _
      have hfT : Frm T w w6 := (U11.out.of_none.trans ((HFC.out.trans K4.out).mono fun k _ hk => U10.out.2.2 k hk)).trans (hf6.mono fun k _ hk => hT.out k (by omega))
      obtain ⟨r, t1, t2⟩ := H3.out
      exact ⟨who, _, _, _, _, _, _, _, _, _, C2, rfl, (K1.out.off hf6 (fun k hk => by rw [hk]; exact ⟨_, HVA.out.ty, by decide⟩)).mono (fun k _ hk => U10.out.2.2 k hk), K2.out.1, ⟨r, by rw [K2.out.2.1]; exact t1, t2.imp (fun h => ⟨h.1, h.2.1, fun j hj => by
        obtain ⟨j1, e1, e2⟩ := h.2.2 j hj
        obtain ⟨j2, e3, e4⟩ := K2.out.2.2 j1 e1
        exact ⟨j2, e3, e4.trans e2⟩⟩) id⟩, hfT⟩
end
end Go.Proofs.Ytadngogbnjodhaa
