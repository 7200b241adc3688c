/- Tick. -/
import Derived.Test.YtadngogbnjodhaaB3
namespace Go.Proofs.Ytadngogbnjodhaa
open Go.RowKit
section
variable {w : World} {T : Nat → Prop} {c : Nat} {K : TK} {C : CS}
theorem calls_as {P : Program} {f : FuncId} {args : Array Value} {w : World} {p : Ending → World → Prop} (h : ∀ w2, w2 = w → Calls P f args w2 p) : Calls P f args w p := h w rfl
theorem tick_world {w2 : World} (h : CpuAt w T c K C) (hT : ∀ k, w.heap.size ≤ k → T k)
    (hw2 : w2 = ((w.alloc (.cells #[.int .i64 0, .slice none 0 0, .slice none 0 0, .slice none 0 0] 41)).alloc (.cells #[fval 22 c, fval 23 c] 73))) :
    ∃ T' : Nat → Prop, CpuAt w2 T' c K C ∧ VecAt w2 (w.heap.size + 1) 73 [fval 22 c, fval 23 c] ∧ (∀ k, w2.heap.size ≤ k → T' k) ∧ ¬ T' (w.heap.size + 1) ∧ (VecAt w2 w.heap.size 41 [.int .i64 0, nilS, nilS, nilS] ∧ ¬ T' w.heap.size ∧ (∀ k, T' k → T k)) ∧ Frm (fun _ => False) w w2 := by
  have hf : Frm (fun _ => False) w w2 := by rw [hw2]; exact ((Frm.refl _ w).alloc _).alloc _
  have h1 : VecAt w2 w.heap.size 41 [.int .i64 0, nilS, nilS, nilS] := by rw [hw2]; exact (VecAt.new w 41 [.int .i64 0, nilS, nilS, nilS]).alloc _
  have h2 : VecAt w2 (w.heap.size + 1) 73 [fval 22 c, fval 23 c] := by
    have := VecAt.new (w.alloc (.cells #[.int .i64 0, .slice none 0 0, .slice none 0 0, .slice none 0 0] 41)) 73 [fval 22 c, fval 23 c]
    rw [World.size_alloc] at this
    rw [hw2]; exact this
  have hs := h2.lt
  exact ⟨fun k => T k ∧ k ≠ w.heap.size ∧ k ≠ w.heap.size + 1, (h.mono fun k hk ht => ⟨ht, by omega, by omega⟩).keep hf, h2, fun k hk => ⟨hT k (by omega), by omega, by omega⟩, fun e => e.2.2 rfl, ⟨h1, fun e => e.2.1 rfl, fun k hk => hk.1⟩, hf⟩
set_option maxRecDepth 100000 in
set_option maxHeartbeats 2000000 in
theorem tick_c (h : CpuAt w T c K C) (hT : ∀ k, w.heap.size ≤ k → T k) (hn : C.now < 90000) : Calls Try.prog 11 #[.pointer (some ⟨c, 0, none⟩)] w fun e w' => StepPost T c K C w e w' := by
  have HH := Lib.hid h
  have HT := Lib.hid hT
  clear h hT
  go_enter Try.func11, Try.ntmps11
  go_wp2_with fail
  refine calls_as fun w2 hw2 => ?_
  obtain ⟨T', u1, u2, u3, u4, u5, u6⟩ := tick_world HH.out HT.out hw2
  have U5 := Lib.hid u5
  have U6 := Lib.hid u6
  have HS := Lib.hid (step_c u1 u3 hn u2 u4)
  clear hw2 u1 u2 u3 u4 u5 u6
  with_reducible refine HS.out.mono ?_
  rintro e w3 ⟨who, A1, A2, A3, n1, n2, n3, c1, c2, c3, C', rfl, k1, k2, k3, k4⟩
  have hva := U5.out.1.frm k4 U5.out.2.1
  have a0 := hva.cell (i := 0) rfl
  have a1 := hva.cell (i := 1) rfl
  have a2 := hva.cell (i := 2) rfl
  have a3 := hva.cell (i := 3) rfl
  have af := hva.frozen
  have HVA := Lib.hid hva
  have K1 := Lib.hid k1
  have K2 := Lib.hid k2
  have K3 := Lib.hid k3
  have K4 := Lib.hid k4
  clear k1 k2 k3 k4 hva HS
  go_wp2_with fail
  refine post_as fun w6 hw6 => ?_
  have hv6 := (((HVA.out.set 0 (.int .i64 who)).set 1 (.slice A1 n1 c1)).set 2 (.slice A2 n2 c2)).set 3 (.slice A3 n3 c3)
  rw [← hw6] at hv6
  have b0 : w6.cell? ⟨w.heap.size, 0, none⟩ = some (.int .i64 who) := hv6.cell rfl
  have b1 : w6.cell? ⟨w.heap.size, 1, none⟩ = some (.slice A1 n1 c1) := hv6.cell rfl
  have b2 : w6.cell? ⟨w.heap.size, 2, none⟩ = some (.slice A2 n2 c2) := hv6.cell rfl
  have b3 : w6.cell? ⟨w.heap.size, 3, none⟩ = some (.slice A3 n3 c3) := hv6.cell rfl
  refine bodyPost_ret (v := .tuple #[.agg #[.int .i64 who, .slice A1 n1 c1, .slice A2 n2 c2, .slice A3 n3 c3], .int .i64 0]) (by simp [results, Try.results11, go_sem, b0, b1, b2, b3]) rfl ?_
  have hf6 : Frm (fun k => k = w.heap.size) w3 w6 := by
    rw [hw6]
    exact ((((Frm.refl (fun k => k = w.heap.size) w3).setCell (p := ⟨w.heap.size, 0, none⟩) (.inl rfl) _).setCell (p := ⟨w.heap.size, 1, none⟩) (.inl rfl) _).setCell (p := ⟨w.heap.size, 2, none⟩) (.inl rfl) _).setCell (p := ⟨w.heap.size, 3, none⟩) (.inl rfl) _
  have hfT : Frm T w w6 := (U6.out.of_none.trans (K4.out.mono fun k _ hk => U5.out.2.2 k hk)).trans (hf6.mono fun k _ hk => HT.out k (by omega))
  exact ⟨who, _, _, _, _, _, _, _, _, _, C', rfl, (K1.out.off hf6 (fun k hk => by rw [hk]; exact ⟨_, HVA.out.ty, by decide⟩)).mono (fun k _ hk => U5.out.2.2 k hk), K2.out, K3.out, hfT⟩
end
end Go.Proofs.Ytadngogbnjodhaa
