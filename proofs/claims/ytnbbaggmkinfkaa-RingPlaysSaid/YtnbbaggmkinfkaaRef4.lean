/- The reference's Take. -/
import Derived.Test.YtnbbaggmkinfkaaRef3
namespace Go.Proofs.Ytnbbaggmkinfkaa
open Go.RowKit
section
variable {w : World} {g base n t r : Nat} {v : Value} {L : List DM}
theorem RefIs.take (h : RefIs w g base n v L t r) (ht : t < L.length) : RefIs (w.setCell ⟨g, 2, none⟩ (.int .i64 ((t : Int) + 1))) g base n v L (t + 1) r := by
  obtain ⟨o1, o2, o3⟩ := h.ord
  refine ⟨h.hl, h.hn, by omega, ?_, ?_, h.hb.1, by have := h.hb.2; simpa [World.setCell] using this⟩
  · rw [blk_setCell (i := 2) h.hg]; simp
  · have hb := h.hb.1
    exact own_frm h.own ((Frm.refl (fun k => k = g) w).setCell (p := ⟨g, 2, none⟩) (.inl rfl) _) (by omega)
set_option maxRecDepth 100000 in
set_option maxHeartbeats 2000000 in
theorem rtake_some (h : RefIs w g base n v L t r) (d : DM) (hd : L[t]? = some d) :
    Calls Try.prog 19 #[.pointer (some ⟨g, 0, none⟩)] w fun e w' => e = .returned (.tuple #[.int .i64 t, .agg d.cells.toArray, .int .i64 0]) ∧ RefIs w' g base n v L (t + 1) r ∧ Frm (fun k => k = g) w w' := by
  have ht := (List.getElem?_eq_some_iff.1 hd).1
  have hl := h.hl
  have h1 := h.c1
  have h2 := h.c2
  have h2f := h.fg 2
  have hgl := h.lt
  have hbb := h.hb
  obtain ⟨k, cap, rfl, hk1, hk2, he⟩ := h.elem hd
  have HR := Lib.hid h
  have e1 : ((t : Int) == (L.length : Int)) = false := by simp; omega
  have x0 := (he 0 _ rfl).1
  have x1 := (he 1 _ rfl).1
  have x2 := (he 2 _ rfl).1
  have x3 := (he 3 _ rfl).1
  have x4 := (he 4 _ rfl).1
  have x5 := (he 5 _ rfl).1
  have x6 := (he 6 _ rfl).1
  have x7 := (he 7 _ rfl).1
  have x8 := (he 8 _ rfl).1
  simp only [Nat.add_zero] at x0
  have q1 : g ≠ k := by omega
  have q2 : g ≠ w.heap.size := by omega
  have q3 : k ≠ w.heap.size := by omega
  obtain ⟨op, req, slot, gen, frm, len, device, done, status⟩ := d
  simp only [DM.cells] at x0 x1 x2 x3 x4 x5 x6 x7 x8 ⊢
  clear he h hd
  go_enter Try.func19, Try.ntmps19
  go_wp2_with fail
  go_quiet (fail)
  go_wp2_with fail
  have m1 : (t : Int) < (L.length : Int) := by omega
  have m0 : (0 : Int) ≤ (t : Int) := by omega
  go_region
  all_goals
    go_wp2_with fail
    refine bodyPost_ret (v := .tuple #[.int .i64 t, .agg #[.int .i64 op, .int .i64 req, .int .i64 slot, .int .u64 gen, .int .i64 frm, .int .i64 len, .bool device, .bool done, .int .i64 status], .int .i64 0]) (by simp [results, Try.results19, go_sem]) rfl ⟨rfl, ?_, ?_⟩
    · refine RefIs.keep (RefIs.frm (RefIs.take (RefIs.keep HR.out (((Frm.refl (fun _ => False) w).alloc _).drewN _)) ht) (boxed_frm (Frm.refl (fun j => j = w.heap.size) _) (.inl rfl) _ _ _ _ _ _ _ _ _) q2 ?_) (Frm.refl _ _).drew
      intro j hj e
      simp [Value.ownBlock] at hj
      omega
    · exact (boxed_frm (((((Frm.refl (fun j => j = g) w).alloc _).drewN _).setCell (.inl rfl) _)) (.inr (Nat.le_refl _)) _ _ _ _ _ _ _ _ _).drew
end
end Go.Proofs.Ytnbbaggmkinfkaa
