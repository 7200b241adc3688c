/- The reference's Reap. -/
import Derived.Test.YtnbbaggmkinfkaaRef7
namespace Go.Proofs.Ytnbbaggmkinfkaa
open Go.RowKit
section
variable {w : World} {g base n t r : Nat} {v : Value} {L : List DM}
set_option maxRecDepth 100000 in
set_option maxHeartbeats 2000000 in
theorem rreap_busy (h : RefIs w g base n v L t r) (d : DM) (hd : L[r]? = some d) (hdone : d.done = false) :
    Calls Try.prog 21 #[.pointer (some ⟨g, 0, none⟩)] w fun e w' => e = .returned (.tuple #[.agg DM.zero.cells.toArray, .int .i64 10]) ∧ Frm (fun _ => False) w w' := by
  have ht := (List.getElem?_eq_some_iff.1 hd).1
  have hl := h.hl
  have h1 := h.c1
  have h2 := h.c3
  have hgl := h.lt
  have hbb := h.hb
  obtain ⟨k, cap, rfl, hk1, hk2, he⟩ := h.elem hd
  have e1 : ((r : Int) == (L.length : Int)) = false := by simp; omega
  have x7 := (he 7 _ rfl).1
  rw [hdone] at x7
  have m1 : (r : Int) < (L.length : Int) := by omega
  clear he h hd
  go_enter Try.func21, Try.ntmps21
  go_wp2_with fail
  go_quiet (fail)
  go_wp2_with fail
  go_quiet (fail)
  go_wp2_with fail
  refine bodyPost_ret (v := .tuple #[.agg DM.zero.cells.toArray, .int .i64 10]) (by simp [results, Try.results21, go_sem, DM.zero, DM.cells]) rfl ⟨rfl, ?_⟩
  exact boxed_frm (((Frm.refl _ _).alloc _).drewN _) (.inr (Nat.le_refl _)) _ _ _ _ _ _ _ _ _
set_option maxRecDepth 100000 in
set_option maxHeartbeats 2000000 in
theorem rreap_some (h : RefIs w g base n v L t r) (d : DM) (hd : L[r]? = some d) (hdone : d.done = true) (hrt : r < t) :
    Calls Try.prog 21 #[.pointer (some ⟨g, 0, none⟩)] w fun e w' => e = .returned (.tuple #[.agg d.cells.toArray, .int .i64 0]) ∧ RefIs w' g base n v L t (r + 1) ∧ Frm (fun k => k = g) w w' := by
  have ht := (List.getElem?_eq_some_iff.1 hd).1
  have hl := h.hl
  have h1 := h.c1
  have h2 := h.c3
  have h2f := h.fg 3
  have hgl := h.lt
  have hbb := h.hb
  obtain ⟨k, cap, rfl, hk1, hk2, he⟩ := h.elem hd
  have HR := Lib.hid h
  have e1 : ((r : Int) == (L.length : Int)) = false := by simp; omega
  have x0 := (he 0 _ rfl).1
  have x1 := (he 1 _ rfl).1
  have x2 := (he 2 _ rfl).1
  have x3 := (he 3 _ rfl).1
  have x4 := (he 4 _ rfl).1
  have x5 := (he 5 _ rfl).1
  have x6 := (he 6 _ rfl).1
  have x7 := (he 7 _ rfl).1
  have x8 := (he 8 _ rfl).1
  simp only [Nat.add_zero] at x0
  have q1 : g ≠ k := by omega
  have q2 : g ≠ w.heap.size := by omega
  have q3 : k ≠ w.heap.size := by omega
  obtain ⟨op, req, slot, gen, frm, len, device, done, status⟩ := d
  simp only at hdone
  subst hdone
  simp only [DM.cells] at x0 x1 x2 x3 x4 x5 x6 x7 x8 ⊢
  have m1 : (r : Int) < (L.length : Int) := by omega
  clear he h hd
  go_enter Try.func21, Try.ntmps21
  go_wp2_with fail
  go_quiet (fail)
  go_wp2_with fail
  go_quiet (fail)
  go_wp2_with fail
  go_region
  all_goals
    go_wp2_with fail
    refine bodyPost_ret (v := .tuple #[.agg #[.int .i64 op, .int .i64 req, .int .i64 slot, .int .u64 gen, .int .i64 frm, .int .i64 len, .bool device, .bool true, .int .i64 status], .int .i64 0]) (by simp [results, Try.results21, go_sem]) rfl ⟨rfl, ?_, ?_⟩
    · refine RefIs.keep (RefIs.frm (RefIs.reap (RefIs.keep HR.out (((Frm.refl (fun _ => False) w).alloc _).drewN _)) hrt) (boxed_frm (Frm.refl (fun j => j = w.heap.size) _) (.inl rfl) _ _ _ _ _ _ _ _ _) q2 ?_) (Frm.refl _ _).drew
      intro j hj e
      simp [Value.ownBlock] at hj
      omega
    · exact (boxed_frm (((((Frm.refl (fun j => j = g) w).alloc _).drewN _).setCell (.inl rfl) _)) (.inr (Nat.le_refl _)) _ _ _ _ _ _ _ _ _).drew
end
end Go.Proofs.Ytnbbaggmkinfkaa
