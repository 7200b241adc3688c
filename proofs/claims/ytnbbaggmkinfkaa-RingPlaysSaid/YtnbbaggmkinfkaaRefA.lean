/- The reference's Reset. -/
import Derived.Test.YtnbbaggmkinfkaaRef9
namespace Go.Proofs.Ytnbbaggmkinfkaa
open Go.RowKit
section
variable {w : World} {g base n t r : Nat} {v : Value} {L : List DM}
def emptied (w : World) (g : Nat) : World := ((w.setCell ⟨g, 1, none⟩ (.slice none 0 0)).setCell ⟨g, 2, none⟩ (.int .i64 0)).setCell ⟨g, 3, none⟩ (.int .i64 0)
theorem emptied_frm (w : World) (g : Nat) : Frm (fun k => k = g) w (emptied w g) := by
  unfold emptied
  have h0 := (Frm.refl (fun k => k = g) w).setCell (p := ⟨g, 1, none⟩) (.inl rfl) (.slice none 0 0)
  have h1 := h0.setCell (p := ⟨g, 2, none⟩) (.inl rfl) (.int .i64 0)
  exact h1.setCell (p := ⟨g, 3, none⟩) (.inl rfl) (.int .i64 0)
theorem RefIs.emptied (h : RefIs w g base n v L t r) : RefIs (emptied w g) g base n (.slice none 0 0) [] 0 0 := by
  refine ⟨by simp, h.hn, by simp, ?_, by simpa [lcells] using World.ownsRow_nil _ _ _ _, h.hb.1, Nat.le_trans h.hb.2 (emptied_frm w g).size⟩
  have h2 := blk_setCell (i := 3) (blk_setCell (i := 2) (blk_setCell (i := 1) h.hg (.slice none 0 0)) (.int .i64 0)) (.int .i64 0)
  unfold Ytnbbaggmkinfkaa.emptied
  rw [h2]; simp
/-- What is left, as rows. -/
theorem RefIs.rows {k cap o : Nat} (h : RefIs w g base n (.slice (some ⟨k, 0, none⟩) L.length cap) L t r) (ho : r < L.length → o = r * 9) : RowsAt w (some ⟨k, o, none⟩) 9 DM.cells (L.drop r) := by
  refine ⟨by have := h.hl; simp; omega, fun hp => ?_⟩
  simp only [List.length_drop] at hp
  have hk := (own_base h.own k rfl)
  have hlt := (h.own.lt k rfl).2
  refine ⟨k, o, rfl, hlt, fun i d hi j u hj => ?_⟩
  rw [List.getElem?_drop] at hi
  obtain ⟨k', cap', e, _, _, he⟩ := h.elem hi
  simp only [Value.slice.injEq, Option.some.injEq, Addr.mk.injEq] at e
  obtain ⟨⟨rfl, _⟩, _⟩ := e
  have := (he j u hj).1
  rw [ho (by omega), show r * 9 + i * 9 + j = (r + i) * 9 + j by omega]
  exact this
set_option maxRecDepth 100000 in
set_option maxHeartbeats 1000000 in
theorem rreset_c (h : RefIs w g base n v L t r) :
    Calls Try.prog 22 #[.pointer (some ⟨g, 0, none⟩)] w fun e w' => ∃ A c, e = .returned (.slice A (L.length - r) c) ∧ RowsAt w' A 9 DM.cells (L.drop r) ∧ RefIs w' g base n (.slice none 0 0) [] 0 0 ∧ Frm (fun k => k = g) w w' := by
  have h1 := h.c1
  have h2 := h.c2
  have h3 := h.c3
  have f1 := h.fg 1
  have f2 := h.fg 2
  have f3 := h.fg 3
  have ho := h.ord
  have hl := h.hl
  have HR := Lib.hid h
  rcases h.own.2 with ⟨hv, h0⟩ | ⟨k, cap, cur, hv, hg, hh, hcap, hm, hsz, htake⟩
  · subst hv
    clear h
    have hr0 : r = 0 := by omega
    subst hr0
    go_enter Try.func22, Try.ntmps22
    go_wp2_with fail
    go_quiet (fail)
    go_wp2_with fail
    obtain rfl : L = [] := List.eq_nil_of_length_eq_zero h0
    go_ret
    exact ⟨none, 0, rfl, ⟨by simp, fun hp => by simp at hp⟩, (HR.out.keep ((Frm.refl _ _).drewN _)).emptied, ((Frm.refl (fun k => k = g) w).drewN _).trans (emptied_frm _ g)⟩
  · subst hv
    clear h
    have m1 : (r : Int) ≤ (cap : Int) := by omega
    have m2 : (r : Int) ≤ (L.length : Int) := by omega
    go_enter Try.func22, Try.ntmps22
    go_wp2_with fail
    go_quiet (fail)
    go_wp2_with fail
    all_goals
      go_ret
      refine ⟨_, ⟨_, rfl⟩, ?_, (HR.out.keep ((Frm.refl _ _).drewN _)).emptied, ((Frm.refl (fun k => k = g) w).drewN _).trans (emptied_frm _ g)⟩
      refine (HR.out.rows (by omega)).via (((Frm.refl (fun k => k = g) w).drewN _).trans (emptied_frm _ g)) ?_
      intro x off e
      simp only [Option.some.injEq, Addr.mk.injEq] at e
      have := HR.out.hb.1
      omega
end
end Go.Proofs.Ytnbbaggmkinfkaa
