/- The reference's Finish joined, Reap. -/
import Derived.Test.YtnbbaggmkinfkaaRef6
namespace Go.Proofs.Ytnbbaggmkinfkaa
open Go.RowKit
section
variable {w : World} {g base n t r : Nat} {v : Value} {L : List DM}
theorem rfin_c (h : RefIs w g base n v L t r) (no st : Int) :
    Calls Try.prog 20 #[.pointer (some ⟨g, 0, none⟩), .int .i64 no, .int .i64 st] w fun e w' => e = .returned (.int .i64 (finF L t r no st).c) ∧ RefIs w' g base n v (finF L t r no st).L t r ∧ Frm (fun j => v.ownBlock = some j) w w' := by
  unfold finF
  by_cases hs : st < 0 ∨ 255 < st
  · refine (rfin_arg w g no st hs).mono ?_
    rintro e w' ⟨rfl, rfl⟩
    rw [if_pos hs]
    exact ⟨rfl, h, Frm.refl _ _⟩
  · rw [if_neg hs]
    by_cases hn : no < r ∨ (t : Int) ≤ no
    · refine (rfin_state h no st (by omega) hn).mono ?_
      rintro e w' ⟨rfl, rfl⟩
      rw [if_pos hn]
      exact ⟨rfl, h, Frm.refl _ _⟩
    · rw [if_neg hn]
      obtain ⟨k, rfl⟩ := Int.eq_ofNat_of_zero_le (show 0 ≤ no by omega)
      have h1 := h.ord
      obtain ⟨d, hd⟩ : ∃ d, L[k]? = some d := ⟨_, List.getElem?_eq_getElem (by omega)⟩
      refine (rfin_in h k st (by omega) (by omega) (by omega) d hd).mono ?_
      rintro e w' ⟨rfl, hr, hf⟩
      simp only [Int.toNat_natCast, hd]
      cases hdd : d.done with
      | true => rw [hdd] at hr; exact ⟨rfl, hr, hf⟩
      | false => rw [hdd] at hr; exact ⟨rfl, hr, hf⟩
theorem RefIs.reap (h : RefIs w g base n v L t r) (hr : r < t) : RefIs (w.setCell ⟨g, 3, none⟩ (.int .i64 ((r : Int) + 1))) g base n v L t (r + 1) := by
  obtain ⟨o1, o2, o3⟩ := h.ord
  refine ⟨h.hl, h.hn, by omega, ?_, ?_, h.hb.1, by have := h.hb.2; simpa [World.setCell] using this⟩
  · rw [blk_setCell (i := 3) h.hg]; simp
  · have hb := h.hb.1
    exact own_frm h.own ((Frm.refl (fun k => k = g) w).setCell (p := ⟨g, 3, none⟩) (.inl rfl) _) (by omega)
set_option maxRecDepth 100000 in
set_option maxHeartbeats 2000000 in
theorem rreap_none (h : RefIs w g base n v L t r) (ht : r = L.length) :
    Calls Try.prog 21 #[.pointer (some ⟨g, 0, none⟩)] w fun e w' => e = .returned (.tuple #[.agg DM.zero.cells.toArray, .int .i64 5]) ∧ Frm (fun _ => False) w w' := by
  obtain ⟨A, c, rfl⟩ := own_slice h.own
  have h1 := h.c1
  have h2 := h.c3
  have hgl := h.lt
  have e1 : ((r : Int) == (L.length : Int)) = true := by simp [ht]
  clear ht h
  go_enter Try.func21, Try.ntmps21
  go_wp2_with fail
  go_quiet (fail)
  go_wp2_with fail
  refine bodyPost_ret (v := .tuple #[.agg DM.zero.cells.toArray, .int .i64 5]) (by simp [results, Try.results21, go_sem, DM.zero, DM.cells]) rfl ⟨rfl, ?_⟩
  exact boxed_frm (((Frm.refl _ _).alloc _).drewN _) (.inr (Nat.le_refl _)) _ _ _ _ _ _ _ _ _
end
end Go.Proofs.Ytnbbaggmkinfkaa
