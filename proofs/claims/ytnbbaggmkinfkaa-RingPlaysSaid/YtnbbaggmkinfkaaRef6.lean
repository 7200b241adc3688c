/- The reference's Finish. -/
import Derived.Test.YtnbbaggmkinfkaaRef5
namespace Go.Proofs.Ytnbbaggmkinfkaa
open Go.RowKit
theorem lcells_set : ∀ (L : List DM) (k j : Nat) (d d' : DM) (u : Value), L[k]? = some d → j < 9 → d'.cells = d.cells.set j u → (lcells L).set (k * 9 + j) u = lcells (L.set k d')
  | [], k, j, d, d', u, h, _, _ => by simp at h
  | a :: L, 0, j, d, d', u, h, hj, hc => by
    simp at h; subst h
    simp only [lcells, List.flatMap_cons, Nat.zero_mul, Nat.zero_add, List.set_cons_zero]
    rw [List.set_append_left _ _ (by rw [cells_len]; exact hj), hc]
  | a :: L, k + 1, j, d, d', u, h, hj, hc => by
    have ih := lcells_set L k j d d' u (by simpa using h) hj hc
    simp only [lcells, List.flatMap_cons, List.set_cons_succ] at ih ⊢
    rw [List.set_append_right _ _ (by rw [cells_len]; omega), cells_len, show (k + 1) * 9 + j - 9 = k * 9 + j by omega, ih]
section
variable {w : World} {g base n t r : Nat} {v : Value} {L : List DM}
theorem RefIs.set1 {x cap k j m : Nat} {d d' : DM} {u : Value} (h : RefIs w g base n (.slice (some ⟨x, 0, none⟩) m cap) L t r) (hm : L.length = m) (hd : L[k]? = some d) (hj : j < 9) (hc : d'.cells = d.cells.set j u) :
    RefIs (w.setCell ⟨x, k * 9 + j, none⟩ u) g base n (.slice (some ⟨x, 0, none⟩) m cap) (L.set k d') t r := by
  subst hm
  have hx := own_base h.own x rfl
  have hb := h.hb
  refine ⟨by simpa using h.hl, h.hn, by simpa using h.ord, ?_, ?_, hb.1, by simpa [World.setCell] using hb.2⟩
  · exact blk_other h.hg (a := ⟨x, k * 9 + j, none⟩) (by simp; omega) u
  · have := (h.own.stored (k * 9 + j) u).1
    rw [lcells_set L k j d d' u hd hj hc] at this
    simpa using this
theorem RefIs.finish {x cap k : Nat} {d : DM} (h : RefIs w g base n (.slice (some ⟨x, 0, none⟩) L.length cap) L t r) (hd : L[k]? = some d) (st : Int) :
    RefIs (((w.setCell ⟨x, k * 9 + 6, none⟩ (.bool false)).setCell ⟨x, k * 9 + 7, none⟩ (.bool true)).setCell ⟨x, k * 9 + 8, none⟩ (.int .i64 st)) g base n (.slice (some ⟨x, 0, none⟩) L.length cap) (L.set k (d.finished st)) t r := by
  have hk := (List.getElem?_eq_some_iff.1 hd).1
  have h1 := h.set1 (d' := { d with device := false }) (u := .bool false) (j := 6) rfl hd (by omega) rfl
  have h2 := h1.set1 (d := { d with device := false }) (d' := { d with device := false, done := true }) (u := .bool true) (j := 7) (k := k) (by simp) (by simp [hk]) (by omega) rfl
  have h3 := h2.set1 (d := { d with device := false, done := true }) (d' := d.finished st) (u := .int .i64 st) (j := 8) (k := k) (by simp) (by simp [hk]) (by omega) rfl
  simpa using h3
set_option maxRecDepth 100000 in
set_option maxHeartbeats 2000000 in
theorem rfin_in (h : RefIs w g base n v L t r) (k : Nat) (st : Int) (hs : 0 ≤ st ∧ st ≤ 255) (h1 : r ≤ k) (h2 : k < t) (d : DM) (hd : L[k]? = some d) :
    Calls Try.prog 20 #[.pointer (some ⟨g, 0, none⟩), .int .i64 k, .int .i64 st] w fun e w' => e = .returned (.int .i64 (if d.done then 12 else 0)) ∧
      RefIs w' g base n v (if d.done then L else L.set k (d.finished st)) t r ∧ Frm (fun j => v.ownBlock = some j) w w' := by
  obtain ⟨x, cap, rfl, hk1, hk2, he⟩ := h.elem hd
  have c1 := h.c1
  have c2 := h.c2
  have c3 := h.c3
  have ho := h.ord
  have hl := h.hl
  have e1 : decide (st < 0) = false := by simp; omega
  have e2 : decide (255 < st) = false := by simp; omega
  have e3 : decide ((k : Int) < 0) = false := by simp
  have e4 : decide (t ≤ k) = false := by simp; omega
  have e5 : decide (k < r) = false := by simp; omega
  have x6 := he 6 _ rfl
  have x7 := he 7 _ rfl
  have x8 := he 8 _ rfl
  obtain ⟨x6, y6⟩ := x6
  obtain ⟨x7, y7⟩ := x7
  obtain ⟨x8, y8⟩ := x8
  have hb := h.hb
  have q1 : g ≠ x := by omega
  have HR := Lib.hid h
  have HF := Lib.hid (h.finish hd st)
  have HFR := Lib.hid ((((Frm.refl (fun j => Value.ownBlock (.slice (some ⟨x, 0, none⟩) L.length cap) = some j) w).setCell (p := ⟨x, k * 9 + 6, none⟩) (.inl rfl) (.bool false)).setCell (p := ⟨x, k * 9 + 7, none⟩) (.inl rfl) (.bool true)).setCell (p := ⟨x, k * 9 + 8, none⟩) (.inl rfl) (.int .i64 st))
  have m1 : (k : Int) < (L.length : Int) := by omega
  clear he h hd
  cases hdn : d.done with
  | true =>
    rw [hdn] at x7
    go_enter Try.func20, Try.ntmps20
    go_wp2_with fail
    go_ret
    exact ⟨rfl, HR.out, Frm.refl _ _⟩
  | false =>
    rw [hdn] at x7
    go_enter Try.func20, Try.ntmps20
    go_wp2_with fail
    go_ret
    exact ⟨rfl, HF.out, HFR.out⟩
end
end Go.Proofs.Ytnbbaggmkinfkaa
