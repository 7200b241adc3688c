/- Finish, Reap, At, New. -/
import Derived.Test.YtnbbaggmkinfkaaF1
import Derived.Deep.RegionHeld3
namespace Go.Proofs.Ytnbbaggmkinfkaa
open Go.RowKit
section
variable {w : World} {p b n t r : Nat} {L : List DM} {P : List (Option DM)}
theorem finish_arg (w : World) (p : Nat) (no st : Int) (hs : st < 0 ∨ 255 < st) :
    Calls Try.prog 12 #[.pointer (some ⟨p, 0, none⟩), .int .i64 no, .int .i64 st] w fun e w' => e = .returned (.int .i64 1) ∧ w = w' := by
  rcases hs with hs | hs
  · have e1 : decide (st < 0) = true := by simpa using hs
    go_enter Try.func12, Try.ntmps12
    go_wp2_with fail
    go_ret
    exact ⟨rfl, rfl⟩
  · have e1 : decide (st < 0) = false := by simp; omega
    have e2 : decide (255 < st) = true := by simpa using hs
    go_enter Try.func12, Try.ntmps12
    go_wp2_with fail
    go_ret
    exact ⟨rfl, rfl⟩
theorem finish_state (h : RingIs w p b n L t r P) (no st : Int) (hs : 0 ≤ st ∧ st ≤ 255) (hno : no < r ∨ (t : Int) ≤ no) :
    Calls Try.prog 12 #[.pointer (some ⟨p, 0, none⟩), .int .i64 no, .int .i64 st] w fun e w' => e = .returned (.int .i64 12) ∧ w = w' := by
  have h2 := h.c2
  have h3 := h.c3
  have e1 : decide (st < 0) = false := by simp; omega
  have e2 : decide (255 < st) = false := by simp; omega
  clear h
  by_cases hr : no < r
  · have e3 : decide (no < (r : Int)) = true := by simpa using hr
    go_enter Try.func12, Try.ntmps12
    go_wp2_with fail
    go_ret
    exact ⟨rfl, rfl⟩
  · have e3 : decide (no < (r : Int)) = false := by simpa using hr
    have e4 : decide ((t : Int) ≤ no) = true := by simp; omega
    go_enter Try.func12, Try.ntmps12
    go_wp2_with fail
    go_ret
    exact ⟨rfl, rfl⟩
def DM.finished (d : DM) (st : Int) : DM := { d with device := false, done := true, status := st }
set_option maxHeartbeats 2000000 in
theorem finish_in (h : RingIs w p b n L t r P) (no : Nat) (st : Int) (hs : 0 ≤ st ∧ st ≤ 255) (h1 : r ≤ no) (h2 : no < t) (d : DM) (hd : L[no]? = some d) :
    Calls Try.prog 12 #[.pointer (some ⟨p, 0, none⟩), .int .i64 no, .int .i64 st] w fun e w' => e = .returned (.int .i64 (if d.done then 12 else 0)) ∧
      RingIs w' p b n (if d.done then L else L.set no (d.finished st)) t r (if d.done then P else P.set (no % n) (some (d.finished st))) ∧ Frm (fun k => k = p ∨ k = b) w w' := by
  obtain ⟨o1, o2, o3⟩ := h.ord
  obtain ⟨n1, n2⟩ := h.hn
  have hl := h.hl
  have hmod : no % n < n := Nat.mod_lt _ (by omega)
  have c0 := h.c0
  have c2 := h.c2
  have c3 := h.c3
  have hb := h.cb (h.here no d h1 hd)
  have hbf := h.fb (no % n)
  have hne := h.ne
  obtain ⟨l1, l2⟩ := h.lt
  have e1 : decide (st < 0) = false := by simp; omega
  have e2 : decide (255 < st) = false := by simp; omega
  have e3 : decide (no < r) = false := by simp; omega
  have e4 : decide (t ≤ no) = false := by simp; omega
  have HR := Lib.hid h
  have HS := Lib.hid hs
  have HP1 := Lib.hid (place_c (h.keep (Frm.refl _ _).drew) no)
  have HP2 := Lib.hid (place_c ((h.keep (((Frm.refl (fun _ => False) _).alloc (.cells DM.zero.cells.toArray 33)).drew))) no)
  have HP3 := Lib.hid (place_c ((h.keep (((Frm.refl (fun _ => False) _).alloc (.cells (d.finished st).cells.toArray 33)).drew.drew))) no)
  have HFI : Hid (∀ d', RingIs ((w.setCell ⟨b, no % n, none⟩ (encP (some d')))) p b n (L.set no d') t r (P.set (no % n) (some d'))) := fun d' => h.finish h1 h2 d'
  have HFR : Hid (∀ v, Frm (fun k => k = p ∨ k = b) w (w.setCell ⟨b, no % n, none⟩ v)) := fun v => (Frm.refl (fun k => k = p ∨ k = b) w).setCell (.inl (.inr rfl)) v
  generalize no % n = m at *
  have m0 : (0 : Int) ≤ (m : Int) := by omega
  have m1 : (m : Int) < (n : Int) := by omega
  obtain ⟨op, req, slot, gen, frm, len, device, done, status⟩ := d
  cases done with
  | true =>
    simp only [encP, DM.cells, DM.zero, DM.finished] at hb HP1 HP2 HP3 ⊢
    clear h hd hs HP3
    go_enter Try.func12, Try.ntmps12
    go_wp2_with fail
    go_region_held3 (fun w' => w'.cell? ⟨p, 0, none⟩ = some (.slice (some ⟨b, 0, none⟩) n n) ∧ w'.cell? ⟨b, m, none⟩ = some (.iface 33 (.agg #[.int .i64 op, .int .i64 req, .int .i64 slot, .int .u64 gen, .int .i64 frm, .int .i64 len, .bool device, .bool true, .int .i64 status])))
      (first | exact ⟨c0, hb⟩ | go_keep)
      (first | (go_at_call 26; with_reducible refine HP1.out.mono ?_; rintro e w' ⟨rfl, rfl⟩) | (go_at_call 26; with_reducible refine HP2.out.mono ?_; rintro e w' ⟨rfl, rfl⟩))
    all_goals
      go_wp2_with fail
      go_ret
      exact ⟨rfl, HR.out.keep (((Frm.refl _ _).alloc _).drew), ((Frm.refl _ _).alloc _).drew⟩
  | false =>
    simp only [encP, DM.cells, DM.zero, DM.finished] at hb HP1 HP2 HP3 ⊢
    clear h hd hs
    go_enter Try.func12, Try.ntmps12
    go_wp2_with fail
    go_region_held3 (fun w' => w'.cell? ⟨p, 0, none⟩ = some (.slice (some ⟨b, 0, none⟩) n n) ∧ w'.cell? ⟨b, m, none⟩ = some (.iface 33 (.agg #[.int .i64 op, .int .i64 req, .int .i64 slot, .int .u64 gen, .int .i64 frm, .int .i64 len, .bool device, .bool false, .int .i64 status])))
      (first | exact ⟨c0, hb⟩ | go_keep)
      (first | (go_at_call 26; with_reducible refine HP1.out.mono ?_; rintro e w' ⟨rfl, rfl⟩) | (go_at_call 26; with_reducible refine HP2.out.mono ?_; rintro e w' ⟨rfl, rfl⟩))
    go_wp2_with fail
    all_goals
      have q1 : p ≠ w.heap.size := by omega
      have q2 : b ≠ w.heap.size := by omega
      go_region_held3 (fun w' => w'.cell? ⟨p, 0, none⟩ = some (.slice (some ⟨b, 0, none⟩) n n) ∧ (w'.cell? ⟨w.heap.size, 0, none⟩ = some (.int .i64 op) ∧ w'.cell? ⟨w.heap.size, 1, none⟩ = some (.int .i64 req) ∧ w'.cell? ⟨w.heap.size, 2, none⟩ = some (.int .i64 slot) ∧
          w'.cell? ⟨w.heap.size, 3, none⟩ = some (.int .u64 gen) ∧ w'.cell? ⟨w.heap.size, 4, none⟩ = some (.int .i64 frm) ∧ w'.cell? ⟨w.heap.size, 5, none⟩ = some (.int .i64 len) ∧ w'.cell? ⟨w.heap.size, 6, none⟩ = some (.bool false) ∧ w'.cell? ⟨w.heap.size, 7, none⟩ = some (.bool true) ∧ w'.cell? ⟨w.heap.size, 8, none⟩ = some (.int .i64 st)))
        (first | (refine ⟨?_, ?_, ?_, ?_, ?_, ?_, ?_, ?_, ?_, ?_⟩ <;> simp [World.cell?_alloc_past, World.cell?_alloc_at, World.cell?_setCell_other, l1, c0]) | go_keep)
        (first | (go_at_call 26; with_reducible refine HP3.out.mono ?_; rintro e w' ⟨rfl, rfl⟩))
      all_goals
        go_wp2_with fail
        go_ret
        refine ⟨rfl, ?_, ?_⟩
        · exact (HFI.out _).keep (((Frm.refl _ _).alloc _).drew.drew)
        · exact (((HFR.out _).alloc _).drew).drew
end
end Go.Proofs.Ytnbbaggmkinfkaa
