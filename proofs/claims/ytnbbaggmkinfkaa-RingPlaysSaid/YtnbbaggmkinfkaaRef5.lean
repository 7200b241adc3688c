/- The reference's Take joined, Finish. -/
import Derived.Test.YtnbbaggmkinfkaaRef4
namespace Go.Proofs.Ytnbbaggmkinfkaa
open Go.RowKit
section
variable {w : World} {g base n t r : Nat} {v : Value} {L : List DM}
theorem rtake_c (h : RefIs w g base n v L t r) :
    Calls Try.prog 19 #[.pointer (some ⟨g, 0, none⟩)] w fun e w' => e = .returned (.tuple #[.int .i64 (takeF L t).no, .agg (takeF L t).d.cells.toArray, .int .i64 (takeF L t).c]) ∧ RefIs w' g base n v L (takeF L t).t r ∧ Frm (fun k => k = g) w w' := by
  unfold takeF
  cases hd : L[t]? with
  | none =>
    have h1 := h.ord
    refine (rtake_none h (by rw [List.getElem?_eq_none_iff] at hd; omega)).mono ?_
    rintro e w' ⟨rfl, hf⟩
    exact ⟨rfl, h.keep hf, hf.of_none⟩
  | some d =>
    refine (rtake_some h d hd).mono ?_
    rintro e w' ⟨rfl, hr, hf⟩
    exact ⟨rfl, hr, hf⟩
set_option maxRecDepth 100000 in
set_option maxHeartbeats 2000000 in
theorem rfin_arg (w : World) (g : Nat) (no st : Int) (hs : st < 0 ∨ 255 < st) :
    Calls Try.prog 20 #[.pointer (some ⟨g, 0, none⟩), .int .i64 no, .int .i64 st] w fun e w' => e = .returned (.int .i64 1) ∧ w = w' := by
  rcases hs with hs | hs
  · have e1 : decide (st < 0) = true := by simpa using hs
    go_enter Try.func20, Try.ntmps20
    go_wp2_with fail
    go_ret
    exact ⟨rfl, rfl⟩
  · have e1 : decide (st < 0) = false := by simp; omega
    have e2 : decide (255 < st) = true := by simpa using hs
    go_enter Try.func20, Try.ntmps20
    go_wp2_with fail
    go_ret
    exact ⟨rfl, rfl⟩
set_option maxRecDepth 100000 in
set_option maxHeartbeats 2000000 in
theorem rfin_state (h : RefIs w g base n v L t r) (no st : Int) (hs : 0 ≤ st ∧ st ≤ 255) (hno : no < r ∨ (t : Int) ≤ no) :
    Calls Try.prog 20 #[.pointer (some ⟨g, 0, none⟩), .int .i64 no, .int .i64 st] w fun e w' => e = .returned (.int .i64 12) ∧ w = w' := by
  have h2 := h.c2
  have h3 := h.c3
  have e1 : decide (st < 0) = false := by simp; omega
  have e2 : decide (255 < st) = false := by simp; omega
  clear h
  by_cases hn : no < 0
  · have e3 : decide (no < 0) = true := by simpa using hn
    go_enter Try.func20, Try.ntmps20
    go_wp2_with fail
    go_ret
    exact ⟨rfl, rfl⟩
  · have e3 : decide (no < 0) = false := by simpa using hn
    by_cases ht : (t : Int) ≤ no
    · have e4 : decide ((t : Int) ≤ no) = true := by simpa using ht
      go_enter Try.func20, Try.ntmps20
      go_wp2_with fail
      go_ret
      exact ⟨rfl, rfl⟩
    · have e4 : decide ((t : Int) ≤ no) = false := by simpa using ht
      have e5 : decide (no < (r : Int)) = true := by simp; omega
      go_enter Try.func20, Try.ntmps20
      go_wp2_with fail
      go_ret
      exact ⟨rfl, rfl⟩
end
end Go.Proofs.Ytnbbaggmkinfkaa
