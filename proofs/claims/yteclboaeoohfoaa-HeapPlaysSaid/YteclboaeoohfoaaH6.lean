/- Key, First. -/
import Derived.Test.YteclboaeoohfoaaH5
namespace Go.Proofs.Yteclboaeoohfoaa
open Go.RowKit
section
variable {w : World} {p n : Nat} {v vp : Value} {M : List Mb} {pl : Nat → Int}
set_option maxRecDepth 100000 in
set_option maxHeartbeats 1000000 in
theorem key_some (h : HpIs w p n v vp M pl) {i : Nat} {m : Mb} (hm : M[i]? = some m) :
    Calls Try.prog 19 #[.pointer (some ⟨p, 0, none⟩), .int .i64 m.id] w fun e w' => e = .returned (.tuple #[.int .u64 m.key, .int .i64 0]) ∧ Frm (fun _ => False) w w' := by
  have hl := h.len
  have hn := h.hn
  obtain ⟨g, c, rfl, hg, hc, hgp, hgq⟩ := h.elem hm
  obtain ⟨q, c', rfl, hq, hc', hpl, hqf, hqp⟩ := h.place
  have h0 := h.c0
  have h1 := h.c1
  obtain ⟨a0, a1, -⟩ := h.ecell hm
  obtain ⟨b0, b1⟩ := h.pos _ _ hm
  have hil := (List.getElem?_eq_some_iff.1 hm).1
  have p1 := hpl _ b0
  rw [b1] at p1
  have i1 : (i : Int) < (M.length : Int) := by omega
  have i2 : (m.id : Int) < (n : Int) := by omega
  have e1 : ((i : Int) == -1) = false := by simp
  have hi := is_c h m.id
  rw [show isB n m.id = true by simp [isB]; omega] at hi
  have HI := Lib.hid hi
  obtain ⟨mi, mk⟩ := m
  simp only at a0 a1 p1 i2
  clear h hm b1 hpl hqf hi
  go_enter Try.func19, Try.ntmps19
  go_wp2_with fail
  with_reducible refine HI.out.mono ?_
  rintro e w3 ⟨rfl, rfl⟩
  go_wp2_with fail
  go_quiet (fail)
  go_wp2_with fail
  go_ret2
  exact ⟨rfl, (Frm.refl _ _).drewN _⟩
set_option maxRecDepth 100000 in
set_option maxHeartbeats 1000000 in
theorem key_none (h : HpIs w p n v vp M pl) (id : Int) (hno : ∀ (m : Mb), m ∈ M → (m.id : Int) ≠ id) :
    Calls Try.prog 19 #[.pointer (some ⟨p, 0, none⟩), .int .i64 id] w fun e w' => e = .returned (.tuple #[.int .u64 0, .int .i64 6]) ∧ Frm (fun _ => False) w w' := by
  obtain ⟨q, c', rfl, hq, hc', hpl, hqf, hqp⟩ := h.place
  have h1 := h.c1
  have hi := is_c h id
  by_cases hb : 0 ≤ id ∧ id < n
  · obtain ⟨j, rfl⟩ : ∃ j : Nat, id = j := ⟨id.toNat, by omega⟩
    have hj : j < n := by omega
    have p1 := hpl j hj
    rw [h.out j hj (fun m hm e => hno m hm (by omega))] at p1
    rw [show isB n j = true by simp [isB]; omega] at hi
    have HI := Lib.hid hi
    have i2 : (j : Int) < (n : Int) := by omega
    clear h hpl hqf hi hno hb
    go_enter Try.func19, Try.ntmps19
    go_wp2_with fail
    with_reducible refine HI.out.mono ?_
    rintro e w3 ⟨rfl, rfl⟩
    go_wp2_with fail
    go_ret2
    exact ⟨rfl, Frm.refl _ _⟩
  · rw [show isB n id = false by simp [isB]; omega] at hi
    have HI := Lib.hid hi
    clear h hpl hqf hi hno hb
    go_enter Try.func19, Try.ntmps19
    go_wp2_with fail
    with_reducible refine HI.out.mono ?_
    rintro e w3 ⟨rfl, rfl⟩
    go_wp2_with fail
    go_ret2
    exact ⟨rfl, Frm.refl _ _⟩
set_option maxRecDepth 100000 in
set_option maxHeartbeats 1000000 in
theorem first_some (h : HpIs w p n v vp M pl) {m : Mb} (hm : M[0]? = some m) :
    Calls Try.prog 18 #[.pointer (some ⟨p, 0, none⟩)] w fun e w' => e = .returned (.tuple #[.int .i64 m.id, .int .u64 m.key, .int .i64 0]) ∧ Frm (fun _ => False) w w' := by
  obtain ⟨g, c, rfl, hg, hc, hgp, hgq⟩ := h.elem hm
  have h0 := h.c0
  obtain ⟨a0, a1, -⟩ := h.ecell hm
  have hil := (List.getElem?_eq_some_iff.1 hm).1
  have i1 : (0 : Int) < (M.length : Int) := by omega
  have e1 : ((M.length : Int) == 0) = false := by simp; intro e; subst e; simp at hil
  obtain ⟨mi, mk⟩ := m
  simp only [Nat.zero_mul, Nat.zero_add] at a0 a1
  clear h hm
  go_enter Try.func18, Try.ntmps18
  go_wp2_with fail
  go_quiet (fail)
  go_wp2_with fail
  go_ret3
  exact ⟨rfl, (Frm.refl _ _).drewN _⟩
set_option maxHeartbeats 1000000 in
theorem first_none (h : HpIs w p n v vp [] pl) :
    Calls Try.prog 18 #[.pointer (some ⟨p, 0, none⟩)] w fun e w' => e = .returned (.tuple #[.int .i64 0, .int .u64 0, .int .i64 5]) ∧ w = w' := by
  obtain ⟨A, c, rfl⟩ := h.list
  have h0 := h.c0
  simp only [List.length_nil] at h0
  clear h
  go_enter Try.func18, Try.ntmps18
  go_wp2_with fail
  go_ret3
  exact ⟨rfl, rfl⟩
end
end Go.Proofs.Yteclboaeoohfoaa
