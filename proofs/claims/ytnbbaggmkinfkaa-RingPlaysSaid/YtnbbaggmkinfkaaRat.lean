/- The reference's At. -/
import Derived.Test.YtnbbaggmkinfkaaAt
namespace Go.Proofs.Ytnbbaggmkinfkaa
open Go.RowKit
section
variable {w : World} {g base n t r : Nat} {v : Value} {L : List DM}
set_option maxRecDepth 100000 in
set_option maxHeartbeats 1000000 in
theorem rat_c (h : RefIs w g base n v L t r) (q : Int) :
    Calls Try.prog 24 #[.pointer (some ⟨g, 0, none⟩), .int .i64 q] w fun e w' => ∃ d c, e = .returned (.tuple #[.agg d.cells.toArray, .int .i64 c]) ∧ AtR n L r q d c ∧ Frm (fun _ => False) w w' := by
  obtain ⟨A, c, rfl⟩ := own_slice h.own
  have h0 := h.c0
  have h1 := h.c1
  have h3 := h.c3
  have hgl := h.lt
  have hl := h.hl
  have hn := h.hn
  have ho := h.ord
  have kz : ((n : Int) == 0) = false := by simp; omega
  have HR := Lib.hid h
  clear h
  go_enter Try.func24, Try.ntmps24
  go_wp2_with fail
  go_loop [6] (fun i => ∃ k : Nat, r ≤ k ∧ k ≤ L.length ∧ i = .int .i64 k ∧ ∀ no : Nat, r ≤ no → no < k → ((no % n : Nat) : Int) ≠ q) (fun i => L.length - (intOf i).toNat)
  case atStart => exact ⟨r, by omega, by omega, rfl, fun no h1 h2 => by omega⟩
  case round =>
    obtain ⟨k, hk0, hk, rfl, hno⟩ := hrel
    have HN : Hid (∀ no : Nat, r ≤ no → no < k → ((no % n : Nat) : Int) ≠ q) := hno
    clear hno
    by_cases hlt : k < L.length
    · have hd : decide (k < L.length) = true := by simpa using hlt
      obtain ⟨d, hdd⟩ : ∃ d, L[k]? = some d := ⟨_, List.getElem?_eq_getElem hlt⟩
      obtain ⟨x, cap, hv, hk1, hk2, he⟩ := HR.out.elem hdd
      simp only [Value.slice.injEq] at hv
      obtain ⟨rfl, _, rfl⟩ := hv
      have x0 := (he 0 _ rfl).1
      have x1 := (he 1 _ rfl).1
      have x2 := (he 2 _ rfl).1
      have x3 := (he 3 _ rfl).1
      have x4 := (he 4 _ rfl).1
      have x5 := (he 5 _ rfl).1
      have x6 := (he 6 _ rfl).1
      have x7 := (he 7 _ rfl).1
      have x8 := (he 8 _ rfl).1
      simp only [Nat.add_zero] at x0
      have m1 : (k : Int) < (L.length : Int) := by omega
      have HD := Lib.hid hdd
      clear he hdd
      obtain ⟨op, req, slot, gen, frm, len, device, done, status⟩ := d
      simp only at x0 x1 x2 x3 x4 x5 x6 x7 x8
      by_cases hq : ((k % n : Nat) : Int) = q
      · have hq1 : ((k : Int) % (n : Int) == q) = true := by simpa using hq
        go_wp2_with fail
        refine bodyPost_ret (v := .tuple #[.agg #[.int .i64 op, .int .i64 req, .int .i64 slot, .int .u64 gen, .int .i64 frm, .int .i64 len, .bool device, .bool done, .int .i64 status], .int .i64 0]) (by simp [results, Try.results24, go_sem]) rfl ⟨⟨op, req, slot, gen, frm, len, device, done, status⟩, 0, rfl, .inl ⟨k, hk0, HD.out, hq, rfl⟩, ?_⟩
        exact (Frm.refl _ _).alloc _
      · have hq1 : ((k : Int) % (n : Int) == q) = false := by simpa using hq
        go_wp2_with fail
        go_round
        case rel =>
          refine ⟨k + 1, by omega, by omega, by go_num, fun no h1 h2 => ?_⟩
          by_cases e : no = k
          · rw [e]; exact hq
          · exact HN.out no h1 (by omega)
        case measure => simp [intOf]; omega
    · have hd : decide (k < L.length) = false := by simpa using hlt
      go_wp2_with fail
      refine bodyPost_ret (v := .tuple #[.agg DM.zero.cells.toArray, .int .i64 6]) (by simp [results, Try.results24, go_sem, DM.zero, DM.cells]) rfl ⟨DM.zero, 6, rfl, .inr ⟨fun no h1 h2 => HN.out no h1 (by omega), rfl, rfl⟩, ?_⟩
      exact (Frm.refl _ _).alloc _
end
end Go.Proofs.Ytnbbaggmkinfkaa
