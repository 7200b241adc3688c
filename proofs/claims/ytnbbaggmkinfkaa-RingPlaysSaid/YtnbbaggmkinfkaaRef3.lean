/- The reference's Put joined, Take. -/
import Derived.Test.YtnbbaggmkinfkaaRef2
namespace Go.Proofs.Ytnbbaggmkinfkaa
open Go.RowKit
section
variable {w : World} {g base n t r : Nat} {v : Value} {L : List DM}
theorem rput_c (h : RefIs w g base n v L t r) (d : DM) (hmax : L.length < 1000000) :
    Calls Try.prog 18 #[.pointer (some ⟨g, 0, none⟩), .agg d.cells.toArray] w fun e w' => ∃ v', e = .returned (.tuple #[.int .i64 (putF n L r d).no, .int .i64 (putF n L r d).c]) ∧ RefIs w' g base n v' (putF n L r d).L t r ∧ Frm (fun k => k = g ∨ v.ownBlock = some k) w w' := by
  unfold putF
  cases hm : mayB d.fresh with
  | false =>
    refine (rput_arg w g d hm).mono ?_
    rintro e w' ⟨rfl, hf⟩
    exact ⟨v, rfl, h.keep hf, hf.of_none⟩
  | true =>
    by_cases hl : L.length = r + n
    · refine (rput_full h d hm hl).mono ?_
      rintro e w' ⟨rfl, hf⟩
      rw [if_neg (by decide), if_pos hl]
      exact ⟨v, rfl, h.keep hf, hf.of_none⟩
    · have := h.ord
      refine (rput_ok h d hm (by omega) hmax).mono ?_
      rintro e w' ⟨v', rfl, hr, hf⟩
      rw [if_neg (by decide), if_neg hl]
      exact ⟨_, rfl, hr, hf⟩
/-- An element. -/
theorem RefIs.elem (h : RefIs w g base n v L t r) {i : Nat} {d : DM} (hd : L[i]? = some d) : ∃ k cap, v = .slice (some ⟨k, 0, none⟩) L.length cap ∧ base ≤ k ∧ k < w.heap.size ∧ ∀ j u, d.cells[j]? = some u → w.cell? ⟨k, i * 9 + j, none⟩ = some u ∧ w.frozen? ⟨k, i * 9 + j, none⟩ = false := by
  have hil := (List.getElem?_eq_some_iff.1 hd).1
  have hown := h.own
  obtain ⟨k, cap, rfl, h1, h2⟩ := hown.form (by omega)
  refine ⟨k, cap, rfl, h1, h2, fun j u hj => ⟨?_, hown.frozenAt _⟩⟩
  have hj9 : j < 9 := (List.getElem?_eq_some_iff.1 hj).1
  rw [hown.cellAt (i * 9 + j) (by omega)]
  exact flatMap_get cells_len L i d j u hd hj
set_option maxRecDepth 100000 in
set_option maxHeartbeats 2000000 in
theorem rtake_none (h : RefIs w g base n v L t r) (ht : t = L.length) :
    Calls Try.prog 19 #[.pointer (some ⟨g, 0, none⟩)] w fun e w' => e = .returned (.tuple #[.int .i64 0, .agg DM.zero.cells.toArray, .int .i64 5]) ∧ Frm (fun _ => False) w w' := by
  obtain ⟨A, c, rfl⟩ := own_slice h.own
  have h1 := h.c1
  have h2 := h.c2
  have hgl := h.lt
  have e1 : ((t : Int) == (L.length : Int)) = true := by simp [ht]
  clear ht h
  go_enter Try.func19, Try.ntmps19
  go_wp2_with fail
  go_quiet (fail)
  go_wp2_with fail
  refine bodyPost_ret (v := .tuple #[.int .i64 0, .agg DM.zero.cells.toArray, .int .i64 5]) (by simp [results, Try.results19, go_sem, DM.zero, DM.cells]) rfl ⟨rfl, ?_⟩
  exact boxed_frm (((Frm.refl _ _).alloc _).drewN _) (.inr (Nat.le_refl _)) _ _ _ _ _ _ _ _ _
end
end Go.Proofs.Ytnbbaggmkinfkaa
