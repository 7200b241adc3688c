/-
  Proved: 'Rows.HeapSortsSaid': whatever the keys, linchpinlaw03.HeapSorts returns true and leaves all that was there as it was. Conditions: none.
-/
import Derived.Test.YteclboaeoohfoaaLSorts
import Derived.Test.YteclboaeoohfoaaRow
import Derived.Test.YteclboaeoohfoaaDos
namespace Go.Proofs.Yteclboaeoohfoaa
open Go.ChangeShapes Go.WideShapes Go.ChangeAt Go.RowKit
set_option maxRecDepth 100000 in
theorem HeapSorts_lifted (os : Os) (started : os.Started) (H : Type) (enc : TypeId × Value → H) :
    ReturnsInHanded {} Try.checked os 4 .any (Rows.heapSortsSpec.pre6 enc Try.prog Try.f4 Rows.heapSortsRow.domain false) (Rows.heapSortsSpec.post enc Try.prog Try.f4 false true false false) := by
  refine returnsInHanded_of_change (C := Try.checked) own started (by kernel_rfl) Try.func4
    (ChangeSpec.witness6 (enc := enc) (C := Try.checked) false ⟨#[], #[.slice none 0 0, .slice none 0 0], []⟩ 8 (by kernel_rfl) (by kernel_rfl) (by kernel_rfl) (by kernel_rfl)) ?_
  intro W base args ds gs before hval0 hW hcnd _
  have hval : ∀ (j : Nat) t v, Try.f4.params[j]? = some t → args[j]? = some v → Value.okWide Try.prog W .any base t v := hval0
  have hW' := hW
  obtain ⟨p, q, hA0, hV, rfl, hfz, hnd⟩ := hW
  have hA : DataW.TrodAll enc Try.prog W 0 (fun _ => true) true Try.f4.params.toList args.toList ds p := hA0
  rw [Try.params4] at hA hval
  obtain ⟨v0, vs0, d0, ds0, p0, q0, hargs, rfl, rfl, h0, r_0⟩ := trodAll_cons hA
  obtain ⟨v1, vs1, d1, ds1, p1, q1, rfl, rfl, rfl, h1, r_1⟩ := trodAll_cons r_0
  obtain ⟨rfl, rfl, rfl⟩ := trodAll_nil r_1
  obtain rfl : args = #[v0, v1] := by cases args; simp_all
  obtain ⟨rfl, rfl⟩ := trodVars_none hV
  obtain ⟨A0, c0, l0, rfl, r0⟩ := open_rows 1 enc64 Try.underlying42 cellsOf30 (by decide) dec30 (okWide_slice Try.underlying42 (hval 0 42 v0 rfl rfl)) h0
  obtain ⟨A1, c1, l1, rfl, r1⟩ := open_rows 1 enc8 Try.underlying46 cellsOf5 (by decide) dec5 (okWide_slice Try.underlying46 (hval 1 46 v1 rfl rfl)) h1
  refine (sorts_c W A0 c0 l0 r0.1 A1 c1 l1 r1.1).mono fun e W' ⟨he, hf⟩ => ?_
  subst he
  exact ⟨_, rfl, row_post hW' rfl rfl (by kernel_rfl) rfl (hf.below (Nat.le_refl _) (fun _ h => h.elim))⟩
theorem HeapSorts_holds : Rows.HeapSortsSaid :=
  OpenClaim.holds_of_wide 4 Try.f4 rfl rfl rfl rfl rfl rfl rfl ⟨rfl, rfl, rfl, rfl, rfl⟩ rfl rfl rfl rfl rfl (by kernel_rfl) Try.func4 (by kernel_rfl)
    (of_decide_eq_true (by kernel_rfl)) (by unfold Func.isWrapper; first | (rw [if_pos (by decide +kernel)]; kernel_rfl) | (rw [if_neg (by decide +kernel)]; exact ⟨rfl, rfl⟩))
    (fun os started H enc _ => HeapSorts_lifted os started H enc)
#print axioms HeapSorts_holds
end Go.Proofs.Yteclboaeoohfoaa
