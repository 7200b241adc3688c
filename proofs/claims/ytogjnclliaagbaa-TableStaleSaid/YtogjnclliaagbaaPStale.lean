/-
  Proved: 'Rows.TableStaleSaid': whatever the input, linchpinlaw02.TableStale returns true and leaves all that was there as it was. Conditions: none.
-/
import Derived.Test.YtogjnclliaagbaaLStale
import Derived.Test.YtogjnclliaagbaaRow
import Derived.Test.YtogjnclliaagbaaDos
namespace Go.Proofs.Ytogjnclliaagbaa
open Go.ChangeShapes Go.WideShapes Go.ChangeAt Go.RowKit
set_option maxRecDepth 100000 in
theorem TableStale_lifted (os : Os) (started : os.Started) (H : Type) (enc : TypeId × Value → H) :
    ReturnsInHanded {} Try.checked os 3 .any (Rows.tableStaleSpec.pre6 enc Try.prog Try.f3 Rows.tableStaleRow.domain false) (Rows.tableStaleSpec.post enc Try.prog Try.f3 false true false false) := by
  refine returnsInHanded_of_change (C := Try.checked) own started (by kernel_rfl) Try.func3
    (ChangeSpec.witness6 (enc := enc) (C := Try.checked) false ⟨#[], #[.int .u8 0, .int .i64 0, .agg #[.slice none 0 0, .slice none 0 0]], []⟩ 8 (by kernel_rfl) (by kernel_rfl) (by kernel_rfl) (by kernel_rfl)) ?_
  intro W base args ds gs before hval0 hW hcnd _
  have hval : ∀ (j : Nat) t v, Try.f3.params[j]? = some t → args[j]? = some v → Value.okWide Try.prog W .any base t v := hval0
  have hW' := hW
  obtain ⟨p, q, hA0, hV, rfl, hfz, hnd⟩ := hW
  have hA : DataW.TrodAll enc Try.prog W 0 (fun _ => true) true Try.f3.params.toList args.toList ds p := hA0
  rw [Try.params3] at hA hval
  obtain ⟨v0, vs0, d0, ds0, p0, q0, hargs, rfl, rfl, h0, r_0⟩ := trodAll_cons hA
  obtain ⟨v1, vs1, d1, ds1, p1, q1, rfl, rfl, rfl, h1, r_1⟩ := trodAll_cons r_0
  obtain ⟨v2, vs2, d2, ds2, p2, q2, rfl, rfl, rfl, h2, r_2⟩ := trodAll_cons r_1
  obtain ⟨rfl, rfl, rfl⟩ := trodAll_nil r_2
  obtain rfl : args = #[v0, v1, v2] := by cases args; simp_all
  obtain ⟨rfl, rfl⟩ := trodVars_none hV
  obtain ⟨a0, rfl, rfl, rfl, w0⟩ := open_int Try.underlying5 (hval 0 5 v0 rfl rfl) h0
  obtain ⟨a1, rfl, rfl, rfl, w1⟩ := open_int Try.underlying3 (hval 1 3 v1 rfl rfl) h1
  obtain ⟨A2, c2, B2, e2, l2, l'2, rfl, r2, r'2⟩ := open_two_rows 4 DoM.enc Try.underlying23 cellsOf23 cellsOf22 Try.underlying22 cellsOf35 (by decide) dec35 h2
  refine (stale_c W a0 a1 (wf_u8 w0) A2 B2 c2 e2 l2 l'2 r2 r'2).mono fun e W' ⟨he, hf⟩ => ?_
  subst he
  exact ⟨_, rfl, row_post hW' rfl rfl (by kernel_rfl) rfl (hf.below (Nat.le_refl _) (fun _ h => h.elim))⟩
theorem TableStale_holds : Rows.TableStaleSaid :=
  OpenClaim.holds_of_wide 3 Try.f3 rfl rfl rfl rfl rfl rfl rfl ⟨rfl, rfl, rfl, rfl, rfl⟩ rfl rfl rfl rfl rfl (by kernel_rfl) Try.func3 (by kernel_rfl)
    (of_decide_eq_true (by kernel_rfl)) (by unfold Func.isWrapper; first | (rw [if_pos (by decide +kernel)]; kernel_rfl) | (rw [if_neg (by decide +kernel)]; exact ⟨rfl, rfl⟩))
    (fun os started H enc _ => TableStale_lifted os started H enc)
#print axioms TableStale_holds
end Go.Proofs.Ytogjnclliaagbaa
