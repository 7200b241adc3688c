/-
  Proved: 'Rows.RingResetsSaid': whatever the size and the steps, linchpinlaw10.RingResets returns true and leaves all that was there as it was. Conditions: none.
-/
import Derived.Test.YtnbbaggmkinfkaaLResets
import Derived.Test.YtnbbaggmkinfkaaRow
import Derived.Test.YtnbbaggmkinfkaaDos
namespace Go.Proofs.Ytnbbaggmkinfkaa
open Go.ChangeShapes Go.WideShapes Go.ChangeAt Go.RowKit
set_option maxRecDepth 100000 in
theorem RingResets_lifted (os : Os) (started : os.Started) (H : Type) (enc : TypeId × Value → H) :
    ReturnsInHanded {} Try.checked os 6 .any (Rows.ringResetsSpec.pre6 enc Try.prog Try.f6 Rows.ringResetsRow.domain false) (Rows.ringResetsSpec.post enc Try.prog Try.f6 false true false false) := by
  refine returnsInHanded_of_change (C := Try.checked) own started (by kernel_rfl) Try.func6
    (ChangeSpec.witness6 (enc := enc) (C := Try.checked) false ⟨#[], #[.int .u8 0, .agg #[.slice none 0 0, .slice none 0 0]], []⟩ 8 (by kernel_rfl) (by kernel_rfl) (by kernel_rfl) (by kernel_rfl)) ?_
  intro W base args ds gs before hval0 hW hcnd _
  have hval : ∀ (j : Nat) t v, Try.f6.params[j]? = some t → args[j]? = some v → Value.okWide Try.prog W .any base t v := hval0
  have hW' := hW
  obtain ⟨p, q, hA0, hV, rfl, hfz, hnd⟩ := hW
  have hA : DataW.TrodAll enc Try.prog W 0 (fun _ => true) true Try.f6.params.toList args.toList ds p := hA0
  rw [Try.params6] at hA hval
  obtain ⟨v0, vs0, d0, ds0, p0, q0, hargs, rfl, rfl, h0, r_0⟩ := trodAll_cons hA
  obtain ⟨v1, vs1, d1, ds1, p1, q1, rfl, rfl, rfl, h1, r_1⟩ := trodAll_cons r_0
  obtain ⟨rfl, rfl, rfl⟩ := trodAll_nil r_1
  obtain rfl : args = #[v0, v1] := by cases args; simp_all
  obtain ⟨rfl, rfl⟩ := trodVars_none hV
  obtain ⟨a0, rfl, rfl, rfl, w0⟩ := open_int Try.underlying5 (hval 0 5 v0 rfl rfl) h0
  obtain ⟨A1, c1, B1, e1, l1, l'1, rfl, r1, r'1⟩ := open_two_rows 12 DoM.enc Try.underlying49 cellsOf49 cellsOf22 Try.underlying22 cellsOf35 (by decide) dec35 h1
  refine (resets_c W a0 (wf_u8 w0) A1 B1 c1 e1 l1 l'1 r1 r'1).mono fun e W' ⟨he, hf⟩ => ?_
  subst he
  exact ⟨_, rfl, row_post hW' rfl rfl (by kernel_rfl) rfl (hf.below (Nat.le_refl _) (fun _ h => h.elim))⟩
theorem RingResets_holds : Rows.RingResetsSaid :=
  OpenClaim.holds_of_wide 6 Try.f6 rfl rfl rfl rfl rfl rfl rfl ⟨rfl, rfl, rfl, rfl, rfl⟩ rfl rfl rfl rfl rfl (by kernel_rfl) Try.func6 (by kernel_rfl)
    (of_decide_eq_true (by kernel_rfl)) (by unfold Func.isWrapper; first | (rw [if_pos (by decide +kernel)]; kernel_rfl) | (rw [if_neg (by decide +kernel)]; exact ⟨rfl, rfl⟩))
    (fun os started H enc _ => RingResets_lifted os started H enc)
#print axioms RingResets_holds
end Go.Proofs.Ytnbbaggmkinfkaa
