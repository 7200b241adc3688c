/- up. -/
import Derived.Test.YteclboaeoohfoaaH2
namespace Go.Proofs.Yteclboaeoohfoaa
open Go.RowKit
def upF (M : List Mb) (i : Nat) : List Mb :=
  if 0 < i then
    match M[i]?, M[(i - 1) / 2]? with
    | some a, some b => if ltB a b = true then upF (sw M i ((i - 1) / 2) a b) ((i - 1) / 2) else M
    | _, _ => M
  else M
termination_by i
decreasing_by omega
theorem upF_zero (M : List Mb) : upF M 0 = M := by unfold upF; simp
theorem upF_go {M : List Mb} {i : Nat} {a b : Mb} (h0 : 0 < i) (hi : M[i]? = some a) (hk : M[(i - 1) / 2]? = some b) (hl : ltB a b = true) : upF M i = upF (sw M i ((i - 1) / 2) a b) ((i - 1) / 2) := by
  rw [upF]; simp [h0, hi, hk, hl]
theorem upF_stop {M : List Mb} {i : Nat} {a b : Mb} (hi : M[i]? = some a) (hk : M[(i - 1) / 2]? = some b) (hl : ltB a b = false) : upF M i = M := by
  rw [upF]; simp [hi, hk, hl]
theorem sw_len (M : List Mb) (i k : Nat) (a b : Mb) : (sw M i k a b).length = M.length := by simp [sw]
section
variable {w : World} {p n : Nat} {v vp : Value} {M : List Mb} {pl : Nat → Int}
set_option maxRecDepth 100000 in
set_option maxHeartbeats 400000 in
theorem up_c (h : HpIs w p n v vp M pl) {i : Nat} (hi : i < M.length) :
    Calls Try.prog 26 #[.pointer (some ⟨p, 0, none⟩), .int .i64 i] w fun e w' => e = .returned (.tuple #[]) ∧ (∃ pl', HpIs w' p n v vp (upF M i) pl') ∧ Frm (Ter p v vp) w w' := by
  have hn := h.hn
  have hl := h.len
  have HH := Lib.hid h
  clear h
  go_enter Try.func26, Try.ntmps26
  go_wp2_with fail
  go_loopw [1] (fun s wr => ∃ (k : Nat) (M' : List Mb) (pl' : Nat → Int), s = .int .i64 k ∧ Hid (k < M'.length ∧ M'.length = M.length ∧ upF M' k = upF M i ∧ HpIs wr p n v vp M' pl' ∧ Frm (Ter p v vp) w wr)) (fun s _ => (intOf s).toNat)
  case atStart => exact ⟨i, M, pl, rfl, Lib.hid ⟨hi, rfl, rfl, HH.out, Frm.refl _ _⟩⟩
  case round =>
    obtain ⟨k, M', pl', rfl, HX⟩ := hrel
    clear HH
    have hx := HX.out
    obtain ⟨x1, x2, -, -, -⟩ := hx
    by_cases hk0 : 0 < k
    · have d1 : decide ((0 : Int) < (k : Int)) = true := by simpa using hk0
      obtain ⟨j, hj⟩ : ∃ j, j = (k - 1) / 2 := ⟨_, rfl⟩
      obtain ⟨a, ha⟩ : ∃ a, M'[k]? = some a := ⟨_, List.getElem?_eq_getElem x1⟩
      obtain ⟨b, hb⟩ : ∃ b, M'[j]? = some b := ⟨_, List.getElem?_eq_getElem (by omega)⟩
      have q1 : ((k : Int) - 1).tdiv 2 = (j : Int) := by
        rw [Int.tdiv_eq_ediv_of_nonneg (by omega)]; omega
      have hj2 : j ≤ 1000 := by omega
      have HJ := Lib.hid hj
      have HA := Lib.hid ha
      have HB := Lib.hid hb
      have e0 : upF M' k = if ltB a b = true then upF (sw M' k j a b) j else M' := by
        subst hj
        cases hlt : ltB a b with
        | true => simpa using upF_go hk0 ha hb hlt
        | false => simpa using upF_stop ha hb hlt
      have E0 := Lib.hid e0
      clear ha hb hj e0
      go_wp2_with fail
      with_reducible refine (ahead_c HX.out.2.2.2.1 HA.out HB.out).mono ?_
      rintro e w3 ⟨rfl, hf3⟩
      have H3 := Lib.hid (HX.out.2.2.2.1.keep hf3)
      have F3 := Lib.hid (HX.out.2.2.2.2.trans hf3.of_none)
      clear hf3
      have hu := HX.out.2.2.1
      rw [E0.out] at hu
      cases hlt : ltB a b with
      | true =>
        rw [hlt, if_pos rfl] at hu
        have HU := Lib.hid hu
        clear hu E0
        go_wp2_with fail
        with_reducible refine (swap_c H3.out HA.out HB.out).mono ?_
        rintro e w4 ⟨rfl, ⟨pl4, h4⟩, hf4⟩
        have H4 := Lib.hid h4
        have F4 := Lib.hid (F3.out.trans hf4)
        clear h4 hf4
        go_wp2_with fail
        go_roundw
        · refine ⟨j, sw M' k j a b, pl4, rfl, Lib.hid ⟨?_, ?_, HU.out, H4.out, F4.out⟩⟩
          · rw [sw_len]; have := HJ.out; omega
          · rw [sw_len]; exact x2
        · have := HJ.out
          simp [intOf]
          omega
      | false =>
        rw [hlt, if_neg (by decide)] at hu
        subst hu
        clear E0
        go_wp2_with fail
        refine bodyPost_end (v := .tuple #[]) (by simp [results, Try.results26, go_sem]) rfl ⟨rfl, ⟨_, H3.out⟩, F3.out⟩
    · have hk : k = 0 := by omega
      subst hk
      have hu := HX.out.2.2.1
      rw [upF_zero] at hu
      subst hu
      go_wp2_with fail
      refine bodyPost_end (v := .tuple #[]) (by simp [results, Try.results26, go_sem]) rfl ⟨rfl, ⟨_, HX.out.2.2.2.1⟩, HX.out.2.2.2.2⟩
end
end Go.Proofs.Yteclboaeoohfoaa
