/- down. -/
import Derived.Test.YteclboaeoohfoaaH3
import Derived.Deep.DeepCutAuto
import Derived.Deep.CutBlock
namespace Go.Proofs.Yteclboaeoohfoaa
open Go.RowKit
def kidF (M : List Mb) (i : Nat) : Nat :=
  match M[2 * i + 2]?, M[2 * i + 1]? with
  | some a, some b => if ltB a b = true then 2 * i + 2 else 2 * i + 1
  | _, _ => 2 * i + 1
theorem kidF_gt (M : List Mb) (i : Nat) : i < kidF M i := by
  unfold kidF; split
  · split <;> omega
  · omega
def downF (M : List Mb) (i : Nat) : List Mb :=
  if h : kidF M i < M.length then
    if ltB (M[kidF M i]'h) (M[i]'(Nat.lt_trans (kidF_gt M i) h)) = true then downF (sw M i (kidF M i) (M[i]'(Nat.lt_trans (kidF_gt M i) h)) (M[kidF M i]'h)) (kidF M i) else M
  else M
termination_by M.length - i
decreasing_by
  have := kidF_gt M i
  rw [sw_len]; omega
theorem downF_go {M : List Mb} {i k : Nat} {a b : Mb} (hk : kidF M i = k) (ha : M[k]? = some a) (hb : M[i]? = some b) (hl : ltB a b = true) : downF M i = downF (sw M i k b a) k := by
  subst hk
  obtain ⟨h1, rfl⟩ := List.getElem?_eq_some_iff.1 ha
  obtain ⟨h2, rfl⟩ := List.getElem?_eq_some_iff.1 hb
  rw [downF, dif_pos h1, if_pos hl]
theorem downF_stop {M : List Mb} {i k : Nat} {a b : Mb} (hk : kidF M i = k) (ha : M[k]? = some a) (hb : M[i]? = some b) (hl : ltB a b = false) : downF M i = M := by
  subst hk
  obtain ⟨h1, rfl⟩ := List.getElem?_eq_some_iff.1 ha
  obtain ⟨h2, rfl⟩ := List.getElem?_eq_some_iff.1 hb
  rw [downF, dif_pos h1, if_neg (by rw [hl]; decide)]
theorem downF_end {M : List Mb} {i k : Nat} (hk : kidF M i = k) (h : M.length ≤ k) : downF M i = M := by
  rw [downF, dif_neg (by omega)]
theorem kidF_two {M : List Mb} {i : Nat} {a b : Mb} (ha : M[2 * i + 2]? = some a) (hb : M[2 * i + 1]? = some b) : kidF M i = if ltB a b = true then 2 * i + 2 else 2 * i + 1 := by
  simp [kidF, ha, hb]
theorem kidF_one {M : List Mb} {i : Nat} (h : M.length ≤ 2 * i + 2) : kidF M i = 2 * i + 1 := by
  simp [kidF, List.getElem?_eq_none h]
section
variable {w : World} {p n : Nat} {v vp : Value} {M : List Mb} {pl : Nat → Int}
set_option maxRecDepth 100000 in
set_option maxHeartbeats 1000000 in
theorem down_c (h : HpIs w p n v vp M pl) {i : Nat} (hi : i < M.length) :
    Calls Try.prog 27 #[.pointer (some ⟨p, 0, none⟩), .int .i64 i] w fun e w' => e = .returned (.tuple #[]) ∧ (∃ pl', HpIs w' p n v vp (downF M i) pl') ∧ Frm (Ter p v vp) w w' := by
  have hn := h.hn
  have hl := h.len
  obtain ⟨A, cap, rfl⟩ := h.list
  have HH := Lib.hid h
  generalize hv : Value.slice A M.length cap = v at *
  have HV := Lib.hid hv
  clear h hv
  go_enter Try.func27, Try.ntmps27
  go_wp2_with fail
  go_loopw [1] (fun s wr => ∃ (k : Nat) (M' : List Mb) (pl' : Nat → Int), s = .int .i64 k ∧ Hid (k < M'.length ∧ M'.length = M.length ∧ downF M' k = downF M i ∧ HpIs wr p n v vp M' pl' ∧ Frm (Ter p v vp) w wr)) (fun s _ => M.length - (intOf s).toNat)
  case atStart => exact ⟨i, M, pl, rfl, Lib.hid ⟨hi, rfl, rfl, HH.out, Frm.refl _ _⟩⟩
  case round =>
    obtain ⟨k, M', pl', rfl, HX⟩ := hrel
    clear HH
    have hx := HX.out
    obtain ⟨x1, x2, -, -, -⟩ := hx
    have c0 := HX.out.2.2.2.1.c0
    rw [← HV.out] at c0
    obtain ⟨m, hm⟩ : ∃ m, m = M'.length := ⟨_, rfl⟩
    rw [← x2, ← hm] at c0
    have hm2 : m ≤ 1000 := by omega
    have hkm : k < m := by omega
    have HM := Lib.hid hm
    have X2 := Lib.hid x2
    clear hm x1 x2
    go_upto_region 1 with (fail)
    go_cut [22] (fun s wx => ∃ β : Bool, s = .bool β ∧ Hid (kidF M' k = (if β = true then 2 * k + 2 else 2 * k + 1) ∧ HpIs wx p n v vp M' pl' ∧ Frm (Ter p v vp) w wx))
    case first =>
      by_cases hlt : 2 * k + 2 < m
      · have d1 : decide (2 * (k : Int) + 1 + 1 < (m : Int)) = true := by simp; omega
        obtain ⟨a, ha⟩ : ∃ a, M'[2 * k + 2]? = some a := ⟨_, List.getElem?_eq_getElem (by have := HM.out; omega)⟩
        obtain ⟨b, hb⟩ : ∃ b, M'[2 * k + 1]? = some b := ⟨_, List.getElem?_eq_getElem (by have := HM.out; omega)⟩
        have hc := ahead_c HX.out.2.2.2.1 ha hb
        rw [show ((2 * k + 2 : Nat) : Int) = 2 * (k : Int) + 1 + 1 by omega, show ((2 * k + 1 : Nat) : Int) = 2 * (k : Int) + 1 by omega] at hc
        have HC := Lib.hid hc
        have HK := Lib.hid (kidF_two ha hb)
        clear ha hb hc
        go_wp2_with fail
        with_reducible refine HC.out.mono ?_
        rintro e w3 ⟨rfl, hf3⟩
        have H3 := Lib.hid hf3
        clear hf3
        go_wp2_with fail
        go_meet
        exact ⟨ltB a b, rfl, Lib.hid ⟨HK.out, HX.out.2.2.2.1.keep H3.out, HX.out.2.2.2.2.trans H3.out.of_none⟩⟩
      · have d1 : decide (2 * (k : Int) + 1 + 1 < (m : Int)) = false := by simp; omega
        go_wp2_with fail
        go_meet
        exact ⟨false, rfl, Lib.hid ⟨kidF_one (by have := HM.out; omega), HX.out.2.2.2.1, HX.out.2.2.2.2⟩⟩
    case rest =>
      obtain ⟨β, rfl, hC⟩ := hcut
      have h2 := HX.out.2.2.1
      have HU := Lib.hid h2
      clear HX h2
      go_upto_if 22 with (fail)
      go_cut [4] (fun s wx => ∃ q : Nat, s = .int .i64 q ∧ q ≤ 3000 ∧ Hid (kidF M' k = q) ∧ wc = wx)
      case first =>
        cases β with
        | true =>
          go_wp2_with fail
          go_meet
          exact ⟨2 * k + 2, by simp; omega, by omega, Lib.hid (by simpa using hC.out.1), rfl⟩
        | false =>
          go_wp2_with fail
          go_meet
          exact ⟨2 * k + 1, by simp, by omega, Lib.hid (by simpa using hC.out.1), rfl⟩
      case rest =>
        obtain ⟨q, rfl, hq, HQ, rfl⟩ := hcut
        have c1 := hC.out.2.1.c0
        rw [← HV.out, ← X2.out, ← HM.out] at c1
        clear c0
        by_cases hqm : q < m
        · have d1 : decide ((m : Int) ≤ (q : Int)) = false := by simp; omega
          obtain ⟨a, ha⟩ : ∃ a, M'[q]? = some a := ⟨_, List.getElem?_eq_getElem (by have := HM.out; omega)⟩
          obtain ⟨b, hb⟩ : ∃ b, M'[k]? = some b := ⟨_, List.getElem?_eq_getElem (by have := HM.out; omega)⟩
          have HA := Lib.hid ha
          have HB := Lib.hid hb
          clear ha hb
          go_wp2_with fail
          with_reducible refine (ahead_c hC.out.2.1 HA.out HB.out).mono ?_
          rintro e w3 ⟨rfl, hf3⟩
          have H3 := Lib.hid (hC.out.2.1.keep hf3)
          have F3 := Lib.hid (hC.out.2.2.trans hf3.of_none)
          clear hf3
          cases hlt : ltB a b with
          | true =>
            have hu := HU.out
            rw [downF_go HQ.out HA.out HB.out hlt] at hu
            have HU2 := Lib.hid hu
            clear hu
            go_wp2_with fail
            with_reducible refine (swap_c H3.out HB.out HA.out).mono ?_
            rintro e w4 ⟨rfl, ⟨pl4, h4⟩, hf4⟩
            have H4 := Lib.hid h4
            have F4 := Lib.hid (F3.out.trans hf4)
            clear h4 hf4
            go_wp2_with fail
            go_roundw
            · refine ⟨q, sw M' k q b a, pl4, rfl, Lib.hid ⟨?_, ?_, HU2.out, H4.out, F4.out⟩⟩
              · rw [sw_len]; have := HM.out; omega
              · rw [sw_len]; exact X2.out
            · have h1 := HM.out
              have h2 := X2.out
              have h3 := HQ.out
              have h4 := kidF_gt M' k
              simp [intOf]
              omega
          | false =>
            have hu := HU.out
            rw [downF_stop HQ.out HA.out HB.out hlt] at hu
            subst hu
            go_wp2_with fail
            refine bodyPost_ret (v := .tuple #[]) (by simp [results, Try.results27, go_sem]) rfl ⟨rfl, ⟨_, H3.out⟩, F3.out⟩
        · have d1 : decide ((m : Int) ≤ (q : Int)) = true := by simp; omega
          have hu := HU.out
          rw [downF_end HQ.out (by have := HM.out; omega)] at hu
          subst hu
          go_wp2_with fail
          refine bodyPost_ret (v := .tuple #[]) (by simp [results, Try.results27, go_sem]) rfl ⟨rfl, ⟨_, hC.out.2.1⟩, hC.out.2.2⟩
end
end Go.Proofs.Yteclboaeoohfoaa
