/- HeapBack: the walk. -/
import Derived.Test.YteclboaeoohfoaaLFirst
namespace Go.Proofs.Yteclboaeoohfoaa
open Go.RowKit
theorem countK_congr {n : Nat} {K K' : Nat → Option Int} (h : ∀ j, j < n → (K j).isSome = (K' j).isSome) : countK n K = countK n K' := by
  induction n with
  | zero => rfl
  | succ n ih => rw [countK_succ, countK_succ, ih (fun j hj => h j (by omega)), h n (by omega)]
theorem countK_put {n : Nat} {K K' : Nat → Option Int} {i : Nat} (hi : i < n) (hs : (K' i).isSome = true) (h : ∀ j, j ≠ i → (K' j).isSome = (K j).isSome) :
    countK n K' = countK n K + (if (K i).isSome = true then 0 else 1) := by
  induction n with
  | zero => omega
  | succ n ih =>
    rw [countK_succ, countK_succ]
    by_cases e : i = n
    · subst e
      rw [countK_congr (K' := K) fun j hj => h j (by omega), hs]
      by_cases e2 : (K i).isSome = true <;> simp [e2]
    · rw [ih (by omega), h n (fun x => e x.symm)]; omega
theorem putK_self {n : Nat} {K : Nat → Option Int} {i : Nat} (hi : i < n) (key : Int) : putK n K i key i = some key := by
  rw [putK_in (by omega), if_pos rfl]
theorem putK_other {n : Nat} {K : Nat → Option Int} {i j : Nat} (hi : i < n) (key : Int) (h : j ≠ i) : putK n K i key j = K j := by
  rw [putK_in (by omega), if_neg (by omega)]
theorem dropK_self {K : Nat → Option Int} {i : Nat} : dropK K i i = none := by rw [dropK, if_pos rfl]
theorem dropK_other {K : Nat → Option Int} {i j : Nat} (h : j ≠ i) : dropK K i j = K j := by rw [dropK, if_neg (by omega)]
theorem putC_in {n i : Nat} (hi : i < n) : putC n i = 0 := by
  rw [putC, if_pos]; simp [isB]; omega
set_option maxRecDepth 100000 in
set_option maxHeartbeats 2000000 in
theorem back_c (w : World) (A : Option Addr) (c : Nat) (l : List UInt8) (hl : RowsAt w A 1 enc8 l) (B : Option Addr) (cb : Nat) (lb : List UInt64) (hb : RowsAt w B 1 enc64 lb) :
    Calls Try.prog 6 #[.slice A l.length c, .slice B lb.length cb] w fun e w' => e = .returned (.bool true) ∧ Frm (fun _ => False) w w' := by
  have HL := Lib.hid hl
  have HB := Lib.hid hb
  have hlen := hl.len
  have hblen := hb.len
  clear hl hb
  go_enter Try.func6, Try.ntmps6
  go_wp2_with fail
  with_reducible refine (awake_c w).mono ?_
  rintro e w1 ⟨rfl, hf1⟩
  have F1 := Lib.hid hf1
  clear hf1
  go_wp2_with fail
  with_reducible refine (new_a w1 100 100 rfl (by omega)).mono ?_
  rintro e w2 ⟨rfl, h2⟩
  generalize hp : w1.heap.size = p at *
  have H2 : Hid (∃ K, At w1 w2 p 100 K) := Lib.hid ⟨_, h2⟩
  clear hp
  by_cases hg : l.length ≤ 100 ∧ 0 < lb.length
  · obtain ⟨g1, g2⟩ := hg
    have e1 : decide (100 < (l.length : Int)) = false := by simp; omega
    have e2 : ((lb.length : Int) == 0) = false := by simp; intro e; subst e; simp at g2
    clear h2
    go_wp2_with fail
    go_loopw [7] (fun i wr => ∃ k : Nat, k ≤ l.length ∧ i = .int .i64 k ∧ Hid (∃ K, At w1 wr p 100 K)) (fun i _ => l.length - (intOf i).toNat)
    case atStart => exact ⟨0, by omega, rfl, H2⟩
    case round =>
      obtain ⟨k, hk, rfl, HX⟩ := hrel
      clear H2
      by_cases hlt : k < l.length
      · have e3 : decide (k < l.length) = true := by simpa using hlt
        obtain ⟨b0, off, hAe, hb0, hc⟩ := HL.out.at_ (by omega)
        subst hAe
        obtain ⟨d, hd⟩ : ∃ d, l[k]? = some d := ⟨_, List.getElem?_eq_getElem hlt⟩
        obtain ⟨bb, ob, hBe, hbb, hcb⟩ := HB.out.at_ g2
        subst hBe
        have hkm : k % lb.length < lb.length := Nat.mod_lt _ g2
        obtain ⟨y, hy⟩ : ∃ y, lb[k % lb.length]? = some y := ⟨_, List.getElem?_eq_getElem hkm⟩
        obtain ⟨K, hK⟩ := HX.out
        have x0 := hK.frm.cell (by have := F1.out.size; omega) id (F1.out.cell hb0 id (hc k d hd 0 _ rfl))
        have xb := F1.out.cell hbb id (hcb _ y hy 0 _ rfl)
        have hb1 : bb < w1.heap.size := by have := F1.out.size; omega
        have HK := Lib.hid hK
        clear hc hd hK HX hcb hy
        simp only [Nat.add_zero, Nat.mul_one] at x0 xb
        have XB := Lib.hid xb
        clear xb
        go_wp2_with fail
        obtain ⟨j, hj, hjd⟩ : ∃ j : Nat, j < 100 ∧ (wrap64 (d.toNat : Int)).tmod 100 = (j : Int) := by
          refine ⟨d.toNat % 100, Nat.mod_lt _ (by omega), ?_⟩
          have h8 : d.toNat < 256 := d.toNat_lt
          rw [show wrap64 (d.toNat : Int) = (d.toNat : Int) by unfold wrap64; omega, Int.tmod_eq_emod_of_nonneg (by omega)]
          omega
        simp only [hjd]
        obtain ⟨m, hm⟩ : ∃ m, countK 100 K = m := ⟨_, rfl⟩
        have hm100 : m ≤ 100 := by rw [← hm]; exact countK_le _ _
        have HM := Lib.hid hm
        obtain ⟨K', hK'⟩ : ∃ K', putK 100 (putK 100 K j 5) j y.toNat = K' := ⟨_, rfl⟩
        have hcount : countK 100 K' = m + (if (K j).isSome = true then 0 else 1) := by
          rw [← hm, ← hK']
          refine countK_put hj (by rw [putK_self hj]; rfl) fun i hi => ?_
          rw [putK_other hj _ hi, putK_other hj _ hi]
        have HS : Hid (K' j = some (y.toNat : Int)) := Lib.hid (by rw [← hK', putK_self hj])
        have HK' := Lib.hid hK'
        have HJ := Lib.hid (putC_in (n := 100) hj)
        have hex : ∃ (z c0 : Int) (m' : Nat), Hid (Calls Try.prog 19 #[.pointer (some ⟨p, 0, none⟩), .int .i64 j] wr fun e w' => e = .returned (.tuple #[.int .u64 z, .int .i64 c0]) ∧ At w1 w' p 100 K) ∧ Hid (countK 100 K' = m') ∧ (c0 = 0 ∧ m' = m ∨ c0 = 6 ∧ m' = m + 1) := by
          cases hKj : K j with
          | none => exact ⟨0, 6, m + 1, Lib.hid (key_n HK.out (by rw [getK_nat]; exact hKj)), Lib.hid (by rw [hcount, hKj]; rfl), .inr ⟨rfl, rfl⟩⟩
          | some x => exact ⟨x, 0, m, Lib.hid (key_s HK.out (by rw [getK_nat]; exact hKj)), Lib.hid (by rw [hcount, hKj]; rfl), .inl ⟨rfl, rfl⟩⟩
        obtain ⟨z, c0, m', HC, HM', hcase⟩ := hex
        clear hm hK' hcount hjd
        rcases hcase with ⟨rfl, rfl⟩ | ⟨rfl, rfl⟩
        all_goals
          with_reducible refine HC.out.mono ?_
          rintro e w5 ⟨rfl, h5⟩
          have H5 := Lib.hid h5
          clear h5 HC
          go_wp2_with fail
          have hl := len_a H5.out
          rw [HM.out] at hl
          with_reducible refine hl.mono ?_
          rintro e w6 ⟨rfl, h6⟩
          have H6 := Lib.hid h6
          clear h6 H5 hl
          go_wp2_with fail
          have h12 := put_a H6.out j 5
          rw [HJ.out] at h12
          with_reducible refine h12.mono ?_
          rintro e w7 ⟨rfl, h7⟩
          have H7 := Lib.hid h7
          have x7 := h7.frm.cell hb1 id XB.out
          clear h7 h12 H6
          go_wp2_with fail
          have h12 := put_a H7.out j y.toNat
          rw [HJ.out, HK'.out] at h12
          with_reducible refine h12.mono ?_
          rintro e w8 ⟨rfl, h8⟩
          have H8 := Lib.hid h8
          clear h8 h12 x7 H7
          go_wp2_with fail
          with_reducible refine (key_s H8.out (by rw [getK_nat]; exact HS.out)).mono ?_
          rintro e w9 ⟨rfl, h9⟩
          have H9 := Lib.hid h9
          have x9 := h9.frm.cell hb1 id XB.out
          clear h9 H8
          go_wp2_with fail
          have hl := len_a H9.out
          rw [HM'.out] at hl
          with_reducible refine hl.mono ?_
          rintro e w10 ⟨rfl, h10⟩
          have H10 := Lib.hid h10
          clear h10 hl H9 x9
          go_wp2_with fail
          have hl := len_a H10.out
          rw [HM'.out] at hl
          with_reducible refine hl.mono ?_
          rintro e w11 ⟨rfl, h11⟩
          have H11 := Lib.hid h11
          clear h11 hl H10
          go_wp2_with fail
          · have h12 := drop_a H11.out j
            rw [show dropC K' j = 0 by rw [dropC, getK_nat, HS.out]; rfl] at h12
            with_reducible refine h12.mono ?_
            rintro e w12 ⟨rfl, h13⟩
            have H12 := Lib.hid h13
            clear h12 h13 H11
            go_wp2_with fail
            have h12 := drop_a H12.out j
            rw [show dropC (dropK K' j) j = 6 by rw [dropC, getK_nat, dropK_self]; rfl] at h12
            with_reducible refine h12.mono ?_
            rintro e w13 ⟨rfl, h13⟩
            have H13 := Lib.hid h13
            clear h12 h13 H12
            go_wp2_with fail
            with_reducible refine (key_n H13.out (by rw [getK_nat, dropK_self])).mono ?_
            rintro e w14 ⟨rfl, h14⟩
            have H14 := Lib.hid h14
            clear h14 H13
            go_wp2_with fail
            go_roundw
            case rel => exact ⟨k + 1, by omega, by go_num, Lib.hid ⟨_, H14.out⟩⟩
            case measure => simp [intOf]; omega
          · go_roundw
            case rel => exact ⟨k + 1, by omega, by go_num, Lib.hid ⟨_, H11.out⟩⟩
            case measure => simp [intOf]; omega
      · have e3 : decide (k < l.length) = false := by simpa using hlt
        go_wp2_with fail
        go_ret
        obtain ⟨K0, hK0⟩ := HX.out
        exact ⟨rfl, F1.out.trans hK0.frm⟩
  · have hex : decide (100 < (l.length : Int)) = true ∨ decide (100 < (l.length : Int)) = false ∧ lb.length = 0 := by
      by_cases h : 100 < l.length
      · left; simp; omega
      · exact .inr ⟨by simp; omega, by omega⟩
    clear H2
    have H2 := Lib.hid h2.frm
    clear h2 hg
    rcases hex with e1 | ⟨e1, e2⟩
    · go_wp2_with fail
      go_ret
      exact ⟨rfl, F1.out.trans H2.out⟩
    · rw [e2]
      go_wp2_with fail
      go_ret
      exact ⟨rfl, F1.out.trans H2.out⟩
end Go.Proofs.Yteclboaeoohfoaa
