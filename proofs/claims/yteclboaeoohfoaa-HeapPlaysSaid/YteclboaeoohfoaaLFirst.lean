/- HeapFirst: the walk. -/
import Derived.Test.YteclboaeoohfoaaHE
import Derived.Test.YteclboaeoohfoaaDos
namespace Go.Proofs.Yteclboaeoohfoaa
open Go.RowKit
theorem countK_succ (n : Nat) (K : Nat → Option Int) : countK (n + 1) K = countK n K + (if (K n).isSome = true then 1 else 0) := by
  unfold countK
  rw [List.range_succ, List.filter_append, List.length_append]
  congr 1
  by_cases h : (K n).isSome = true
  · simp [h]
  · simp [h]
theorem countK_le (n : Nat) (K : Nat → Option Int) : countK n K ≤ n := by
  have := List.length_filter_le (fun j => (K j).isSome) (List.range n)
  simpa [countK] using this
theorem countK_zero {n : Nat} {K : Nat → Option Int} (h : ∀ j, j < n → K j = none) : countK n K = 0 := by
  induction n with
  | zero => rfl
  | succ n ih => rw [countK_succ, ih (fun j hj => h j (by omega)), h n (by omega)]; rfl
theorem countK_pos {n : Nat} {K : Nat → Option Int} {j : Nat} {x : Int} (hj : j < n) (h : K j = some x) : 0 < countK n K := by
  induction n with
  | zero => omega
  | succ n ih =>
    rw [countK_succ]
    by_cases e : j = n
    · subst e; rw [h]; simp
    · have := ih (by omega); omega
theorem getK_nat (K : Nat → Option Int) (j : Nat) : getK K (j : Int) = K j := by simp [getK]
set_option maxRecDepth 100000 in
set_option maxHeartbeats 2000000 in
theorem first_c (w : World) (A : Option Addr) (c : Nat) (l : List DoM) (hl : RowsAt w A 3 DoM.enc l) :
    Calls Try.prog 5 #[.slice A l.length c] w fun e w' => e = .returned (.bool true) ∧ Frm (fun _ => False) w w' := by
  have HL := Lib.hid hl
  have hlen := hl.len
  clear hl
  go_enter Try.func5, Try.ntmps5
  go_wp2_with fail
  with_reducible refine (awake_c w).mono ?_
  rintro e w1 ⟨rfl, hf1⟩
  have F1 := Lib.hid hf1
  clear hf1
  go_wp2_with fail
  with_reducible refine (new_a w1 100 100 rfl (by omega)).mono ?_
  rintro e w2 ⟨rfl, h2⟩
  generalize hp : w1.heap.size = p at *
  have H2 : Hid (∃ K, At w1 w2 p 100 K) := Lib.hid ⟨_, h2⟩
  clear h2 hp
  go_wp2_with fail
  go_loopw [5] (fun i wr => ∃ k : Nat, k ≤ l.length ∧ k ≤ 60 ∧ i = .int .i64 k ∧ Hid (∃ K, At w1 wr p 100 K)) (fun i _ => 60 - (intOf i).toNat)
  case atStart => exact ⟨0, by omega, by omega, rfl, H2⟩
  case round =>
    obtain ⟨k, hk, hk60, rfl, HX⟩ := hrel
    clear H2
    by_cases hlt : k < l.length ∧ k < 60
    · obtain ⟨hl1, hl2⟩ := hlt
      have e1 : decide (k < l.length) = true := by simpa using hl1
      have e2 : decide ((k : Int) < 60) = true := by simp; omega
      obtain ⟨b0, off, hAe, hb0, hc⟩ := HL.out.at_ (by omega)
      subst hAe
      obtain ⟨d, hd⟩ : ∃ d, l[k]? = some d := ⟨_, List.getElem?_eq_getElem hl1⟩
      obtain ⟨K0, hK0⟩ := HX.out
      have hcc := fun j v hj => hK0.frm.cell (by have := F1.out.size; omega) id (F1.out.cell hb0 id (hc k d hd j v hj))
      have x0 := hcc 0 _ rfl
      have x1 := hcc 1 _ rfl
      have x2 := hcc 2 _ rfl
      have HK0 := Lib.hid hK0
      clear hcc hc hd hK0 HX
      simp only [Nat.add_zero] at x0
      go_upto_if 42 with (fail)
      go_cut [] (fun wx => Hid (∃ K, At w1 wx p 100 K))
      case first =>
        have HB := Lib.hid (HK0.out.keep ((Frm.refl _ wr).alloc (.cells #[.int .i64 d.kind, .int .i64 d.id, .int .u64 d.key] 32)))
        go_wp2_with fail
        · with_reducible refine (put_a HB.out d.id d.key).mono ?_
          rintro e w5 ⟨rfl, h5⟩
          have H5 := Lib.hid h5
          clear h5
          go_wp2_with fail
          go_meet
          exact Lib.hid ⟨_, H5.out⟩
        · with_reducible refine (drop_a HB.out d.id).mono ?_
          rintro e w5 ⟨rfl, h5⟩
          have H5 := Lib.hid h5
          clear h5
          go_wp2_with fail
          go_meet
          exact Lib.hid ⟨_, H5.out⟩
        · go_meet
          exact Lib.hid ⟨_, HB.out⟩
      case rest =>
        clear HK0 x0 x1 x2
        obtain ⟨K, hK⟩ := hcut.out
        have HK := Lib.hid hK
        clear hcut
        rcases hK.heap.first with hn | ⟨j, x, hf⟩
        · have HN := Lib.hid hn
          clear hn hK
          go_wp2_with fail
          with_reducible refine (fst_n HK.out HN.out).mono ?_
          rintro e w6 ⟨rfl, h6⟩
          have H6 := Lib.hid h6
          clear h6 HK
          go_wp2_with fail
          go_loopw [10, 11] (fun q m wr => ∃ t : Nat, t ≤ 100 ∧ m = .int .i64 t ∧ q = .int .i64 0 ∧ Hid (At w1 wr p 100 K)) (fun _ m _ => 100 - (intOf m).toNat)
          case atStart => exact ⟨0, by omega, rfl, rfl, H6⟩
          case round =>
            obtain ⟨t, ht, rfl, rfl, HY⟩ := hrel
            clear H6
            by_cases hlt : t < 100
            · have e3 : decide ((t : Int) < 100) = true := by simp; omega
              go_wp2_with fail
              with_reducible refine (key_n HY.out (by rw [getK_nat]; exact HN.out t)).mono ?_
              rintro e w7 ⟨rfl, h7⟩
              have H7 := Lib.hid h7
              clear h7 HY
              go_wp2_with fail
              go_roundw
              case rel => exact ⟨t + 1, by omega, by go_num, rfl, H7⟩
              case measure => simp [intOf]; omega
            · have e3 : decide ((t : Int) < 100) = false := by simp; omega
              go_wp2_with fail
              have hl := len_a HY.out
              rw [countK_zero fun i _ => HN.out i] at hl
              with_reducible refine hl.mono ?_
              rintro e w7 ⟨rfl, h7⟩
              have H7 := Lib.hid h7
              clear h7 HY hl
              go_wp2_with fail
              go_roundw
              case rel => exact ⟨k + 1, by omega, by omega, by go_num, Lib.hid ⟨_, H7.out⟩⟩
              case measure => simp [intOf]; omega
        · have HF := Lib.hid hf
          have hj := hK.heap.lt hf.1
          clear hf hK
          go_wp2_with fail
          with_reducible refine (fst_s HK.out HF.out).mono ?_
          rintro e w6 ⟨rfl, h6⟩
          have H6 := Lib.hid h6
          clear h6 HK
          go_wp2_with fail
          go_loopw [10, 11] (fun q m wr => ∃ t : Nat, t ≤ 100 ∧ m = .int .i64 t ∧ q = .int .i64 (countK t K) ∧ Hid (At w1 wr p 100 K)) (fun _ m _ => 100 - (intOf m).toNat)
          case atStart => exact ⟨0, by omega, rfl, rfl, H6⟩
          case round =>
            obtain ⟨t, ht, rfl, rfl, HY⟩ := hrel
            clear H6
            have hct := countK_le t K
            by_cases hlt : t < 100
            · have e3 : decide ((t : Int) < 100) = true := by simp; omega
              cases hKt : K t with
              | none =>
                have HT := Lib.hid hKt
                clear hKt
                go_wp2_with fail
                with_reducible refine (key_n HY.out (by rw [getK_nat]; exact HT.out)).mono ?_
                rintro e w7 ⟨rfl, h7⟩
                have H7 := Lib.hid h7
                clear h7 HY
                go_wp2_with fail
                go_roundw
                case rel => exact ⟨t + 1, by omega, by go_num, by rw [countK_succ, HT.out]; rfl, H7⟩
                case measure => simp [intOf]; omega
              | some y =>
                have HT := Lib.hid hKt
                have hle := HF.out.2 t y hKt
                clear hKt
                have e4 : decide (y < x) = false := by simp; omega
                have hex : (y == x) = false ∨ (y == x) = true ∧ decide (t < j) = false := by
                  by_cases e : y = x
                  · right; simp [e]; omega
                  · left; simp [e]
                clear hle
                go_wp2_with fail
                with_reducible refine (key_s HY.out (by rw [getK_nat]; exact HT.out)).mono ?_
                rintro e w7 ⟨rfl, h7⟩
                have H7 := Lib.hid h7
                clear h7 HY
                rcases hex with e5 | ⟨e5, e6⟩
                all_goals
                  go_wp2_with fail
                  go_roundw
                  case rel => exact ⟨t + 1, by omega, by go_num, by rw [countK_succ, HT.out]; rfl, H7⟩
                  case measure => simp [intOf]; omega
            · have e3 : decide ((t : Int) < 100) = false := by simp; omega
              have et : t = 100 := by omega
              subst et
              have hpos := countK_pos hj HF.out.1
              go_wp2_with fail
              with_reducible refine (len_a HY.out).mono ?_
              rintro e w7 ⟨rfl, h7⟩
              have H7 := Lib.hid h7
              clear h7 HY
              go_wp2_with fail
              go_roundw
              case rel => exact ⟨k + 1, by omega, by omega, by go_num, Lib.hid ⟨_, H7.out⟩⟩
              case measure => simp [intOf]; omega
    · have hex : (decide (k < l.length) = true ∧ decide ((k : Int) < 60) = false) ∨ decide (k < l.length) = false := by
        by_cases h : k < l.length
        · left; simp; omega
        · right; simpa using h
      clear hlt
      rcases hex with ⟨e1, e2⟩ | e1
      all_goals
        go_wp2_with fail
        go_ret
        obtain ⟨K0, hK0⟩ := HX.out
        exact ⟨rfl, F1.out.trans hK0.frm⟩
end Go.Proofs.Yteclboaeoohfoaa
