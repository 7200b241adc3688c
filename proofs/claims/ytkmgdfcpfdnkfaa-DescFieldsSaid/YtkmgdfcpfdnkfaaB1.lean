/- Loops over bytes: Check, Same, get. -/
import Derived.Test.YtkmgdfcpfdnkfaaMth
import Derived.Test.YtkmgdfcpfdnkfaaBase
import Derived.Laws.BytesArg
import Derived.Laws.BitsAllLaws
import Derived.Lib.Bytes
namespace Go.Proofs.Ytkmgdfcpfdnkfaa
open Go.RowKit
def enc1 (x : Nat) : List Value := [.int .u8 (x : Int)]
theorem enc1_len (x : Nat) : (enc1 x).length = 1 := rfl
/-- A slice of bytes. -/
structure Byt (w : World) (A : Option Addr) (l : List Nat) : Prop where
  at_ : RowsAt w A 1 enc1 l
  lt : ∀ x ∈ l, x < 256
theorem Byt.cell {w : World} {A : Option Addr} {l : List Nat} (h : Byt w A l) {k x : Nat} (hx : l[k]? = some x) : ∃ b off, A = some ⟨b, off, none⟩ ∧ b < w.heap.size ∧ w.cell? ⟨b, off + k, none⟩ = some (.int .u8 (x : Int)) := by
  have hk := (List.getElem?_eq_some_iff.1 hx).1
  obtain ⟨b, off, rfl, hb, hc⟩ := h.at_.at_ (by omega)
  have := hc k x hx 0 _ rfl
  simp only [Nat.mul_one, Nat.add_zero] at this
  exact ⟨b, off, rfl, hb, this⟩
theorem Byt.via {S : Nat → Prop} {w w' : World} {A : Option Addr} {l : List Nat} (h : Byt w A l) (hf : Frm S w w') (hs : ∀ b off, A = some ⟨b, off, none⟩ → ¬ S b) : Byt w' A l := ⟨h.at_.via hf hs, h.lt⟩
theorem Byt.keep {w w' : World} {A : Option Addr} {l : List Nat} (h : Byt w A l) (hf : Frm (fun _ => False) w w') : Byt w' A l := h.via hf fun _ _ _ => id
theorem Byt.get {w : World} {A : Option Addr} {l : List Nat} (h : Byt w A l) {k x : Nat} (hx : l[k]? = some x) : x < 256 := h.lt x (List.mem_of_getElem? hx)
theorem ret_b {a b : Bool} (h : a = b) : Ending.returned (.bool a) = .returned (.bool b) := by rw [h]
theorem ret_i {k : IntKind} {a b : Int} (h : a = b) : Ending.returned (.int k a) = .returned (.int k b) := by rw [h]
theorem i64_or_nat (a b : Nat) (h : a ||| b < 9223372036854775808) (ha : a < 18446744073709551616) (hb : b < 18446744073709551616) : bits .or .i64 (a : Int) (b : Int) = ((a ||| b : Nat) : Int) := by
  show IntKind.i64.wrap ((BitVec.ofInt 64 (a : Int) ||| BitVec.ofInt 64 (b : Int)).toNat : Int) = _
  rw [BitVec.toNat_or, ofInt_u64 a ha, ofInt_u64 b hb]
  exact IntWalk.i64_in _ (by omega)
theorem chk_le {l : List Nat} (h : ∀ x ∈ l, x < 256) (h4 : l.length ≤ 4000) (k : Nat) : wsum 0 (l.take k) ≤ 4080000000 := by
  have hl : (l.take k).length ≤ l.length := by simp [List.length_take]; omega
  have := wsum_le (l.take k) 0 4000 (fun x hx => h x (List.mem_of_mem_take hx)) (by omega)
  exact Nat.le_trans this (Nat.mul_le_mul_right (4000 * 255) (show (l.take k).length ≤ 4000 by omega))
theorem chk_step {S k x : Nat} (hS : S ≤ 4080000000) (hk : k < 4000) (hx : x < 256) : IntKind.u64.wrap ((S : Int) + IntKind.u64.wrap (((k : Int) + 1) * (x : Int))) = ((S + (k + 1) * x : Nat) : Int) := by
  have h1 : (k + 1) * x ≤ 4000 * 255 := Nat.mul_le_mul (by omega) (by omega)
  have h2 : (((k + 1) * x : Nat) : Int) = ((k : Int) + 1) * (x : Int) := by rw [Int.natCast_mul]; rfl
  rw [← h2, IntKind.wrap_u64, IntKind.wrap_u64]
  omega
theorem rchk_step {S k x : Nat} (hk : k < 4000) (hx : x < 256) : (wrap64 (((S % 16777216 : Nat) : Int) + wrap64 (((k : Int) + 1) * (x : Int)))).tmod 16777216 = (((S + (k + 1) * x) % 16777216 : Nat) : Int) := by
  have h1 : (k + 1) * x ≤ 4000 * 255 := Nat.mul_le_mul (by omega) (by omega)
  have h2 : (((k + 1) * x : Nat) : Int) = ((k : Int) + 1) * (x : Int) := by rw [Int.natCast_mul]; rfl
  have h3 : S % 16777216 < 16777216 := Nat.mod_lt _ (by decide)
  rw [← h2, IntWalk.wrap64_in ((((k + 1) * x : Nat) : Int)) ⟨by omega, by omega⟩, IntWalk.wrap64_in _ ⟨by omega, by omega⟩, Int.tmod_eq_emod_of_nonneg (by omega)]
  omega
theorem num_take {l : List Nat} (h : ∀ x ∈ l, x < 256) {k : Nat} (h4 : l.length ≤ 4) (hk : k < l.length) : num (l.take k) < 16777216 := by
  have := num_lt (l.take k) (fun x hx => h x (List.mem_of_mem_take hx)) 0
  have hl : (l.take k).length ≤ 3 := by simp [List.length_take]; omega
  have := Nat.pow_le_pow_right (show 0 < 256 by decide) hl
  unfold num; omega
theorem num_take_succ {l : List Nat} {k x : Nat} (h : l[k]? = some x) : num (l.take (k + 1)) = num (l.take k) * 256 + x := by
  rw [List.take_add_one, h]; exact num_snoc _ _
theorem get_step {v x : Nat} (hv : v < 16777216) (hx : x < 256) : bits .or .i64 (wrap64 ((v : Int) * 256)) (x : Int) = ((v * 256 + x : Nat) : Int) := by
  rw [IntWalk.wrap64_in _ ⟨by omega, by omega⟩]
  have h1 : v * 256 + x = v * 256 ||| x := by
    have := Nat.two_pow_add_eq_or_of_lt (i := 8) (b := x) (by omega) v
    rw [show (2 : Nat) ^ 8 = 256 by decide, Nat.mul_comm] at this
    exact this
  have := i64_or_nat (v * 256) x (by omega) (by omega) (by omega)
  rw [← h1] at this
  rw [← this]; congr 1
theorem rnum_step {v x : Nat} (hv : v < 16777216) (hx : x < 256) : wrap64 (wrap64 ((v : Int) * 256) + (x : Int)) = ((v * 256 + x : Nat) : Int) := by
  rw [IntWalk.wrap64_in ((v : Int) * 256) ⟨by omega, by omega⟩, IntWalk.wrap64_in _ ⟨by omega, by omega⟩]
  omega
theorem chk_ret (S : Nat) : (bits .and .u64 (S : Int) 16777215) % 4294967296 = ((S % 16777216 : Nat) : Int) ∨ 18446744073709551616 ≤ S := by
  by_cases h : S < 18446744073709551616
  · refine .inl ?_
    have := u64_and_nat S 16777215 h (by decide)
    have e : S &&& 16777215 = S % 16777216 := Nat.and_two_pow_sub_one_eq_mod S 24
    rw [e] at this
    rw [show (16777215 : Int) = ((16777215 : Nat) : Int) by rfl, this]
    have : S % 16777216 < 16777216 := Nat.mod_lt _ (by decide)
    omega
  · exact .inr (by omega)
set_option maxHeartbeats 1000000 in
theorem check_c (w : World) (A : Option Addr) (c : Nat) (l : List Nat) (hl : Byt w A l) (h4 : l.length ≤ 4000) :
    Calls Try.prog 17 #[.slice A l.length c] w fun e w' => e = .returned (.int .u32 (chk l : Nat)) ∧ w = w' := by
  have HL := Lib.hid hl
  clear hl
  go_enter Try.func17, Try.ntmps17
  go_wp2_with fail
  go_loop [3, 8] (fun s i => ∃ k : Nat, k ≤ l.length ∧ i = .int .i64 k ∧ s = .int .u64 (wsum 0 (l.take k) : Nat)) (fun _ i => l.length - (intOf i).toNat)
  case atStart => exact ⟨0, by omega, rfl, rfl⟩
  case round =>
    obtain ⟨k, hk, rfl, rfl⟩ := hrel
    by_cases hlt : k < l.length
    · have hd : decide (k < l.length) = true := by simpa using hlt
      obtain ⟨x, hx⟩ : ∃ x, l[k]? = some x := ⟨_, List.getElem?_eq_getElem hlt⟩
      obtain ⟨b, off, rfl, hb, hc⟩ := HL.out.cell hx
      have hx8 := HL.out.get hx
      have HW := Lib.hid (wsum_take_succ hx)
      clear hx
      go_wp2_with fail
      go_round
      case rel => exact ⟨k + 1, by omega, by go_num, by rw [HW.out, chk_step (chk_le HL.out.lt h4 k) (by omega) hx8]⟩
      case measure => simp [intOf]; omega
    · have hd : decide (k < l.length) = false := by simpa using hlt
      have HK := Lib.hid (show k = l.length by omega)
      go_wp2_with fail
      go_ret
      refine ⟨ret_i ?_, rfl⟩
      have h1 := chk_le HL.out.lt h4 k
      rcases chk_ret (wsum 0 (l.take k)) with h | h
      · rw [h, HK.out, List.take_length]; rfl
      · omega
set_option maxHeartbeats 1000000 in
theorem rcheck_c (w : World) (A : Option Addr) (c : Nat) (l : List Nat) (hl : Byt w A l) (h4 : l.length ≤ 4000) :
    Calls Try.prog 18 #[.slice A l.length c] w fun e w' => e = .returned (.int .u32 (chk l : Nat)) ∧ w = w' := by
  have HL := Lib.hid hl
  clear hl
  go_enter Try.func18, Try.ntmps18
  go_wp2_with fail
  go_loop [3, 4] (fun s i => ∃ k : Nat, k ≤ l.length ∧ i = .int .i64 k ∧ s = .int .i64 (chk (l.take k) : Nat)) (fun _ i => l.length - (intOf i).toNat)
  case atStart => exact ⟨0, by omega, rfl, rfl⟩
  case round =>
    obtain ⟨k, hk, rfl, rfl⟩ := hrel
    by_cases hlt : k < l.length
    · have hd : decide (k < l.length) = true := by simpa using hlt
      obtain ⟨x, hx⟩ : ∃ x, l[k]? = some x := ⟨_, List.getElem?_eq_getElem hlt⟩
      obtain ⟨b, off, rfl, hb, hc⟩ := HL.out.cell hx
      have hx8 := HL.out.get hx
      have HW := Lib.hid (wsum_take_succ hx)
      clear hx
      go_wp2_with fail
      go_round
      case rel => exact ⟨k + 1, by omega, by go_num, by unfold chk; rw [HW.out, rchk_step (by omega) hx8]⟩
      case measure => simp [intOf]; omega
    · have hd : decide (k < l.length) = false := by simpa using hlt
      have HK := Lib.hid (show k = l.length by omega)
      go_wp2_with fail
      go_ret
      refine ⟨ret_i ?_, rfl⟩
      rw [HK.out, List.take_length]
      have : chk l < 16777216 := Nat.mod_lt _ (by decide)
      omega
set_option maxHeartbeats 1000000 in
theorem get_c (w : World) (A : Option Addr) (c : Nat) (l : List Nat) (hl : Byt w A l) (h4 : l.length ≤ 4) :
    Calls Try.prog 23 #[.slice A l.length c] w fun e w' => e = .returned (.int .i64 (num l : Nat)) ∧ w = w' := by
  have HL := Lib.hid hl
  clear hl
  go_enter Try.func23, Try.ntmps23
  go_wp2_with fail
  go_loop [3, 8] (fun s i => ∃ k : Nat, k ≤ l.length ∧ i = .int .i64 k ∧ s = .int .i64 (num (l.take k) : Nat)) (fun _ i => l.length - (intOf i).toNat)
  case atStart => exact ⟨0, by omega, rfl, rfl⟩
  case round =>
    obtain ⟨k, hk, rfl, rfl⟩ := hrel
    by_cases hlt : k < l.length
    · have hd : decide (k < l.length) = true := by simpa using hlt
      obtain ⟨x, hx⟩ : ∃ x, l[k]? = some x := ⟨_, List.getElem?_eq_getElem hlt⟩
      obtain ⟨b, off, rfl, hb, hc⟩ := HL.out.cell hx
      have hx8 := HL.out.get hx
      have HW := Lib.hid (num_take_succ hx)
      clear hx
      go_wp2_with fail
      go_round
      case rel => exact ⟨k + 1, by omega, by go_num, by rw [HW.out, get_step (num_take HL.out.lt h4 hlt) hx8]⟩
      case measure => simp [intOf]; omega
    · have hd : decide (k < l.length) = false := by simpa using hlt
      have HK := Lib.hid (show k = l.length by omega)
      go_wp2_with fail
      go_ret
      exact ⟨ret_i (by rw [HK.out, List.take_length]), rfl⟩
set_option maxHeartbeats 1000000 in
theorem rnum_c (w : World) (A : Option Addr) (c : Nat) (l : List Nat) (hl : Byt w A l) (h4 : l.length ≤ 4) :
    Calls Try.prog 25 #[.slice A l.length c] w fun e w' => e = .returned (.int .i64 (num l : Nat)) ∧ w = w' := by
  have HL := Lib.hid hl
  clear hl
  go_enter Try.func25, Try.ntmps25
  go_wp2_with fail
  go_loop [3, 4] (fun s i => ∃ k : Nat, k ≤ l.length ∧ i = .int .i64 k ∧ s = .int .i64 (num (l.take k) : Nat)) (fun _ i => l.length - (intOf i).toNat)
  case atStart => exact ⟨0, by omega, rfl, rfl⟩
  case round =>
    obtain ⟨k, hk, rfl, rfl⟩ := hrel
    by_cases hlt : k < l.length
    · have hd : decide (k < l.length) = true := by simpa using hlt
      obtain ⟨x, hx⟩ : ∃ x, l[k]? = some x := ⟨_, List.getElem?_eq_getElem hlt⟩
      obtain ⟨b, off, rfl, hb, hc⟩ := HL.out.cell hx
      have hx8 := HL.out.get hx
      have HW := Lib.hid (num_take_succ hx)
      clear hx
      go_wp2_with fail
      go_round
      case rel => exact ⟨k + 1, by omega, by go_num, by rw [HW.out, rnum_step (num_take HL.out.lt h4 hlt) hx8]⟩
      case measure => simp [intOf]; omega
    · have hd : decide (k < l.length) = false := by simpa using hlt
      have HK := Lib.hid (show k = l.length by omega)
      go_wp2_with fail
      go_ret
      exact ⟨ret_i (by rw [HK.out, List.take_length]), rfl⟩
/-- The same bytes? -/
theorem same_c (w : World) (A B : Option Addr) (c c' : Nat) (l l' : List Nat) (hA : Byt w A l) (hB : Byt w B l') :
    Calls Try.prog 13 #[.slice A l.length c, .slice B l'.length c'] w fun e w' => e = .returned (.bool (decide (l = l'))) ∧ Frm (fun _ => False) w w' := by
  have HA := Lib.hid hA
  have HB := Lib.hid hB
  have hlen := hA.at_.len
  have hlen' := hB.at_.len
  clear hA hB
  by_cases hne : l.length = l'.length
  · have e0 : ((l.length : Int) != (l'.length : Int)) = false := by simp [hne]
    have e0' : ((l.length : Int) == (l'.length : Int)) = true := by simp [hne]
    have HNE := Lib.hid hne
    have hle : l.length ≤ l'.length := by omega
    have hge : l'.length ≤ l.length := by omega
    clear hne
    go_enter Try.func13, Try.ntmps13
    go_wp2_with fail
    go_loopw [5] (fun i wr => ∃ k : Nat, k ≤ l.length ∧ i = .int .i64 k ∧ Hid (l.take k = l'.take k) ∧ Frm (fun _ => False) w wr) (fun i _ => l.length - (intOf i).toNat)
    case atStart => exact ⟨0, by omega, rfl, Lib.hid rfl, Frm.refl _ _⟩
    case round =>
      obtain ⟨k, hk, rfl, HT, hf⟩ := hrel
      have HF := Lib.hid hf
      clear hf
      by_cases hlt : k < l.length
      · have hd : decide (k < l.length) = true := by simpa using hlt
        obtain ⟨x, hx⟩ : ∃ x, l[k]? = some x := ⟨_, List.getElem?_eq_getElem hlt⟩
        obtain ⟨y, hy⟩ : ∃ y, l'[k]? = some y := ⟨_, List.getElem?_eq_getElem (by omega)⟩
        obtain ⟨b, off, rfl, hb, hc⟩ := HA.out.cell hx
        obtain ⟨b', off', rfl, hb', hc'⟩ := HB.out.cell hy
        have x0 := HF.out.cell hb id hc
        have y0 := HF.out.cell hb' id hc'
        have m1 : (k : Int) < (l.length : Int) := by omega
        have m2 : (k : Int) < (l'.length : Int) := by omega
        have HX := Lib.hid hx
        have HY := Lib.hid hy
        clear hc hc' hx hy
        by_cases hxy : x = y
        · subst hxy
          go_wp2_with fail
          go_quiet (fail)
          go_wp2_with fail
          go_roundw
          case rel => exact ⟨k + 1, by omega, by go_num, Lib.hid (by rw [List.take_add_one, List.take_add_one, HX.out, HY.out, HT.out]), HF.out.drewN _⟩
          case measure => simp [intOf]; omega
        · have e1 : ((x : Int) != (y : Int)) = true := by simp; omega
          have e1' : ((x : Int) == (y : Int)) = false := by simp; omega
          have hnn : ¬ l = l' := fun e => by
            have h1 := HX.out
            rw [e, HY.out] at h1
            injection h1 with h1
            exact hxy h1.symm
          have HNN := Lib.hid (show decide (l = l') = false by simpa using hnn)
          clear hxy hnn
          go_wp2_with fail
          go_quiet (fail)
          go_wp2_with fail
          go_ret
          exact ⟨ret_b HNN.out.symm, HF.out.drewN _⟩
      · have hd : decide (k < l.length) = false := by simpa using hlt
        have HEQ : Hid (decide (l = l') = true) := by
          have h1 := HT.out
          rw [List.take_of_length_le (by omega), List.take_of_length_le (by omega)] at h1
          exact Lib.hid (by simpa using h1)
        go_wp2_with fail
        go_ret
        exact ⟨ret_b HEQ.out.symm, HF.out⟩
  · have e0 : ((l.length : Int) != (l'.length : Int)) = true := by simp; omega
    have e0' : ((l.length : Int) == (l'.length : Int)) = false := by simp; omega
    have HNN := Lib.hid (show decide (l = l') = false by simp; rintro rfl; exact hne rfl)
    clear hne
    go_enter Try.func13, Try.ntmps13
    go_wp2_with fail
    go_ret
    exact ⟨ret_b HNN.out.symm, Frm.refl _ _⟩
theorem conv_b (w : World) (A : Option Addr) (c : Nat) (l : List Nat) (h : Byt w A l) : (convert 28 9 (.slice A l.length c)).run Try.prog w = .ok (.string (strOfNums (l.map Int.ofNat))) w := by
  by_cases hl : 0 < l.length
  · obtain ⟨b, off, rfl, hb, hc⟩ := h.at_.at_ hl
    refine run_convert_bytes_arg (P := Try.prog) w 28 5 Try.underlying28 Try.underlying5 b off l.length c (l.map Int.ofNat) (by simp) (fun i hi => ?_) 9 Try.underlying9
    have := hc i _ (List.getElem?_eq_getElem hi) 0 _ rfl
    simp only [Nat.mul_one, Nat.add_zero] at this
    rw [this]
    simp [List.getD, hi]
  · obtain rfl : l = [] := List.eq_nil_of_length_eq_zero (by omega)
    cases A with
    | none => exact run_convert_bytes_nil (P := Try.prog) w 28 5 Try.underlying28 Try.underlying5 0 c 9 Try.underlying9
    | some a =>
      rw [run_convert_bytes_string w 28 9 5 _ _ c Try.underlying28 Try.underlying5 Try.underlying9]
      simp [Conv.bytesToString, strOfNums]
      rfl
theorem bytes_eq {l l' : List Nat} (h : ∀ x ∈ l, x < 256) (h' : ∀ x ∈ l', x < 256) : (Lib.bytesOf (l.map Int.ofNat) == Lib.bytesOf (l'.map Int.ofNat)) = decide (l = l') := by
  have e : ∀ m : List Nat, (∀ x ∈ m, x < 256) → (Lib.bytesOf (m.map Int.ofNat)).map UInt8.toNat = m := by
    intro m hm
    induction m with
    | nil => rfl
    | cons a m ih =>
      have ha := hm a (by simp)
      have := ih fun x hx => hm x (by simp [hx])
      simp only [Lib.bytesOf, List.map_cons] at this ⊢
      rw [this]
      congr 1
      simp
      omega
  rw [Bool.eq_iff_iff]
  simp only [beq_iff_eq, decide_eq_true_eq]
  constructor
  · intro hh
    rw [← e l h, ← e l' h', hh]
  · rintro rfl; rfl
theorem equal_c (w : World) (A B : Option Addr) (c c' : Nat) (l l' : List Nat) (hA : Byt w A l) (hB : Byt w B l') :
    Calls Try.prog 24 #[.slice A l.length c, .slice B l'.length c'] w fun e w' => e = .returned (.bool (decide (l = l'))) ∧ w = w' := by
  have h1 := conv_b w A c l hA
  have h2 := conv_b w B c' l' hB
  have HE := Lib.hid (bytes_eq hA.lt hB.lt)
  clear hA hB
  go_enter Try.func24, Try.ntmps24
  go_wp2_with fail
  go_ret
  exact ⟨ret_b (by rw [Lib.strOfNums_toList, Lib.strOfNums_toList]; exact HE.out), rfl⟩
end Go.Proofs.Ytkmgdfcpfdnkfaa
