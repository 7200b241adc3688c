/- DescCheck: the walk. -/
import Derived.Test.YtkmgdfcpfdnkfaaTurn
import Derived.Deep.DeepCutAuto
namespace Go.Proofs.Ytkmgdfcpfdnkfaa
open Go.RowKit
theorem wsum_le200 {l : List Nat} (h : ∀ x ∈ l, x < 256) (hl : l.length ≤ 200) : wsum 0 l ≤ 10200000 := by
  have := wsum_le l 0 200 h (by omega)
  exact Nat.le_trans this (Nat.mul_le_mul_right (200 * 255) hl)
/-- With one byte another one, the check is another one. -/
theorem chk_set {l : List Nat} (h : ∀ x ∈ l, x < 256) (hl : l.length ≤ 200) {k x y : Nat} (hx : l[k]? = some x) (hy : y < 256) : (chk (l.set k y) = chk l) ↔ y = x := by
  have h1 := wsum_le200 h hl
  have h2 := wsum_le200 (l := l.set k y) (set_lt h hy) (by simpa using hl)
  have hw := wsum_set l 0 k x y hx
  unfold chk
  rw [Nat.mod_eq_of_lt (by omega), Nat.mod_eq_of_lt (by omega)]
  rw [Nat.zero_add] at hw
  constructor
  · intro e
    rw [e] at hw
    exact (Nat.eq_of_mul_eq_mul_left (show 0 < k + 1 by omega) (show (k + 1) * x = (k + 1) * y by omega)).symm
  · rintro rfl
    rw [set_same hx]
/-- With two that stand beside one another changed, too, but for alike ones. -/
theorem chk_swap {l : List Nat} (h : ∀ x ∈ l, x < 256) (hl : l.length ≤ 200) {k x y : Nat} (hx : l[k]? = some x) (hy : l[k + 1]? = some y) : (chk ((l.set k y).set (k + 1) x) = chk l) ↔ x = y := by
  have hx8 := h x (List.mem_of_getElem? hx)
  have hy8 := h y (List.mem_of_getElem? hy)
  have h1 := wsum_le200 h hl
  have h2 := wsum_le200 (l := (l.set k y).set (k + 1) x) (set_lt (set_lt h hy8) hx8) (by simpa using hl)
  have hw := wsum_set l 0 k x y hx
  have hw2 := wsum_set (l.set k y) 0 (k + 1) y x (by rw [List.getElem?_set_ne (by omega)]; exact hy)
  unfold chk
  rw [Nat.mod_eq_of_lt (by omega), Nat.mod_eq_of_lt (by omega)]
  rw [Nat.zero_add] at hw hw2
  have e1 : (k + 1 + 1) * x = (k + 1) * x + x := Nat.succ_mul _ _
  have e2 : (k + 1 + 1) * y = (k + 1) * y + y := Nat.succ_mul _ _
  constructor
  · intro e; omega
  · rintro rfl; omega
set_option maxRecDepth 100000 in
set_option maxHeartbeats 4000000 in
theorem dcheck_out (w : World) (A : Option Addr) (c : Nat) (l : List Nat) (a b : Nat) (hlen : l.length ≤ 9223372036854775807) (h : 200 < l.length ∨ l.length < 2) :
    Calls Try.prog 7 #[.slice A l.length c, .int .u8 a, .int .u8 b] w fun e w' => e = .returned (.bool true) ∧ Frm (fun _ => False) w w' := by
  by_cases h2 : 200 < l.length
  · have e0 : decide ((200 : Int) < l.length) = true := by simp; omega
    clear h
    go_enter Try.func7, Try.ntmps7
    go_wp2_with fail
    refine (awake_c _).mono ?_
    rintro e w1 ⟨rfl, hf1⟩
    go_wp2_with fail
    go_ret
    exact ⟨rfl, hf1⟩
  · have e0 : decide ((200 : Int) < l.length) = false := by simp; omega
    have e1 : decide ((l.length : Int) < 2) = true := by simp; omega
    clear h
    go_enter Try.func7, Try.ntmps7
    go_wp2_with fail
    refine (awake_c _).mono ?_
    rintro e w1 ⟨rfl, hf1⟩
    go_wp2_with fail
    go_ret
    exact ⟨rfl, hf1⟩
set_option maxRecDepth 100000 in
set_option maxHeartbeats 8000000 in
theorem dcheck_in (w : World) (A : Option Addr) (c : Nat) (l : List Nat) (a b : Nat) (ha : a < 256) (hb : b < 256) (hl : Byt w A l) (hn : A = none → c = 0) (h2 : 2 ≤ l.length) (h200 : l.length ≤ 200) :
    Calls Try.prog 7 #[.slice A l.length c, .int .u8 a, .int .u8 b] w fun e w' => e = .returned (.bool true) ∧ Frm (fun _ => False) w w' := by
  have e0 : decide ((200 : Int) < l.length) = false := by simp; omega
  have e1 : decide ((l.length : Int) < 2) = false := by simp; omega
  obtain ⟨b0, off, hA, hb0, _⟩ := hl.at_.at_ (by omega)
  subst hA
  obtain ⟨i, hi, ei⟩ : ∃ i : Nat, i < l.length ∧ (a : Int) % (l.length : Int) = (i : Int) := ⟨a % l.length, Nat.mod_lt _ (by omega), by simp⟩
  obtain ⟨k, hk, ek⟩ : ∃ k : Nat, k + 1 < l.length ∧ (a : Int) % ((l.length : Int) - 1) = (k : Int) := ⟨a % (l.length - 1), by have := Nat.mod_lt a (show 0 < l.length - 1 by omega); omega, by rw [show (l.length : Int) - 1 = ((l.length - 1 : Nat) : Int) by omega]; simp⟩
  obtain ⟨x, hx⟩ : ∃ x, l[i]? = some x := ⟨_, List.getElem?_eq_getElem hi⟩
  obtain ⟨y, hy⟩ : ∃ y, l[k]? = some y := ⟨_, List.getElem?_eq_getElem (by omega)⟩
  obtain ⟨z, hz⟩ : ∃ z, l[k + 1]? = some z := ⟨_, List.getElem?_eq_getElem (by omega)⟩
  have hx8 := hl.get hx
  have hy8 := hl.get hy
  have hz8 := hl.get hz
  have hxb : x ^^^ b < 256 := Nat.xor_lt_two_pow (n := 8) hx8 hb
  have hc1 : ((chk (l.set i (x ^^^ b)) : Int) == (chk l : Int)) = ((b : Int) == 0) := by
    rw [Bool.eq_iff_iff]
    simp only [beq_iff_eq]
    rw [show ((chk (l.set i (x ^^^ b)) : Int) = (chk l : Int)) ↔ (chk (l.set i (x ^^^ b)) = chk l) by omega, chk_set hl.lt h200 hx hxb]
    exact ⟨fun h => by rw [xor_fix h]; rfl, fun e => by rw [show b = 0 by omega, Nat.xor_zero]⟩
  have hc2 : ((chk ((l.set k z).set (k + 1) y) : Int) == (chk l : Int)) = ((y : Int) == (z : Int)) := by
    rw [Bool.eq_iff_iff]
    simp only [beq_iff_eq]
    rw [show ((chk ((l.set k z).set (k + 1) y) : Int) = (chk l : Int)) ↔ (chk ((l.set k z).set (k + 1) y) = chk l) by omega, chk_swap hl.lt h200 hy hz]
    omega
  have HL := Lib.hid hl
  have HLT := Lib.hid hl.lt
  have HN := Lib.hid hn
  have HX := Lib.hid hx
  have HY := Lib.hid hy
  have HZ := Lib.hid hz
  have hxr := u8_xor_nat x b hx8 hb
  have HLC := Lib.hid (set_lt (i := i) hl.lt hxb)
  have HLD := Lib.hid (set_lt (i := k + 1) (set_lt (i := k) hl.lt hz8) hy8)
  have HKK : Hid (l.length < 1000000) := Lib.hid (by omega)
  generalize hx' : x ^^^ b = x' at *
  generalize hs1 : ((b : Int) == 0) = s1 at *
  generalize hs2 : ((y : Int) == (z : Int)) = s2 at *
  have HC1 := Lib.hid hc1
  have HC2 := Lib.hid hc2
  have k0 : (0 : Int) ≤ (k : Int) := by omega
  have k1 : (k : Int) < (l.length : Int) := by omega
  have k2 : (k : Int) + 1 < (l.length : Int) := by omega
  have i1 : (i : Int) < (l.length : Int) := by omega
  clear hl hn hx hy hz hxb hc1 hc2 hx'
  go_enter Try.func7, Try.ntmps7
  go_wp2_with fail
  refine (awake_c _).mono ?_
  rintro e w1 ⟨rfl, hf1⟩
  have F1 := Lib.hid hf1
  have HT := Lib.hid (check_c w1 (some ⟨b0, off, none⟩) c l (HL.out.keep hf1) (by omega))
  have BI := Lib.hid ((HL.out.keep hf1).keep ((Frm.refl _ _).alloc (.cells #[] 5)))
  have EO := Lib.hid (empty_own w1 w1.heap.size (Nat.le_refl _))
  clear hf1
  go_wp2_with fail
  refine HT.out.mono ?_
  rintro e w2 ⟨rfl, rfl⟩
  go_upto_region 10 with (at_builtin; refine append_copy _ rfl (.tmp 29) (.tmp 30) rfl w1.heap.size _ rfl EO.out _ c l rfl BI.out HN.out HKK.out (size_le (Nat.le_refl _) _) ?_; intro v3 w3 hown3 hf3 hr3; obtain ⟨A3, c3, hv3, _, hc3, _, _, hg3⟩ := hown3.open2 HLT.out; obtain ⟨g3, hA3⟩ := hg3 (by omega); subst hA3; subst hv3; have O3 := Lib.hid hown3; have F3 : Hid (Frm (fun _ => False) w w3) := Lib.hid (F1.out.trans (((Frm.refl (fun k => w1.heap.size ≤ k) w1).alloc (.cells #[] 5)).trans (hf3.mono fun i _ e => (World.ownsRow.lt EO.out i e).1)).down); obtain ⟨q3, r3⟩ := hown3.cell rfl HX.out; clear hown3 hf3 hr3)
  have O4 := O3.out.setn rfl i x'
  have F4 := F3.out.setCell (p := ⟨g3, i, none⟩) (.inr (show w.heap.size ≤ g3 by have := (World.ownsRow.lt O3.out g3 rfl).1; have := F1.out.size; omega)) (.int .u8 (x' : Int))
  have hg3 := (World.ownsRow.lt O4 g3 rfl)
  generalize hw4 : w3.setCell ⟨g3, i, none⟩ (.int .u8 (x' : Int)) = w4 at *
  have OW4 := Lib.hid O4
  have FW4 := Lib.hid F4
  have BI4 := Lib.hid ((HL.out.keep F4).keep ((Frm.refl _ _).alloc (.cells #[] 5)))
  have EO4 := Lib.hid (empty_own w4 w4.heap.size (Nat.le_refl _))
  obtain ⟨b0', off', eA, _, cy⟩ := HL.out.cell HY.out
  simp only [Option.some.injEq, Addr.mk.injEq] at eA
  obtain ⟨rfl, rfl, _⟩ := eA
  obtain ⟨b0', off', eA, _, cz⟩ := HL.out.cell HZ.out
  simp only [Option.some.injEq, Addr.mk.injEq] at eA
  obtain ⟨rfl, rfl, _⟩ := eA
  have CY := Lib.hid cy
  have CZ := Lib.hid cz
  clear O4 F4 hw4 q3 r3 BI EO HT F3 O3 cy cz
  go_upto_region 11 with (at_builtin; refine append_copy _ rfl (.tmp 47) (.tmp 48) rfl w4.heap.size _ rfl EO4.out _ c l rfl BI4.out HN.out HKK.out (size_le (Nat.le_refl _) _) ?_; intro v5 w5 hown5 hf5 hr5; obtain ⟨A5, c5, hv5, _, hc5, _, _, hg5⟩ := hown5.open2 HLT.out; obtain ⟨g5, hA5⟩ := hg5 (by omega); subst hA5; subst hv5; have O5 := Lib.hid hown5; have hx5 : Frm (fun k => w4.heap.size ≤ k) w4 w5 := (((Frm.refl (fun k => w4.heap.size ≤ k) w4).alloc (.cells #[] 5)).trans (hf5.mono fun i _ e => (World.ownsRow.lt EO4.out i e).1)); have X5 := Lib.hid hx5; have F5 : Hid (Frm (fun _ => False) w w5) := Lib.hid (FW4.out.trans hx5.down); clear hown5 hf5 hr5 hx5)
  have hg5 := (World.ownsRow.lt O5.out g5 rfl)
  have OC5 := Lib.hid (OW4.out.frm X5.out (fun j hj => by simp only [Value.ownBlock, Option.some.injEq] at hj; subst hj; omega))
  obtain ⟨p0, p1⟩ := O5.out.cell rfl HY.out
  obtain ⟨p2, p3⟩ := O5.out.cell rfl HZ.out
  have t0 := F5.out.cell hb0 id CY.out
  have t1 := F5.out.cell hb0 id CZ.out
  have nb : b0 ≠ g5 := by have := FW4.out.size; omega
  have S5 := (O5.out.setn rfl k z).setn (by simp) (k + 1) y
  have SC5 := Lib.hid ((OC5.out.frm ((Frm.refl (fun j => j = g5) w5).setCell (p := ⟨g5, k, none⟩) (.inl rfl) (.int .u8 (z : Int))) (fun j hj => by simp only [Value.ownBlock, Option.some.injEq] at hj; omega)).frm ((Frm.refl (fun j => j = g5) _).setCell (p := ⟨g5, k + 1, none⟩) (.inl rfl) (.int .u8 (y : Int))) (fun j hj => by simp only [Value.ownBlock, Option.some.injEq] at hj; omega))
  have SF5 := Lib.hid ((F5.out.setCell (p := ⟨g5, k, none⟩) (.inr (show w.heap.size ≤ g5 by have := FW4.out.size; omega)) (.int .u8 (z : Int))).setCell (p := ⟨g5, k + 1, none⟩) (.inr (show w.heap.size ≤ g5 by have := FW4.out.size; omega)) (.int .u8 (y : Int)))
  have HS5 := Lib.hid S5
  clear S5
  go_upto_region 13 with (fail)
  generalize hw6 : (w5.setCell ⟨g5, k, none⟩ (.int .u8 (z : Int))).setCell ⟨g5, k + 1, none⟩ (.int .u8 (y : Int)) = w6 at *
  obtain ⟨bc, nc, kc⟩ := SC5.out.byt HLC.out
  obtain ⟨bd, nd, kd⟩ := HS5.out.byt HLD.out
  have TC : Hid (∀ W, Frm (fun _ => False) w6.drew W → Calls Try.prog 17 #[.slice (some ⟨g3, 0, none⟩) l.length c3] W fun e w' => e = .returned (.int .u32 (chk (l.set i x') : Nat)) ∧ W = w') := Lib.hid fun W h => by
    have := check_c W _ c3 _ ((bc.keep (Frm.refl _ _).drew).keep h) (by rw [nc]; omega)
    rwa [nc] at this
  have TD : Hid (∀ W, Frm (fun _ => False) w6.drew W → Calls Try.prog 17 #[.slice (some ⟨g5, 0, none⟩) l.length c5] W fun e w' => e = .returned (.int .u32 (chk ((l.set k z).set (k + 1) y) : Nat)) ∧ W = w') := Lib.hid fun W h => by
    have := check_c W _ c5 _ ((bd.keep (Frm.refl _ _).drew).keep h) (by rw [nd]; omega)
    rwa [nd] at this
  have BL6 := Lib.hid (HL.out.keep SF5.out.drew)
  have TS : Hid (∀ W, Frm (fun _ => False) w6.drew W → Calls Try.prog 13 #[.slice (some ⟨b0, off, none⟩) l.length c, .slice (some ⟨b0, off, none⟩) l.length c] W fun e w' => e = .returned (.bool true) ∧ Frm (fun _ => False) W w') := Lib.hid fun W h => by
    have := same_c W _ _ c c l l (BL6.out.keep h) (BL6.out.keep h)
    simpa using this
  have TN : Hid (∀ W, Calls Try.prog 17 #[.slice none 0 0] W fun e w' => e = .returned (.int .u32 0) ∧ W = w') := Lib.hid fun W => check_c W none 0 [] (byt_nil _ _) (by decide)
  have hc1 := HC1.out
  have hc2 := HC2.out
  have u0 : w6.cell? ⟨b0, off + k, none⟩ = some (.int .u8 (y : Int)) := SF5.out.cell hb0 id CY.out
  have u1 : w6.cell? ⟨b0, off + (k + 1), none⟩ = some (.int .u8 (z : Int)) := SF5.out.cell hb0 id CZ.out
  have U : Hid (∀ W, Frm (fun _ => False) w6.drew W → W.cell? ⟨b0, off + k, none⟩ = some (.int .u8 (y : Int)) ∧ W.cell? ⟨b0, off + (k + 1), none⟩ = some (.int .u8 (z : Int))) := Lib.hid fun W h =>
    ⟨(SF5.out.drew.trans h).cell hb0 id CY.out, (SF5.out.drew.trans h).cell hb0 id CZ.out⟩
  have KW : Hid (IntKind.i64.wrap ((k : Int) + 1) = (k : Int) + 1) := IntWalk.i64_in _ (by omega)
  have kw := KW.out
  have k3 : ((k : Int) + 1).toNat = k + 1 := by omega
  have k4 : (0 : Int) ≤ (k : Int) + 1 := by omega
  generalize chk (l.set i x') = P1 at *
  generalize chk ((l.set k z).set (k + 1) y) = P2 at *
  have FR := Lib.hid (Frm.refl (fun _ => False) w6.drew)
  clear bc nc kc bd nd kd p0 p1 p2 p3 t0 t1 hg3 hg5 hw6 ei ek
  go_region_held3 (fun w' => w'.cell? ⟨b0, off + k, none⟩ = some (.int .u8 (y : Int)) ∧ w'.cell? ⟨b0, off + (k + 1), none⟩ = some (.int .u8 (z : Int)))
    (first | exact U.out _ FR.out | exact U.out _ FX.out | go_keep)
    (first
      | (go_at_call 17; (with_reducible refine (TC.out _ FR.out).mono ?_); rintro e w' ⟨rfl, rfl⟩)
      | (go_at_call 17; (with_reducible refine (TD.out _ FR.out).mono ?_); rintro e w' ⟨rfl, rfl⟩)
      | (go_at_call 13; (with_reducible refine (TS.out _ FR.out).mono ?_); rintro e w7 ⟨rfl, hf7⟩; have FX := Lib.hid hf7; clear hf7)
      | (go_at_call 17; (with_reducible refine (TN.out _).mono ?_); rintro e w' ⟨rfl, rfl⟩))
  all_goals
    go_wp2_with fail
    go_ret
    exact ⟨rfl, SF5.out.drew.trans FX.out⟩
theorem dcheck_c (w : World) (A : Option Addr) (c : Nat) (l : List Nat) (a b : Nat) (ha : a < 256) (hb : b < 256) (hl : Byt w A l) (hn : A = none → c = 0) :
    Calls Try.prog 7 #[.slice A l.length c, .int .u8 a, .int .u8 b] w fun e w' => e = .returned (.bool true) ∧ Frm (fun _ => False) w w' := by
  by_cases h : 200 < l.length ∨ l.length < 2
  · exact dcheck_out w A c l a b hl.at_.len h
  · exact dcheck_in w A c l a b ha hb hl hn (by omega) (by omega)
end Go.Proofs.Ytkmgdfcpfdnkfaa
