/- DescLens: the walk. -/
import Derived.Test.YtkmgdfcpfdnkfaaTurn
import Derived.Deep.DeepCutAuto
namespace Go.Proofs.Ytkmgdfcpfdnkfaa
open Go.RowKit
def lens0 : List Nat := [1, 0, 0, 2, 0, 0, 0, 0, 0, 0, 0, 0, 0, 0, 0, 3, 0, 0, 0, 57]
def lensS (m : Nat) : Nat := chk ((lens0.set 0 m).take 17)
def lensL (m : Nat) : List Nat := (((lens0.set 0 m).set 17 (lensS m / 65536)).set 18 (lensS m / 256 % 256)).set 19 (lensS m % 256)
theorem lens_ok : ∀ m : Fin 256, m.val < 64 → (fromB (lensL m.val)).d = ⟨((m.val % 16 : Nat) : Int), 2, 0, 0, 0, 3, decide (m.val / 16 % 2 = 1), decide (m.val / 32 % 2 = 1), 0⟩ ∧ (fromB (lensL m.val)).c = 0 := by decide +kernel
theorem lens_no : ∀ m : Fin 256, 64 ≤ m.val → (fromB (lensL m.val)).d = DM.zero ∧ (fromB (lensL m.val)).c = 9 := by decide +kernel
theorem lens_enc : encB ⟨1, 2, 0, 0, 0, 3, false, false, 0⟩ = lens0 := by decide
theorem lens_S : ∀ m : Fin 256, lensS m.val < 16777216 := by decide +kernel
theorem shr_b (S k : Nat) : ((S : Int) / 2 ^ k) % 256 = ((S / 2 ^ k % 256 : Nat) : Int) := by simp
set_option maxRecDepth 100000 in
set_option maxHeartbeats 4000000 in
theorem lens_big (w : World) (A : Option Addr) (c : Nat) (l : List Nat) (m : Nat) (h : 200 < l.length) (hlen : l.length ≤ 9223372036854775807) :
    Calls Try.prog 8 #[.slice A l.length c, .int .u8 m] w fun e w' => e = .returned (.bool true) ∧ Frm (fun _ => False) w w' := by
  have e0 : decide ((200 : Int) < l.length) = true := by simp; omega
  go_enter Try.func8, Try.ntmps8
  go_wp2_with fail
  refine (awake_c _).mono ?_
  rintro e w1 ⟨rfl, hf1⟩
  go_wp2_with fail
  go_ret
  exact ⟨rfl, hf1⟩
set_option maxRecDepth 100000 in
set_option maxHeartbeats 8000000 in
theorem lens_in (w : World) (A : Option Addr) (c : Nat) (l : List Nat) (m : Nat) (hm : m < 256) (hl : Byt w A l) (hc : l.length ≤ c) (h : l.length ≤ 200) :
    Calls Try.prog 8 #[.slice A l.length c, .int .u8 m] w fun e w' => e = .returned (.bool true) ∧ Frm (fun _ => False) w w' := by
  have e0 : decide ((200 : Int) < l.length) = false := by simp; omega
  have T := fun W => bytes_yes W ⟨1, 2, 0, 0, 0, 3, false, false, 0⟩ (by decide) (by decide)
  rw [lens_enc] at T
  simp only [DM.cells] at T
  have HT := Lib.hid T
  have HL := Lib.hid hl
  have hlt0 : ∀ x ∈ lens0, x < 256 := by decide
  have HLT0 := Lib.hid hlt0
  have H20 : Hid (lens0.length = 20) := Lib.hid rfl
  have hS : lensS m < 16777216 := lens_S ⟨m, hm⟩
  have HSD : Hid (chk ((lens0.set 0 m).take 17) = lensS m) := Lib.hid rfl
  have HLL : Hid ((((lens0.set 0 m).set 17 (lensS m / 65536)).set 18 (lensS m / 256 % 256)).set 19 (lensS m % 256) = lensL m) := Lib.hid rfl
  have HR : Hid ((m < 64 ∧ fromB (lensL m) = ⟨⟨((m % 16 : Nat) : Int), 2, 0, 0, 0, 3, decide (m / 16 % 2 = 1), decide (m / 32 % 2 = 1), 0⟩, 0⟩) ∨ (64 ≤ m ∧ fromB (lensL m) = ⟨DM.zero, 9⟩)) := Lib.hid (by
    rcases Nat.lt_or_ge m 64 with h | h
    · have := lens_ok ⟨m, hm⟩ h
      refine .inl ⟨h, ?_⟩
      generalize fromB (lensL m) = R at *
      obtain ⟨d, c⟩ := R
      simp only at this
      rw [this.1, this.2]
    · have := lens_no ⟨m, hm⟩ h
      refine .inr ⟨h, ?_⟩
      generalize fromB (lensL m) = R at *
      obtain ⟨d, c⟩ := R
      simp only at this
      rw [this.1, this.2])
  have C0 : Hid (lens0[0]? = some 1) := Lib.hid rfl
  have C17 : Hid ((lens0.set 0 m)[17]? = some 0) := Lib.hid rfl
  have C18 : Hid ((lens0.set 0 m)[18]? = some 0) := Lib.hid rfl
  have C19 : Hid ((lens0.set 0 m)[19]? = some 57) := Lib.hid rfl
  generalize lensL m = LL at *
  generalize lensS m = S at *
  generalize lens0 = L0 at *
  clear T hl hlt0
  go_enter Try.func8, Try.ntmps8
  go_wp2_with fail
  refine (awake_c _).mono ?_
  rintro e w1 ⟨rfl, hf1⟩
  have F1 := Lib.hid hf1
  clear hf1
  go_wp2_with fail
  refine (HT.out w1).mono ?_
  rintro e w2 ⟨v2, rfl, ho2, hf2⟩
  obtain ⟨A2, c2, hv2, _, hc2, _, _, hg2⟩ := ho2.open2 HLT0.out
  obtain ⟨g, hA2⟩ := hg2 (by rw [H20.out]; decide)
  subst hA2
  rw [H20.out] at hv2 hc2
  subst hv2
  have F2 := Lib.hid (F1.out.trans hf2)
  have O2 := Lib.hid ho2
  have hs1 := F1.out.size
  clear hf2 ho2 hg2
  go_upto_if 20 with (fail)
  go_cut [] (fun wx => Frm (fun _ => False) w wx ∧ OwnB wx w1.heap.size (.slice (some ⟨g, 0, none⟩) 20 c2) L0)
  case first =>
    by_cases h20 : l.length = 20
    · have e2 : ((l.length : Int) != 20) = false := by simp; omega
      have e3 : ((l.length : Int) == 20) = true := by simp; omega
      clear h20
      go_wp2_with fail
      go_meet
      exact ⟨F2.out, O2.out⟩
    · have e2 : ((l.length : Int) != 20) = true := by simp; omega
      have e3 : ((l.length : Int) == 20) = false := by simp; omega
      have T3 := from_c w2 A c l (HL.out.keep F2.out) hc
      rw [show fromB l = ⟨DM.zero, 9⟩ by unfold fromB; rw [if_neg (fun h => h20 h.1)]] at T3
      simp only [DM.cells, DM.zero] at T3
      have HT3 := Lib.hid T3
      clear T3 h20
      go_wp2_with fail
      refine HT3.out.mono ?_
      rintro e w3 ⟨rfl, hf3⟩
      have F3 := Lib.hid (F2.out.trans hf3)
      have O3 := Lib.hid (O2.out.frm hf3 (fun _ _ => id))
      clear hf3
      go_wp2_with fail
      go_meet
      exact ⟨F3.out.alloc _, O3.out.alloc _⟩
  case rest =>
    obtain ⟨hf4, ho4⟩ := hcut
    have hg4 := (World.ownsRow.lt ho4 g rfl)
    obtain ⟨p0, q0⟩ := ho4.cell H20.out C0.out
    have S1 := ho4.setn H20.out 0 m
    have G1 := hf4.setCell (p := ⟨g, 0, none⟩) (.inr (show w.heap.size ≤ g by omega)) (.int .u8 (m : Int))
    have HLT1 := Lib.hid (set_lt (i := 0) HLT0.out hm)
    obtain ⟨b1, n1, k1⟩ := S1.byt HLT1.out
    have hb17 : Byt (wc.setCell ⟨g, 0, none⟩ (.int .u8 (m : Int))) (some ⟨g, 0, none⟩) ((L0.set 0 m).take 17) := by
      have := b1.part (i := 0) (j := 17) (by rw [n1]; decide)
      simpa [part] using this
    have TC := check_c _ _ c2 _ hb17 (by simp; omega)
    rw [HSD.out, show ((L0.set 0 m).take 17).length = 17 by rw [List.length_take, n1]; rfl] at TC
    have HTC := Lib.hid TC
    have HS1 := Lib.hid S1
    have HG1 := Lib.hid G1
    have N1 := Lib.hid n1
    have i17 : (17 : Int) ≤ (c2 : Int) := by omega
    clear hf4 ho4 S1 G1 b1 n1 k1 hb17 TC
    go_wp2_with fail
    refine HTC.out.mono ?_
    rintro e w5 ⟨rfl, rfl⟩
    generalize wc.setCell ⟨g, 0, none⟩ (.int .u8 (m : Int)) = w5 at *
    obtain ⟨a17, f17⟩ := HS1.out.cell N1.out C17.out
    obtain ⟨a18, f18⟩ := HS1.out.cell N1.out C18.out
    obtain ⟨a19, f19⟩ := HS1.out.cell N1.out C19.out
    have v17 : ((S / 65536 : Nat) : Int) = (S : Int) / 65536 := by simp
    have v18 : ((S / 256 % 256 : Nat) : Int) = (S : Int) / 256 % 256 := by simp
    have v19 : ((S % 256 : Nat) : Int) = (S : Int) % 256 := by simp
    have S2 := ((HS1.out.setn N1.out 17 (S / 65536)).setn (by simpa using N1.out) 18 (S / 256 % 256)).setn (by simpa using N1.out) 19 (S % 256)
    rw [HLL.out, v17, v18, v19] at S2
    have G2 := ((HG1.out.setCell (p := ⟨g, 17, none⟩) (.inr (show w.heap.size ≤ g by omega)) (.int .u8 ((S : Int) / 65536))).setCell (p := ⟨g, 18, none⟩) (.inr (show w.heap.size ≤ g by omega)) (.int .u8 ((S : Int) / 256 % 256))).setCell (p := ⟨g, 19, none⟩) (.inr (show w.heap.size ≤ g by omega)) (.int .u8 ((S : Int) % 256))
    have hlt2 : ∀ x ∈ LL, x < 256 := by
      rw [← HLL.out]
      exact set_lt (set_lt (set_lt HLT1.out (by omega)) (by omega)) (by omega)
    obtain ⟨b2, n2, k2⟩ := S2.byt hlt2
    have T6 := from_c _ _ c2 LL b2 (by omega)
    rw [n2] at T6
    have HG2 := Lib.hid G2
    rcases HR.out with ⟨hm64, hR⟩ | ⟨hm64, hR⟩
    · have em : decide ((m : Int) < 64) = true := by simp; omega
      rw [hR] at T6
      simp only [DM.cells] at T6
      have HT6 := Lib.hid T6
      clear T6 b2 n2 k2 hR S2 G2 v17 v18 v19 hm64 hlt2
      go_wp2_with fail
      refine HT6.out.mono ?_
      rintro e w7 ⟨rfl, hf7⟩
      have F7 := Lib.hid (HG2.out.trans hf7)
      clear hf7
      go_wp2_with fail
      go_ret
      exact ⟨by simp, F7.out.alloc _⟩
    · have em : decide ((m : Int) < 64) = false := by simp; omega
      rw [hR] at T6
      simp only [DM.cells, DM.zero] at T6
      have HT6 := Lib.hid T6
      clear T6 b2 n2 k2 hR S2 G2 v17 v18 v19 hm64 hlt2
      go_wp2_with fail
      refine HT6.out.mono ?_
      rintro e w7 ⟨rfl, hf7⟩
      have F7 := Lib.hid (HG2.out.trans hf7)
      clear hf7
      go_wp2_with fail
      go_ret
      exact ⟨rfl, F7.out.alloc _⟩
theorem lens_c (w : World) (A : Option Addr) (c : Nat) (l : List Nat) (m : Nat) (hm : m < 256) (hl : Byt w A l) (hc : l.length ≤ c) :
    Calls Try.prog 8 #[.slice A l.length c, .int .u8 m] w fun e w' => e = .returned (.bool true) ∧ Frm (fun _ => False) w w' := by
  by_cases h : 200 < l.length
  · exact lens_big w A c l m h hl.at_.len
  · exact lens_in w A c l m hm hl hc (by omega)
end Go.Proofs.Ytkmgdfcpfdnkfaa
