/- HeapKeys: the walk. -/
import Derived.Test.YteclboaeoohfoaaLBack
namespace Go.Proofs.Yteclboaeoohfoaa
open Go.RowKit
theorem countK_drop {n : Nat} {K : Nat → Option Int} {j : Nat} {x : Int} (hj : j < n) (h : K j = some x) : countK n (dropK K j) + 1 = countK n K := by
  rw [countK_put (K := dropK K j) (K' := K) hj (by rw [h]; rfl) (fun i hi => by rw [dropK_other hi]), dropK_self]
  rfl
/-- The first i keys are there. -/
def preK (V : Nat → Int) (i : Nat) : Nat → Option Int := fun j => if j < i then some (V j) else none
theorem preK_put {V : Nat → Int} {n i : Nat} (hi : i < n) : putK n (preK V i) i (V i) = preK V (i + 1) := by
  funext j
  by_cases e : j = i
  · subst e; rw [putK_self hi, preK, if_pos (by omega)]
  · rw [putK_other hi _ e, preK, preK]
    by_cases h : j < i
    · rw [if_pos h, if_pos (by omega)]
    · rw [if_neg h, if_neg (by omega)]
theorem preK_count (V : Nat → Int) {n i : Nat} (hi : i ≤ n) : countK n (preK V i) = i := by
  induction n with
  | zero => obtain rfl : i = 0 := by omega
            rfl
  | succ n ih =>
    rw [countK_succ]
    by_cases e : i = n + 1
    · subst e
      have h1 : countK n (preK V (n + 1)) = countK n (preK V n) := countK_congr fun j hj => by rw [preK, preK, if_pos (by omega), if_pos (by omega)]
      have h2 : countK n (preK V n) = n := by
        clear ih hi h1
        have : ∀ m, m ≤ n → countK m (preK V n) = m := by
          intro m hm
          induction m with
          | zero => rfl
          | succ m ih => rw [countK_succ, ih (by omega)]; simp [preK, show m < n by omega]
        exact this n (Nat.le_refl _)
      rw [h1, h2]; simp [preK]
    · rw [ih (by omega)]; simp [preK, show ¬ n < i by omega]
def valU (l : List UInt64) (j : Nat) : Int := ((l[j]?).getD 0).toNat
theorem valU_get {l : List UInt64} {j : Nat} {y : UInt64} (h : l[j]? = some y) : valU l j = y.toNat := by rw [valU, h]; rfl
/-- A row of numbers, as cells. -/
theorem cellU {w : World} {B : Option Addr} {l : List UInt64} (h : RowsAt w B 1 enc64 l) (h0 : 0 < l.length) : ∃ b off, B = some ⟨b, off, none⟩ ∧ b < w.heap.size ∧ ∀ j, j < l.length → w.cell? ⟨b, off + j, none⟩ = some (.int .u64 (valU l j)) := by
  obtain ⟨b, off, he, hlt, hc⟩ := h.at_ h0
  refine ⟨b, off, he, hlt, fun j hj => ?_⟩
  obtain ⟨y, hy⟩ : ∃ y, l[j]? = some y := ⟨_, List.getElem?_eq_getElem hj⟩
  have := hc j y hy 0 _ rfl
  rw [valU_get hy]
  simpa using this
def KeysAt (w wr : World) (p n k : Nat) (key : Int) (V : Nat → Int) (i : Nat) : Prop :=
  ∃ K, At w wr p 100 K ∧ K k = some key ∧ (∀ (j : Nat) (x : Int), K j = some x → j < n ∧ (j ≠ k → x = V j)) ∧ countK 100 K + i = n
theorem keys_step {w wr : World} {p n k i : Nat} {key : Int} {V : Nat → Int} (h : KeysAt w wr p n k key V i) :
    i < n ∧ ∃ (K : Nat → Option Int) (x : Nat) (y : Int), At w wr p 100 K ∧ FirstIs K x y ∧ K k = some key ∧ ((x = k ∧ y = key) ∨ (x ≠ k ∧ x < n ∧ y = V x ∧ y ≤ key ∧ ∀ w', At w w' p 100 (dropK K x) → KeysAt w w' p n k key V (i + 1))) := by
  obtain ⟨K, h1, h2, h3, h4⟩ := h
  have hpos := countK_pos (h1.heap.lt h2) h2
  refine ⟨by omega, K, ?_⟩
  rcases h1.heap.first with hn | ⟨x, y, hf⟩
  · rw [hn] at h2; cases h2
  · refine ⟨x, y, h1, hf, h2, ?_⟩
    by_cases e : x = k
    · subst e
      left
      have := hf.1
      rw [h2] at this; injection this with this
      exact ⟨rfl, this.symm⟩
    · obtain ⟨k1, k2⟩ := h3 x y hf.1
      refine .inr ⟨e, k1, k2 e, ?_, fun w' hw => ⟨_, hw, by rw [dropK_other (fun h => e h.symm)]; exact h2, fun j z hz => ?_, ?_⟩⟩
      · have := hf.2 k key h2; omega
      · by_cases e2 : j = x
        · subst e2; rw [dropK_self] at hz; cases hz
        · rw [dropK_other e2] at hz; exact h3 j z hz
      · have := countK_drop (h1.heap.lt hf.1) hf.1; omega
set_option maxRecDepth 100000 in
set_option maxHeartbeats 2000000 in
theorem keys_c (w : World) (B : Option Addr) (c : Nat) (l : List UInt64) (hl : RowsAt w B 1 enc64 l) (a1 a2 : Int) (ha1 : 0 ≤ a1 ∧ a1 ≤ 255) :
    Calls Try.prog 8 #[.slice B l.length c, .int .u8 a1, .int .u64 a2] w fun e w' => e = .returned (.bool true) ∧ Frm (fun _ => False) w w' := by
  have hlen := hl.len
  by_cases hg : 0 < l.length ∧ l.length ≤ 100
  · obtain ⟨g1, g2⟩ := hg
    obtain ⟨b, off, rfl, hb, hc⟩ := cellU hl g1
    have HC := Lib.hid hc
    obtain ⟨n, hn⟩ : ∃ n, l.length = n := ⟨_, rfl⟩
    obtain ⟨V, hV⟩ : ∃ V, valU l = V := ⟨_, rfl⟩
    rw [hn, hV] at HC
    rw [hn] at hlen g1 g2 ⊢
    clear hl hc hn hV l
    have e1 : ((n : Int) == 0) = false := by simp; omega
    have e2 : decide (100 < (n : Int)) = false := by simp; omega
    obtain ⟨k, hk, hkd⟩ : ∃ k : Nat, k < n ∧ a1 % n = (k : Int) := by
      obtain ⟨z, rfl⟩ : ∃ z : Nat, a1 = z := ⟨a1.toNat, by omega⟩
      refine ⟨z % n, Nat.mod_lt _ g1, ?_⟩
      rfl
    have HKD := Lib.hid hkd
    clear hkd
    go_enter Try.func8, Try.ntmps8
    go_wp2_with fail
    with_reducible refine (awake_c w).mono ?_
    rintro e w1 ⟨rfl, hf1⟩
    have F1 := Lib.hid hf1
    have hb1 : b < w1.heap.size := by have := hf1.size; omega
    have HC1 := Lib.hid (fun j hj => hf1.cell hb id (HC.out j hj))
    clear hf1 HC
    go_wp2_with fail
    with_reducible refine (new_a w1 100 100 rfl (by omega)).mono ?_
    rintro e w2 ⟨rfl, h2⟩
    generalize hp : w1.heap.size = p at *
    have H2 : Hid (At w1 w2 p 100 (preK V 0)) := Lib.hid h2
    clear h2
    go_wp2_with fail
    go_loopw [9] (fun i wr => ∃ t : Nat, t ≤ n ∧ i = .int .i64 t ∧ Hid (At w1 wr p 100 (preK V t))) (fun i _ => n - (intOf i).toNat)
    case atStart => exact ⟨0, by omega, rfl, H2⟩
    case round =>
      obtain ⟨t, ht, rfl, HX⟩ := hrel
      clear H2
      by_cases hlt : t < n
      · have e3 : decide (t < n) = true := by simpa using hlt
        have x0 := HX.out.frm.cell (by omega) id (HC1.out t hlt)
        go_wp2_with fail
        with_reducible refine (put_a HX.out t (V t)).mono ?_
        rintro e w5 ⟨rfl, h5⟩
        rw [preK_put (by omega)] at h5
        have H5 := Lib.hid h5
        clear h5 HX
        go_wp2_with fail
        go_roundw
        case rel => exact ⟨t + 1, by omega, by go_num, H5⟩
        case measure => simp [intOf]; omega
      · have e3 : decide (t < n) = false := by simpa using hlt
        obtain rfl : t = n := by omega
        go_wp2_with fail
        simp only [HKD.out]
        have h6 := put_a HX.out k a2
        rw [putC_in (n := 100) (by omega)] at h6
        with_reducible refine h6.mono ?_
        rintro e w6 ⟨rfl, h7⟩
        have H7 : Hid (KeysAt w1 w6 p t k a2 V 0) := by
          refine Lib.hid ⟨_, h7, putK_self (by omega) _, fun j x hx => ?_, ?_⟩
          · by_cases e : j = k
            · subst e; exact ⟨hk, fun h => absurd rfl h⟩
            · rw [putK_other (by omega) _ e, preK] at hx
              split at hx
              · rename_i h; injection hx with hx; exact ⟨h, fun _ => hx.symm⟩
              · cases hx
          · rw [countK_put (K := preK V t) (i := k) (by omega) (by rw [putK_self (by omega)]; rfl) (fun i hi => by rw [putK_other (by omega) _ hi]), preK_count V (by omega)]
            simp [preK, hk]
        clear h6 h7 HX
        go_wp2_with fail
        go_loopw [11] (fun i wr => ∃ s : Nat, s ≤ t ∧ i = .int .i64 s ∧ Hid (KeysAt w1 wr p t k a2 V s)) (fun i _ => t - (intOf i).toNat)
        case atStart => exact ⟨0, by omega, rfl, H7⟩
        case round =>
          obtain ⟨s, hs, rfl, HX⟩ := hrel
          clear H7
          obtain ⟨hst, K, x, y, hK, hf, hKk, hcase⟩ := keys_step HX.out
          have HF := Lib.hid hf
          have HK := Lib.hid hK
          have HKk := Lib.hid hKk
          clear hK hf hKk HX
          have e4 : decide (s < t) = true := by simpa using hst
          rcases hcase with ⟨rfl, rfl⟩ | ⟨hxk, hxt, hyV, hyk, hnext⟩
          · go_wp2_with fail
            with_reducible refine (tk_s HK.out HF.out).mono ?_
            rintro e w7 ⟨rfl, h7⟩
            have hfr := h7.heap.first
            have H7 := Lib.hid h7
            clear h7 HK
            go_wp2_with fail
            rcases hfr with hn | ⟨j2, z, hz⟩
            · have HN := Lib.hid hn
              clear hn
              go_wp2_with fail
              with_reducible refine (fst_n H7.out HN.out).mono ?_
              rintro e w8 ⟨rfl, h8⟩
              have H8 := Lib.hid h8.frm
              clear h8 H7
              go_wp2_with fail
              go_ret
              exact ⟨rfl, F1.out.trans H8.out⟩
            · have hle : y ≤ z := by
                have h5 := hz.1
                by_cases e : j2 = x
                · subst e; rw [dropK_self] at h5; cases h5
                · rw [dropK_other e] at h5
                  have := HF.out.2 _ _ h5; omega
              have e5 : decide (y ≤ z) = true := by simpa using hle
              have HZ := Lib.hid hz
              clear hz hle
              go_wp2_with fail
              with_reducible refine (fst_s H7.out HZ.out).mono ?_
              rintro e w8 ⟨rfl, h8⟩
              have H8 := Lib.hid h8.frm
              clear h8 H7
              go_wp2_with fail
              go_ret
              exact ⟨rfl, F1.out.trans H8.out⟩
          · have e5 : ((x : Int) == (k : Int)) = false := by simp; omega
            have e6 : decide (a2 < y) = false := by simp; omega
            have e7 : decide (x < t) = true := by simpa using hxt
            have hxt2 : (x : Int) < (t : Int) := by omega
            have HNX := Lib.hid hnext
            have HY := Lib.hid hyV
            clear hnext hyk hyV
            go_wp2_with fail
            with_reducible refine (tk_s HK.out HF.out).mono ?_
            rintro e w7 ⟨rfl, h7⟩
            have x7 := h7.frm.cell (by omega) id (HC1.out x hxt)
            rw [← HY.out] at x7
            have H7 := Lib.hid h7
            clear h7 HK
            go_wp2_with fail
            go_roundw
            case rel => exact ⟨s + 1, by omega, by go_num, Lib.hid (HNX.out _ H7.out)⟩
            case measure => simp [intOf]; omega
  · obtain ⟨n, hn⟩ : ∃ n, l.length = n := ⟨_, rfl⟩
    rw [hn] at hg hlen ⊢
    clear hl hn l
    have hex : n = 0 ∨ ((n : Int) == 0) = false ∧ decide (100 < (n : Int)) = true := by
      by_cases h : n = 0
      · exact .inl h
      · exact .inr ⟨by simp; omega, by simp; omega⟩
    clear hg
    rcases hex with rfl | ⟨e1, e2⟩
    all_goals
      go_enter Try.func8, Try.ntmps8
      go_wp2_with fail
      with_reducible refine (awake_c w).mono ?_
      rintro e w1 ⟨rfl, hf1⟩
      have F1 := Lib.hid hf1
      clear hf1
      go_wp2_with fail
      go_ret
      exact ⟨rfl, F1.out⟩
end Go.Proofs.Yteclboaeoohfoaa
