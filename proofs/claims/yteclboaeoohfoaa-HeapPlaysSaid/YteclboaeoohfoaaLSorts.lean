/- HeapSorts: the walk. -/
import Derived.Test.YteclboaeoohfoaaLKeys
namespace Go.Proofs.Yteclboaeoohfoaa
open Go.RowKit
def upd (Z : Nat → Int) (i : Nat) (v : Int) : Nat → Int := fun j => if j = i then v else Z j
theorem preK_upd {Z : Nat → Int} {n i : Nat} (hi : i < n) (v : Int) : putK n (preK Z i) i v = preK (upd Z i v) (i + 1) := by
  funext j
  by_cases e : j = i
  · subst e; rw [putK_self hi, preK, if_pos (by omega), upd, if_pos rfl]
  · rw [putK_other hi _ e, preK, preK, upd, if_neg e]
    by_cases h : j < i
    · rw [if_pos h, if_pos (by omega)]
    · rw [if_neg h, if_neg (by omega)]
theorem preK_upd2 {Z : Nat → Int} {n m k : Nat} (hk : k < m) (hm : m ≤ n) (v : Int) : putK n (preK Z m) k v = preK (upd Z k v) m := by
  funext j
  by_cases e : j = k
  · subst e; rw [putK_self (by omega), preK, if_pos (by omega), upd, if_pos rfl]
  · rw [putK_other (by omega) _ e, preK, preK, upd, if_neg e]
/-- A heap, and a row of 200 numbers beside it. -/
structure SAt (w wr : World) (p u n : Nat) (K : Nat → Option Int) (Z : Nat → Int) : Prop where
  heap : HeapR wr (fun k => w.heap.size ≤ k ∧ k ≠ u) p n K
  frm : Frm (fun _ => False) w wr
  vec : VecAt wr u 30 (vals 200 fun j => .int .u64 (Z j))
  hu : w.heap.size ≤ u
section
variable {w wr : World} {p u n : Nat} {K : Nat → Option Int} {Z : Nat → Int}
theorem SAt.keep {w' : World} (h : SAt w wr p u n K Z) (hf : Frm (fun _ => False) wr w') : SAt w w' p u n K Z := ⟨h.heap.keep hf (fun _ _ => id), h.frm.trans hf, h.vec.frm hf id, h.hu⟩
theorem SAt.step {w' : World} {T' : Nat → Prop} {K' : Nat → Option Int} (h : SAt w wr p u n K Z) (h' : HeapR w' T' p n K') (hg : Grow (fun k => w.heap.size ≤ k ∧ k ≠ u) T' wr w') : SAt w w' p u n K' Z := by
  have h1 := h.frm.size
  have h2 := h.vec.lt
  refine ⟨h'.mono fun k _ hk => ?_, (h.frm.of_none.trans (hg.2.mono fun k _ hk => hk.1)).down, h.vec.frm hg.2 (fun e => e.2 rfl), h.hu⟩
  rcases (hg.1 k hk).2 with e | e
  · exact e
  · exact ⟨by omega, by omega⟩
theorem SAt.cell (h : SAt w wr p u n K Z) {j : Nat} (hj : j < 200) : wr.cell? ⟨u, j, none⟩ = some (.int .u64 (Z j)) := h.vec.cell (vals_get hj _)
theorem SAt.store (h : SAt w wr p u n K Z) (j : Nat) (v : Int) : SAt w (wr.setCell ⟨u, j, none⟩ (.int .u64 v)) p u n K (upd Z j v) := by
  have hf : Frm (fun k => k = u) wr (wr.setCell ⟨u, j, none⟩ (.int .u64 v)) := (Frm.refl (fun k => k = u) wr).setCell (p := ⟨u, j, none⟩) (.inl rfl) _
  have h1 := h.hu
  refine ⟨h.heap.keep hf (fun k hk e => hk.2 e), (h.frm.of_none.trans (hf.mono fun k _ hk => by omega)).down, ?_, h.hu⟩
  have := h.vec.set j (.int .u64 v)
  rw [vals_set] at this
  refine cast ?_ this
  congr 1
  refine vals_congr fun x _ => ?_
  unfold upd
  split <;> rfl
theorem put_s (h : SAt w wr p u n K Z) (id key : Int) :
    Calls Try.prog 12 #[.pointer (some ⟨p, 0, none⟩), .int .i64 id, .int .u64 key] wr fun e w' => e = .returned (.int .i64 (putC n id)) ∧ SAt w w' p u n (putK n K id key) Z :=
  (put_k h.heap id key).mono fun _ _ ⟨he, _, h1, h2⟩ => ⟨he, h.step h1 h2⟩
theorem len_s (h : SAt w wr p u n K Z) : Calls Try.prog 20 #[.pointer (some ⟨p, 0, none⟩)] wr fun e w' => e = .returned (.int .i64 (countK n K)) ∧ SAt w w' p u n K Z :=
  (len_k h.heap).mono fun _ _ ⟨he, hw⟩ => ⟨he, hw ▸ h⟩
theorem tks_n (h : SAt w wr p u n K Z) (hn : ∀ j, K j = none) : Calls Try.prog 16 #[.pointer (some ⟨p, 0, none⟩)] wr fun e w' =>
    e = .returned (.tuple #[.int .i64 0, .int .u64 0, .int .i64 5]) ∧ SAt w w' p u n K Z :=
  (take_n h.heap hn).mono fun _ _ ⟨he, hf⟩ => ⟨he, h.keep hf⟩
theorem tks_s (h : SAt w wr p u n K Z) {j : Nat} {x : Int} (hn : FirstIs K j x) : Calls Try.prog 16 #[.pointer (some ⟨p, 0, none⟩)] wr fun e w' =>
    e = .returned (.tuple #[.int .i64 j, .int .u64 x, .int .i64 0]) ∧ SAt w w' p u n (dropK K j) Z :=
  (take_s h.heap hn).mono fun _ _ ⟨he, _, h1, h2⟩ => ⟨he, h.step h1 h2⟩
end
/-- i were taken; q is the last one, or -1. -/
def SortAt (w wr : World) (p u n i : Nat) (q : Int) : Prop :=
  ∃ K Z, SAt w wr p u 200 K Z ∧ (∀ (j : Nat) (x : Int), K j = some x → j < n ∧ x = Z j) ∧ countK 200 K + i = n ∧ (q = -1 ∨ ∃ c : Nat, q = c ∧ c < n ∧ ∀ (j : Nat) (x : Int), K j = some x → Z c < x ∨ Z c = x ∧ c < j)
theorem sort_step {w wr : World} {p u n i : Nat} {q : Int} (h : SortAt w wr p u n i q) (hi : i < n) :
    ∃ (K : Nat → Option Int) (Z : Nat → Int) (x : Nat), SAt w wr p u 200 K Z ∧ FirstIs K x (Z x) ∧ x < n ∧ (q = -1 ∨ ∃ c : Nat, q = c ∧ c < n ∧ (Z c < Z x ∨ Z c = Z x ∧ c < x)) ∧ ∀ w', SAt w w' p u 200 (dropK K x) Z → SortAt w w' p u n (i + 1) x := by
  obtain ⟨K, Z, h1, h2, h3, h4⟩ := h
  rcases h1.heap.first with hn | ⟨x, y, hf⟩
  · have := countK_zero (n := 200) (fun j _ => hn j); omega
  · obtain ⟨hx, rfl⟩ := h2 x y hf.1
    refine ⟨K, Z, x, h1, hf, hx, ?_, fun w' hw => ⟨_, Z, hw, fun j z hz => ?_, ?_, .inr ⟨x, rfl, hx, fun j z hz => ?_⟩⟩⟩
    · rcases h4 with h4 | ⟨c, hc, hcn, h4⟩
      · exact .inl h4
      · exact .inr ⟨c, hc, hcn, h4 _ _ hf.1⟩
    · by_cases e2 : j = x
      · subst e2; rw [dropK_self] at hz; cases hz
      · rw [dropK_other e2] at hz; exact h2 j z hz
    · have := countK_drop (h1.heap.lt hf.1) hf.1; omega
    · by_cases e2 : j = x
      · subst e2; rw [dropK_self] at hz; cases hz
      · rw [dropK_other e2] at hz
        have := hf.2 _ _ hz; omega
theorem sort_end {w wr : World} {p u n : Nat} {q : Int} (h : SortAt w wr p u n n q) : ∃ K Z, SAt w wr p u 200 K Z ∧ (∀ j, K j = none) := by
  obtain ⟨K, Z, h1, h2, h3, h4⟩ := h
  refine ⟨K, Z, h1, fun j => ?_⟩
  cases hj : K j with
  | none => rfl
  | some x => have := countK_pos (h1.heap.lt hj) hj; omega
theorem new_l (w : World) (s : Int) (n : Nat) (hs : s = n) (hn : 1 ≤ n ∧ n ≤ 1000) :
    Calls Try.prog 10 #[.int .i64 s] w fun e w' => e = .returned (.tuple #[.pointer (some ⟨w.heap.size, 0, none⟩), .int .i64 0]) ∧
      ∃ T', HeapR w' T' w.heap.size n (fun _ => none) ∧ Grow (fun _ => False) T' w w' := by
  subst hs; exact new_k w n hn
theorem info30 : (Try.prog.info? 30).map (fun i => (i.zero, i.size, i.bytes)) = some (some (.int .u64 0), 1, 8) := by kernel_rfl
set_option maxRecDepth 100000 in
set_option maxHeartbeats 2000000 in
theorem sorts_c (w : World) (B : Option Addr) (c : Nat) (l : List UInt64) (hl : RowsAt w B 1 enc64 l) (A : Option Addr) (ca : Nat) (la : List UInt8) (ha : RowsAt w A 1 enc8 la) :
    Calls Try.prog 4 #[.slice B l.length c, .slice A la.length ca] w fun e w' => e = .returned (.bool true) ∧ Frm (fun _ => False) w w' := by
  have hlen := hl.len
  have hlena := ha.len
  have HA := Lib.hid ha
  have HLL := Lib.hid hl
  obtain ⟨n, hn⟩ : ∃ n, l.length = n := ⟨_, rfl⟩
  obtain ⟨V, hV⟩ : ∃ V, valU l = V := ⟨_, rfl⟩
  by_cases hg : n ≤ 200 ∧ la.length ≤ 200
  · obtain ⟨g1, g2⟩ := hg
    have HC : Hid (0 < n → ∃ b off, B = some ⟨b, off, none⟩ ∧ b < w.heap.size ∧ ∀ j, j < n → w.cell? ⟨b, off + j, none⟩ = some (.int .u64 (V j))) := Lib.hid (by rw [← hn, ← hV]; exact cellU hl)
    have HV0 : Hid (∀ j, 0 ≤ V j) := Lib.hid (by rw [← hV]; intro j; unfold valU; omega)
    rw [hn] at hlen ⊢
    clear hl ha hn hV HLL l
    have e1 : decide (200 < (n : Int)) = false := by simp; omega
    have e2 : decide (200 < (la.length : Int)) = false := by simp; omega
    have hmk : ∀ w : World, (Instr.makeSlice 42 (.int .i64 200) (.int .i64 200)).run Try.prog w = .ok (.slice (some ⟨w.heap.size, 0, none⟩) 200 200) (w.alloc (.cells (vals 200 fun _ => .int .u64 0).toArray 30)) := run_make_vec (P := Try.prog) 42 30 (.int .u64 0) 8 Try.underlying42 info30 rfl 200 (by omega) (by omega)
    go_enter Try.func4, Try.ntmps4
    go_wp2_with fail
    with_reducible refine (awake_c w).mono ?_
    rintro e w1 ⟨rfl, hf1⟩
    have F1 := Lib.hid hf1
    clear hf1
    go_wp2_with fail
    with_reducible refine (new_l w1 200 200 rfl (by omega)).mono ?_
    rintro e w2 ⟨rfl, T2, h2, hg2, hf2⟩
    have H2 : Hid (SAt w1 (w2.alloc (.cells (vals 200 fun _ => .int .u64 0).toArray 30)) w1.heap.size w2.heap.size 200 (preK (fun _ => 0) 0) (fun _ => 0)) := by
      have hs := hf2.size
      refine Lib.hid ⟨(h2.keep (S := fun _ => False) ((Frm.refl _ _).alloc _) (fun _ _ => id)).mono fun k _ hk => ?_, hf2.alloc _, VecAt.new _ _ _, hs⟩
      have := hg2 k hk
      rcases this.2 with e | e
      · exact e.elim
      · exact ⟨e, by omega⟩
    have HS := Lib.hid hf2.size
    clear h2 hg2 hf2
    go_wp2_with fail
    generalize w1.heap.size = p at *
    generalize w2.heap.size = u at *
    clear hmk
    go_loopw [8] (fun i wr => ∃ t : Nat, t ≤ n ∧ i = .int .i64 t ∧ Hid (∃ Z, SAt w1 wr p u 200 (preK Z t) Z)) (fun i _ => n - (intOf i).toNat)
    case atStart => exact ⟨0, by omega, rfl, Lib.hid ⟨_, H2.out⟩⟩
    case round =>
      obtain ⟨t, ht, rfl, HX⟩ := hrel
      clear H2
      obtain ⟨Z, hZ⟩ := HX.out
      have HZ := Lib.hid hZ
      clear hZ HX
      by_cases hlt : t < n
      · have e3 : decide (t < n) = true := by simpa using hlt
        obtain ⟨b, off, rfl, hb, hc⟩ := HC.out (by omega)
        have hb1 : b < w1.heap.size := by have := F1.out.size; omega
        have HX := Lib.hid (F1.out.cell hb id (hc t hlt))
        clear hc
        have x0 := HZ.out.frm.cell hb1 id HX.out
        go_wp2_with fail
        with_reducible refine (put_s HZ.out t (V t)).mono ?_
        rintro e w5 ⟨rfl, h5⟩
        have x0 := h5.frm.cell hb1 id HX.out
        have x1 := h5.cell (j := t) (by omega)
        have f1 := h5.vec.frozen t
        have H5 := Lib.hid (h5.store t (V t))
        clear h5 HZ
        go_wp2_with fail
        go_roundw
        case rel => exact ⟨t + 1, by omega, by go_num, Lib.hid ⟨_, by rw [← preK_upd (n := 200) (by omega)]; exact H5.out⟩⟩
        case measure => simp [intOf]; omega
      · have e3 : decide (t < n) = false := by simpa using hlt
        obtain rfl : t = n := by omega
        have H3 : Hid (∃ Z, SAt w1 wr p u 200 (preK Z t) Z) := Lib.hid ⟨_, HZ.out⟩
        clear HZ
        go_wp2_with fail
        go_loopw [9] (fun i wr => ∃ r : Nat, r ≤ la.length ∧ i = .int .i64 r ∧ Hid (∃ Z, SAt w1 wr p u 200 (preK Z t) Z)) (fun i _ => la.length - (intOf i).toNat)
        case atStart => exact ⟨0, by omega, rfl, H3⟩
        case round =>
          obtain ⟨r, hr, rfl, HX⟩ := hrel
          clear H3
          obtain ⟨Z, hZ⟩ := HX.out
          have HZ := Lib.hid hZ
          clear hZ HX
          by_cases hrl : r < la.length ∧ 0 < t
          · obtain ⟨hrl, ht0⟩ := hrl
            have e4 : decide (r < la.length) = true := by simpa using hrl
            have e5 : decide (0 < (t : Int)) = true := by simp; omega
            obtain ⟨b, off, rfl, hb, hc⟩ := HC.out (by omega)
            have hb1 : b < w1.heap.size := by have := F1.out.size; omega
            have hm := Nat.mod_lt r ht0
            have HX := Lib.hid (F1.out.cell hb id (hc _ hm))
            have hv0 := HV0.out (r % t)
            obtain ⟨b0, off0, hAe, hb0, hca⟩ := HA.out.at_ (by omega)
            subst hAe
            obtain ⟨d, hd⟩ : ∃ d, la[r]? = some d := ⟨_, List.getElem?_eq_getElem hrl⟩
            have y0 := HZ.out.frm.cell (by have := F1.out.size; omega) id (F1.out.cell hb0 id (hca r d hd 0 _ rfl))
            have x0 := HZ.out.frm.cell hb1 id HX.out
            obtain ⟨z, hz, hzd⟩ : ∃ z : Nat, d.toNat = z ∧ z < 256 := ⟨_, rfl, d.toNat_lt⟩
            simp only [hz, Nat.mul_one, Nat.add_zero] at y0
            have hm2 := Nat.mod_lt z ht0
            have x1 := HZ.out.cell (j := z % t) (by omega)
            have f1 := HZ.out.vec.frozen (z % t)
            clear hc hca hz hd
            go_wp2_with fail
            generalize IntKind.u64.wrap ((V (r % t)).tdiv 2) = y
            have H6 := Lib.hid (HZ.out.store (z % t) y)
            with_reducible refine (put_s H6.out (z % t) y).mono ?_
            rintro e w6 ⟨rfl, h7⟩
            rw [show ((z : Int) % (t : Int)) = ((z % t : Nat) : Int) by rfl, preK_upd2 hm2 g1] at h7
            have H7 := Lib.hid h7
            clear h7 HZ H6
            go_wp2_with fail
            go_roundw
            case rel => exact ⟨r + 1, by omega, by go_num, Lib.hid ⟨_, H7.out⟩⟩
            case measure => simp [intOf]; omega
          · have hex : decide (r < la.length) = false ∨ decide (r < la.length) = true ∧ decide (0 < t) = false := by
              by_cases h : r < la.length
              · exact .inr ⟨by simp; omega, by simp; omega⟩
              · exact .inl (by simp; omega)
            have H3 : Hid (SortAt w1 wr p u t 0 (-1)) := by
              refine Lib.hid ⟨_, Z, HZ.out, fun j x hx => ?_, preK_count Z (by omega), .inl rfl⟩
              rw [preK] at hx
              split at hx
              · rename_i h; injection hx with hx; exact ⟨h, hx.symm⟩
              · cases hx
            clear HZ hrl
            rcases hex with e4 | ⟨e4, e5⟩
            all_goals
              go_wp2_with fail
              clear e4
              go_loopw [11, 12] (fun q i wr => ∃ (m : Nat) (o : Int), m ≤ t ∧ i = .int .i64 m ∧ q = .int .i64 o ∧ Hid (SortAt w1 wr p u t m o)) (fun _ i _ => t - (intOf i).toNat)
              case atStart => exact ⟨0, -1, by omega, rfl, rfl, H3⟩
              case round =>
                obtain ⟨m, o, hm, rfl, rfl, HX⟩ := hrel
                clear H3
                by_cases hmt : m < t
                · have e4 : decide (m < t) = true := by simpa using hmt
                  obtain ⟨K, Z, x, hS, hF, hxt, hq, hnext⟩ := sort_step HX.out hmt
                  have HS' := Lib.hid hS
                  have HF := Lib.hid hF
                  have HN := Lib.hid hnext
                  clear hS hF hnext HX
                  have e6 : decide (t ≤ x) = false := by simp; omega
                  go_wp2_with fail
                  with_reducible refine (tks_s HS'.out HF.out).mono ?_
                  rintro e w7 ⟨rfl, h7⟩
                  have x1 := h7.cell (j := x) (by omega)
                  have H7 := Lib.hid h7
                  rcases hq with rfl | ⟨cc, rfl, hcc, hcmp⟩
                  · clear h7 HS'
                    go_wp2_with fail
                    go_roundw
                    case rel => exact ⟨m + 1, x, by omega, by go_num, rfl, Lib.hid (HN.out _ H7.out)⟩
                    case measure => simp [intOf]; omega
                  · have x2 := h7.cell (j := cc) (by omega)
                    have e7 : decide (Z x < Z cc) = false := by simp; omega
                    have hex : (Z cc == Z x) = false ∨ (Z cc == Z x) = true ∧ decide (x ≤ cc) = false := by
                      by_cases h : Z cc = Z x
                      · exact .inr ⟨by simpa using h, by simp; omega⟩
                      · exact .inl (by simpa using h)
                    clear h7 HS' hcmp
                    rcases hex with e8 | ⟨e8, e9⟩
                    all_goals
                      go_wp2_with fail
                      go_roundw
                      case rel => exact ⟨m + 1, x, by omega, by go_num, rfl, Lib.hid (HN.out _ H7.out)⟩
                      case measure => simp [intOf]; omega
                · have e4 : decide (m < t) = false := by simpa using hmt
                  obtain rfl : m = t := by omega
                  obtain ⟨K, Z, hS, hno⟩ := sort_end HX.out
                  have HS' := Lib.hid hS
                  have HN := Lib.hid hno
                  clear hS hno HX
                  go_wp2_with fail
                  with_reducible refine (tks_n HS'.out HN.out).mono ?_
                  rintro e w7 ⟨rfl, h7⟩
                  have H7 := Lib.hid h7
                  clear h7 HS'
                  go_wp2_with fail
                  have hl := len_s H7.out
                  rw [countK_zero fun j _ => HN.out j] at hl
                  with_reducible refine hl.mono ?_
                  rintro e w8 ⟨rfl, h8⟩
                  have H8 := Lib.hid h8.frm
                  clear h8 H7 hl
                  go_wp2_with fail
                  go_ret
                  exact ⟨rfl, F1.out.trans H8.out⟩
  · rw [hn]
    clear hl HLL hlen HA ha
    have hm : ∃ m, la.length = m := ⟨_, rfl⟩
    obtain ⟨m, hm⟩ := hm
    rw [hm] at hg hlena ⊢
    clear hn hV hm l la
    have hex : decide (200 < (n : Int)) = true ∨ decide (200 < (n : Int)) = false ∧ decide (200 < (m : Int)) = true := by
      by_cases h : 200 < n
      · exact .inl (by simp; omega)
      · exact .inr ⟨by simp; omega, by simp; omega⟩
    clear hg
    rcases hex with e1 | ⟨e1, e2⟩
    all_goals
      go_enter Try.func4, Try.ntmps4
      go_wp2_with fail
      with_reducible refine (awake_c w).mono ?_
      rintro e w1 ⟨rfl, hf1⟩
      have F1 := Lib.hid hf1
      clear hf1
      go_wp2_with fail
      go_ret
      exact ⟨rfl, F1.out⟩
end Go.Proofs.Yteclboaeoohfoaa
