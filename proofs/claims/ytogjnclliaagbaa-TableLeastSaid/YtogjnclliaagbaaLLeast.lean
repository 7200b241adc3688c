/- TableLeast: the walk. -/
import Derived.Test.YtogjnclliaagbaaHands
import Derived.Test.YtogjnclliaagbaaDos
namespace Go.Proofs.Ytogjnclliaagbaa
open Go.RowKit
theorem info4 : (Try.prog.info? 4).map (fun i => (i.zero, i.size, i.bytes)) = some (some (.bool false), 1, 1) := by kernel_rfl
def bvals (n : Nat) (V : Nat → Bool) : List Value := vals n fun i => .bool (V i)
theorem bvals_get {n i : Nat} (h : i < n) (V : Nat → Bool) : (bvals n V)[i]? = some (.bool (V i)) := vals_get h _
theorem bvals_set {n k : Nat} (V : Nat → Bool) (x : Bool) : (bvals n V).set k (.bool x) = bvals n fun i => if i = k then x else V i := by
  unfold bvals; rw [vals_set]; apply vals_congr; intro i _; by_cases h : i = k <;> simp [h]
structure LeastAt (w wr : World) (p b cap q n : Nat) (L : List Slot) (F : Nat → Bool) : Prop where
  full : FullAt w wr p b cap L
  vec : VecAt wr q 4 (bvals n F)
  qp : q ≠ p
  qb : q ≠ b
  hq : w.heap.size ≤ q
theorem LeastAt.keep {w wr w' : World} {p b cap q n : Nat} {L : List Slot} {F : Nat → Bool} (h : LeastAt w wr p b cap q n L F) (hf : Frm (fun _ => False) wr w') : LeastAt w w' p b cap q n L F :=
  ⟨h.full.keep hf, h.vec.keep hf, h.qp, h.qb, h.hq⟩
theorem LeastAt.next {w wr w' : World} {p b cap q n : Nat} {L L' : List Slot} {F : Nat → Bool} (h : LeastAt w wr p b cap q n L F) (ht : TabAt w' p b cap L') (hf : Frm (fun k => k = p ∨ k = b) wr w') : LeastAt w w' p b cap q n L' F :=
  ⟨h.full.next ht hf, h.vec.frm hf (by rintro (e | e); exact h.qp e; exact h.qb e), h.qp, h.qb, h.hq⟩
theorem LeastAt.set {w wr : World} {p b cap q n : Nat} {L : List Slot} {F : Nat → Bool} (h : LeastAt w wr p b cap q n L F) (k : Nat) (x : Bool) : LeastAt w (wr.setCell ⟨q, k, none⟩ (.bool x)) p b cap q n L (fun i => if i = k then x else F i) :=
  ⟨⟨h.full.tab.frm (S := fun j => j = q) ((Frm.refl (fun j => j = q) wr).setCell (.inl rfl) _) (fun e => h.qp e.symm) (fun e => h.qb e.symm),
    h.full.frm.trans ((Frm.refl (fun j => w.heap.size ≤ j) wr).setCell (.inl h.hq) _), h.full.hp, h.full.hb⟩,
   by rw [← bvals_set]; exact h.vec.set k _, h.qp, h.qb, h.hq⟩
set_option maxRecDepth 100000 in
set_option maxHeartbeats 8000000 in
theorem least_c (w : World) (x : Int) (hx : 0 ≤ x ∧ x ≤ 255) (A : Option Addr) (cA : Nat) (l : List UInt8) (hl : RowsAt w A 1 enc8 l) :
    Calls Try.prog 7 #[.int .u8 x, .slice A l.length cA] w fun e w' => e = .returned (.bool true) ∧ Frm (fun _ => False) w w' := by
  obtain ⟨hx0, hx1⟩ := hx
  have HL := Lib.hid hl
  have hlen := hl.len
  clear hl
  go_enter Try.func7, Try.ntmps7
  go_wp2_with fail
  refine (awake_c _).mono ?_
  rintro e w1 ⟨rfl, hf1⟩
  go_wp2_with fail
  have hn1 : 1 ≤ 1 + x % 30 := by omega
  have hn2 : 1 + x % 30 ≤ 30 := by omega
  generalize 1 + x % 30 = N at *
  obtain ⟨n, rfl⟩ := Int.eq_ofNat_of_zero_le (show 0 ≤ N by omega)
  refine (new_ok w1 n (by omega) (by omega)).mono ?_
  rintro e w2 ⟨b, cap, rfl, ht2, hb, hf2⟩
  have s1 := hf1.size
  have H2 : Hid (FullAt w w2 w1.heap.size b cap (filled 1 n 0 fun i => i)) := ⟨by rw [filled_zero]; exact ht2, (hf1.trans hf2).of_none, s1, by omega⟩
  clear ht2 hf2 hf1
  generalize w1.heap.size = p at *
  by_cases h60 : 60 < l.length
  · have e60 : decide ((60 : Int) < l.length) = true := by simp; omega
    go_wp2_with fail
    go_ret
    exact ⟨rfl, Frm.down H2.out.frm⟩
  · have e60 : decide ((60 : Int) < l.length) = false := by simp; omega
    go_wp2_with fail
    go_loopw [8] (fun i wr => ∃ k : Nat, k ≤ n ∧ i = .int .i64 k ∧ FullAt w wr p b cap (filled 1 n k fun i => i)) (fun i _ => n - (intOf i).toNat)
    case atStart => exact ⟨0, by omega, rfl, H2.out⟩
    case round =>
      obtain ⟨k, hk, rfl, hta⟩ := hrel
      have HTA := Lib.hid hta
      clear hta H2
      by_cases hlt : k < n
      · have e1 : decide (k < n) = true := by simpa using hlt
        go_wp2_with fail
        refine (put_free HTA.out.tab k 1 k (filled_ge (Nat.le_refl _) hlt _) (fun j hj => ⟨_, _, filled_lt hj (by omega) _⟩)).mono ?_
        rintro e w5 ⟨rfl, ht5, hf5⟩
        rw [filled_set (fun i => (i : Int))] at ht5
        have H5 := Lib.hid (HTA.out.next ht5 hf5)
        clear ht5 hf5 HTA
        go_wp2_with fail
        go_roundw
        case rel => exact ⟨k + 1, by omega, by go_num, H5.out⟩
        case measure => simp [intOf]; omega
      · have e1 : decide (k < n) = false := by simpa using hlt
        obtain rfl : k = n := by omega
        have hmk := run_make_vec (P := Try.prog) 50 4 (.bool false) 1 Try.underlying50 info4 rfl k (by omega) (by omega)
        have hV : VecAt (wr.alloc (.cells (vals k fun _ => .bool false).toArray 4)) wr.heap.size 4 (bvals k fun _ => false) := VecAt.new wr 4 (vals k fun _ => .bool false)
        have hL : LeastAt w (wr.alloc (.cells (vals k fun _ => .bool false).toArray 4)) p b cap wr.heap.size k (filled 1 k k fun i => i) (fun _ => false) :=
          ⟨HTA.out.alloc _, hV, by have := HTA.out.tab.ltp; omega, by have := HTA.out.tab.ltb; omega, HTA.out.frm.size⟩
        have H3 := Lib.hid hL
        have HC3 : Hid (Cons k (filled 1 k k fun i => i) (fun _ => false)) := ⟨tab_length _ _, fun j s hj => by rw [filled_full 1 k _ j s hj]; rfl⟩
        clear hV hL HTA
        go_wp2_with fail
        generalize wr.alloc (.cells (vals k fun _ => .bool false).toArray 4) = w3 at *
        generalize wr.heap.size = q at *
        clear hmk
        generalize (filled 1 k k fun i => (i : Int)) = L0 at *
        generalize (fun _ : Nat => false) = F0 at *
        go_loopw [10] (fun i wr => ∃ m : Nat, m ≤ l.length ∧ i = .int .i64 m ∧ ∃ L F, LeastAt w wr p b cap q k L F ∧ Cons k L F) (fun i _ => l.length - (intOf i).toNat)
        case atStart => exact ⟨0, by omega, rfl, _, _, H3.out, HC3.out⟩
        case round =>
          obtain ⟨m, hm, rfl, L, F, hta, hcons⟩ := hrel
          have HTA := Lib.hid hta
          have HCO := Lib.hid hcons
          clear hta hcons H3 HC3
          by_cases hlm : m < l.length
          · have e2 : decide (m < l.length) = true := by simpa using hlm
            obtain ⟨b0, off, hAe, hb0, hc⟩ := HL.out.at_ (by omega)
            subst hAe
            obtain ⟨y, hd⟩ : ∃ d, l[m]? = some d := ⟨_, List.getElem?_eq_getElem hlm⟩
            have x0 := HTA.out.full.frm.cell hb0 (by omega) (hc m y hd 0 _ rfl)
            clear hc hd
            simp only [Nat.add_zero, Nat.mul_one] at x0
            have y1 : (y.toNat : Int) ≤ 255 := by have := y.toNat_lt; omega
            have y0 : (0 : Int) ≤ (y.toNat : Int) := by omega
            generalize (y.toNat : Int) = Y at *
            have k0 : 0 ≤ Y % k := Int.emod_nonneg Y (by omega)
            have k1 : Y % k < k := Int.emod_lt_of_pos Y (by omega)
            have kz : ((k : Int) == 0) = false := by simp; omega
            go_wp2_with fail
            generalize Y % k = K at *
            obtain ⟨t, rfl⟩ := Int.eq_ofNat_of_zero_le k0
            have htk : t < k := by omega
            refine (all_rows HTA.out.full.tab).mono ?_
            rintro e w4 ⟨A4, c4, rfl, hr4, ha4, hf4⟩
            have H4 := Lib.hid (HTA.out.keep hf4)
            have HR4 := Lib.hid hr4
            have HB4 : Hid (∀ b' off, A4 = some ⟨b', off, none⟩ → b' ≠ p ∧ b' ≠ b ∧ b' ≠ q) := fun b' off e => by
              have := ha4 b' off e
              have h1 := HTA.out.full.tab.ltp
              have h2 := HTA.out.full.tab.ltb
              have h3 := HTA.out.vec.lt
              omega
            have hh1 := hr4.len
            clear hr4 ha4 hf4 HTA x0
            generalize hH : hands L L.length = H at *
            have HH := Lib.hid hH
            clear hH
            go_wp2_with fail
            go_loopw [13] (fun i wr => ∃ r : Nat, r ≤ H.length ∧ i = .int .i64 r ∧ ∃ L' F', LeastAt w wr p b cap q k L' F' ∧ RowsAt wr A4 2 henc H ∧ Seen H L F t r L' F') (fun i _ => H.length - (intOf i).toNat)
            case atStart => exact ⟨0, by omega, rfl, L, F, H4.out, HR4.out, .inl ⟨rfl, rfl, fun j s g hj => by omega⟩⟩
            case round =>
              obtain ⟨r, hr, rfl, L', F', hta, hrows, hseen⟩ := hrel
              have HTA := Lib.hid hta
              have HR := Lib.hid hrows
              have HS := Lib.hid hseen
              clear hta hrows hseen H4 HR4
              by_cases hlr : r < H.length
              · have e3 : decide (r < H.length) = true := by simpa using hlr
                obtain ⟨b1, off1, hAe, hb1, hc⟩ := HR.out.at_ (by omega)
                subst hAe
                obtain ⟨⟨sl, g⟩, hd⟩ : ∃ d, H[r]? = some d := ⟨_, List.getElem?_eq_getElem hlr⟩
                have z0 := hc r (sl, g) hd 0 _ rfl
                have z1 := hc r (sl, g) hd 1 _ rfl
                have HD := Lib.hid hd
                clear hc hd
                simp only [Nat.add_zero] at z0 z1
                by_cases hst : sl = t
                · subst hst
                  have e4 : ((t : Int) == (t : Int)) = true := by simp
                  obtain ⟨hL', hF', v, hv⟩ : L' = L ∧ F' = F ∧ ∃ v, L[t]? = some (.used g v) := by
                    have h1 := HS.out; rw [← HH.out] at h1
                    have h2 := HD.out; rw [← HH.out] at h2
                    exact seen_hit h1 h2
                  subst hL' hF'
                  go_wp2_with fail
                  refine (drop_some HTA.out.full.tab t g v hv).mono ?_
                  rintro e w5 ⟨rfl, ht5, hf5⟩
                  have H5 := Lib.hid (HTA.out.next ht5 hf5)
                  have HR5 := Lib.hid (HR.out.via hf5 (fun b' off e => by have := HB4.out b' off e; omega))
                  have v0 := H5.out.vec.cell (bvals_get htk _)
                  have v1 := H5.out.vec.frozen t
                  clear ht5 hf5 HTA HR hv z0 z1
                  go_wp2_with fail
                  go_roundw
                  case rel => exact ⟨r + 1, by omega, by go_num, _, _, H5.out.set t true, HR5.out.via ((Frm.refl (fun j => j = q) _).setCell (.inl rfl) _) (fun b' off e => by have := HB4.out b' off e; omega), .inr ⟨_, rfl, rfl, r, g, by omega, HD.out⟩⟩
                  case measure => simp [intOf]; omega
                · have e4 : (sl == (t : Int)) = false := by simpa using hst
                  clear z1
                  go_wp2_with fail
                  go_roundw
                  case rel =>
                    refine ⟨r + 1, by omega, by go_num, _, _, HTA.out, HR.out, ?_⟩
                    have h1 := HS.out; rw [← HH.out] at h1 ⊢
                    have h2 := HD.out; rw [← HH.out] at h2
                    exact seen_skip h1 h2 hst
                  case measure => simp [intOf]; omega
              · have e3 : decide (r < H.length) = false := by simpa using hlr
                obtain rfl : r = H.length := by omega
                have hall : Cons k L' F' ∧ ∃ g, L'[t]? = some (.free g) := by
                  have h1 := HS.out; rw [← HH.out] at h1
                  exact seen_all HCO.out htk h1
                obtain ⟨hco, gt, hgt⟩ := hall
                have HC := Lib.hid hco
                have HG := Lib.hid hgt
                clear hco hgt HS HR HH HB4 HCO
                by_cases hodd : m % 2 = 1
                · have e5 : ((m : Int) % 2 == 1) = true := by simp; omega
                  have HO := Lib.hid hodd
                  clear hodd
                  obtain ⟨n0, g0, hn0, hall0⟩ : ∃ (n0 : Nat) (g0 : Int), L'[n0]? = some (.free g0) ∧ ∀ j : Nat, j < n0 → ∃ g x, L'[j]? = some (.used g x) := by
                    rcases first_free L' with h | h
                    · exact h
                    · obtain ⟨g, x, hx⟩ := h t (by rw [HC.out.1]; exact htk)
                      rw [HG.out] at hx; cases hx
                  have hnk : n0 < k := by have := (List.getElem?_eq_some_iff.1 hn0).1; rw [HC.out.1] at this; exact this
                  have HN0 := Lib.hid hn0
                  have HA0 := Lib.hid hall0
                  clear hn0 hall0
                  go_wp2_with fail
                  refine (put_free HTA.out.full.tab 5 g0 n0 HN0.out HA0.out).mono ?_
                  rintro e w5 ⟨rfl, ht5, hf5⟩
                  have hF0 : F' n0 = true := HC.out.2 n0 _ HN0.out
                  have H5 := Lib.hid (HTA.out.next ht5 hf5)
                  have v0 := H5.out.vec.cell (bvals_get hnk _)
                  rw [hF0] at v0
                  have v1 := H5.out.vec.frozen n0
                  have hq5 := H5.out.vec.lt
                  clear ht5 hf5 HTA hF0
                  go_wp2_with fail
                  go_loop [16] (fun i => ∃ j : Nat, j ≤ n0 ∧ i = .int .i64 j) (fun i => n0 - (intOf i).toNat)
                  case atStart => exact ⟨0, by omega, rfl⟩
                  case round =>
                    obtain ⟨j, hj, rfl⟩ := hrel
                    by_cases hjn : j < n0
                    · have e6 : decide (j < n0) = true := by simpa using hjn
                      obtain ⟨gj, xj, hxj⟩ := HA0.out j hjn
                      have hFj : F' j = false := HC.out.2 j _ hxj
                      have v2 := H5.out.vec.cell (bvals_get (show j < k by omega) _)
                      rw [hFj] at v2
                      clear hFj hxj
                      go_wp2_with fail
                      go_round
                      case rel => exact ⟨j + 1, by omega, by go_num⟩
                      case measure => simp [intOf]; omega
                    · have e6 : decide (j < n0) = false := by simpa using hjn
                      have H6 := Lib.hid ((H5.out.set n0 false).keep ((Frm.refl _ _).alloc (.cells #[.int .i64 n0, .int .u64 g0] 31)))
                      have HC6 := Lib.hid (HC.out.set hnk (.used g0 5))
                      go_wp2_with fail
                      go_roundw
                      case rel => exact ⟨m + 1, by omega, by go_num, _, _, H6.out, HC6.out⟩
                      case measure => simp [intOf]; omega
                · have e5 : ((m : Int) % 2 == 1) = false := by simp; omega
                  go_wp2_with fail
                  go_roundw
                  case rel => exact ⟨m + 1, by omega, by go_num, _, _, HTA.out, HC.out⟩
                  case measure => simp [intOf]; omega
          · have e2 : decide (m < l.length) = false := by simpa using hlm
            go_wp2_with fail
            refine (all_rows HTA.out.full.tab).mono ?_
            rintro e w4 ⟨A4, c4, rfl, hr4, ha4, hf4⟩
            have H4 := Lib.hid (HTA.out.keep hf4)
            have HR4 := Lib.hid hr4
            have hh1 := hr4.len
            have hcl := hands_length L
            clear hr4 ha4 hf4 HTA
            generalize hH : hands L L.length = H at *
            have HH := Lib.hid hH
            have HCL := Lib.hid hcl
            clear hH hcl
            go_wp2_with fail
            go_loopw [18] (fun i wr => ∃ r : Nat, 1 ≤ r ∧ (r ≤ H.length ∨ r = 1) ∧ i = .int .i64 r ∧ LeastAt w wr p b cap q k L F ∧ RowsAt wr A4 2 henc H) (fun i _ => H.length - (intOf i).toNat)
            case atStart => exact ⟨1, by omega, by omega, rfl, H4.out, HR4.out⟩
            case round =>
              obtain ⟨r, hr1, hr2, rfl, hta, hrows⟩ := hrel
              have HTA := Lib.hid hta
              have HR := Lib.hid hrows
              clear hta hrows H4 HR4
              by_cases hlr : r < H.length
              · have e3 : decide (r < H.length) = true := by simpa using hlr
                obtain ⟨b1, off1, hAe, hb1, hc⟩ := HR.out.at_ (by omega)
                subst hAe
                obtain ⟨r', rfl⟩ : ∃ r', r = r' + 1 := ⟨r - 1, by omega⟩
                obtain ⟨⟨s1', g1'⟩, hd1⟩ : ∃ d, H[r']? = some d := ⟨_, List.getElem?_eq_getElem (by omega)⟩
                obtain ⟨⟨s2', g2'⟩, hd2⟩ : ∃ d, H[r' + 1]? = some d := ⟨_, List.getElem?_eq_getElem hlr⟩
                have z0 := hc r' _ hd1 0 _ rfl
                have z1 := hc (r' + 1) _ hd2 0 _ rfl
                have hlt : s1' < s2' := by
                  rw [← HH.out] at hd1 hd2
                  exact hands_rise hd1 hd2 (by omega)
                clear hc hd1 hd2
                simp only [Nat.add_zero] at z0 z1
                rw [Int.natCast_succ]
                have e3' : decide ((r' : Int) + 1 < H.length) = true := by simp; omega
                go_wp2_with fail
                go_quiet (fail)
                go_wp2_with fail
                go_roundw
                case rel => exact ⟨r' + 1 + 1, by omega, by omega, by go_num, HTA.out.keep ((Frm.refl _ _).drewN _), HR.out.via (S := fun _ => False) ((Frm.refl _ _).drewN _) (fun _ _ _ => id)⟩
                case measure => simp [intOf]; omega
              · have e3 : decide (r < H.length) = false := by simpa using hlr
                go_wp2_with fail
                refine (count_c HTA.out.full.tab).mono ?_
                rintro e w6 ⟨rfl, rfl⟩
                have e7 : ((H.length : Int) == (cnt L : Int)) = true := by simp; have := HCL.out; omega
                go_wp2_with fail
                go_ret
                exact ⟨rfl, Frm.down HTA.out.full.frm⟩
end Go.Proofs.Ytogjnclliaagbaa
