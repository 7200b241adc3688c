/- TableSets: the walk. -/
import Derived.Test.YtogjnclliaagbaaC
import Derived.Test.YtogjnclliaagbaaDos
namespace Go.Proofs.Ytogjnclliaagbaa
open Go.RowKit
theorem info3 : (Try.prog.info? 3).map (fun i => (i.zero, i.size, i.bytes)) = some (some (.int .i64 0), 1, 8) := by kernel_rfl
def ivals (n : Nat) (V : Nat → Int) : List Value := vals n fun i => .int .i64 (V i)
def utab (n : Nat) (V : Nat → Int) : List Slot := tab n fun i => .used 1 (V i)
theorem ivals_get {n i : Nat} (h : i < n) (V : Nat → Int) : (ivals n V)[i]? = some (.int .i64 (V i)) := vals_get h _
theorem ivals_set {n k : Nat} (V : Nat → Int) (x : Int) : (ivals n V).set k (.int .i64 x) = ivals n fun i => if i = k then x else V i := by
  unfold ivals; rw [vals_set]; apply vals_congr; intro i _; by_cases h : i = k <;> simp [h]
theorem ivals_congr {n : Nat} {V U : Nat → Int} (h : ∀ i, i < n → V i = U i) : ivals n V = ivals n U := vals_congr fun i hi => by rw [h i hi]
theorem utab_set {n k : Nat} (V : Nat → Int) (x : Int) : (utab n V).set k (.used 1 x) = utab n fun i => if i = k then x else V i := by
  unfold utab; rw [tab_set]; apply tab_congr; intro i _; by_cases h : i = k <;> simp [h]
theorem utab_get {n i : Nat} (h : i < n) (V : Nat → Int) : (utab n V)[i]? = some (.used 1 (V i)) := tab_get h _
theorem utab_used (n : Nat) (V : Nat → Int) : ∀ (i : Nat) (s : Slot), (utab n V)[i]? = some s → s.isUsed = true := by
  intro i s h
  obtain ⟨_, rfl⟩ := tab_some h
  rfl
set_option maxRecDepth 100000 in
set_option maxHeartbeats 4000000 in
theorem sets_c (w : World) (x : Int) (hx : 0 ≤ x ∧ x ≤ 255) (A : Option Addr) (cA : Nat) (l : List (Int × Int)) (hl : RowsAt w A 2 enc2 l) :
    Calls Try.prog 4 #[.int .u8 x, .slice A l.length cA] w fun e w' => e = .returned (.bool true) ∧ Frm (fun _ => False) w w' := by
  obtain ⟨hx0, hx1⟩ := hx
  have HL := Lib.hid hl
  have hlen := hl.len
  clear hl
  go_enter Try.func4, Try.ntmps4
  go_wp2_with fail
  refine (awake_c _).mono ?_
  rintro e w1 ⟨rfl, hf1⟩
  go_wp2_with fail
  have hn1 : 1 ≤ 1 + x % 50 := by omega
  have hn2 : 1 + x % 50 ≤ 50 := by omega
  generalize 1 + x % 50 = N at *
  obtain ⟨n, rfl⟩ := Int.eq_ofNat_of_zero_le (show 0 ≤ N by omega)
  refine (new_ok w1 n (by omega) (by omega)).mono ?_
  rintro e w2 ⟨b, cap, rfl, ht2, hb, hf2⟩
  have s1 := hf1.size
  have H2 : Hid (FullAt w w2 w1.heap.size b cap (filled 1 n 0 fun i => 7 * i)) := ⟨by rw [filled_zero]; exact ht2, (hf1.trans hf2).of_none, s1, by omega⟩
  clear ht2 hf2 hf1
  generalize w1.heap.size = p at *
  by_cases h60 : 60 < l.length
  · have e60 : decide ((60 : Int) < l.length) = true := by simp; omega
    go_wp2_with fail
    go_ret
    exact ⟨rfl, Frm.down H2.out.frm⟩
  · have e60 : decide ((60 : Int) < l.length) = false := by simp; omega
    have hmk := run_make_vec (P := Try.prog) 41 3 (.int .i64 0) 8 Try.underlying41 info3 rfl n (by omega) (by omega)
    have hV : VecAt (w2.alloc (.cells (vals n fun _ => .int .i64 0).toArray 3)) w2.heap.size 3 (ivals n fun i => if i < 0 then 7 * i else 0) := by
      have := VecAt.new w2 3 (vals n fun _ => .int .i64 0)
      simpa [ivals] using this
    have HV := Lib.hid hV
    have hp2 := H2.out.tab.ltp
    have hb2 := H2.out.tab.ltb
    clear hV
    go_wp2_with fail
    generalize hq : w2.heap.size = q at *
    have H3 := Lib.hid (H2.out.alloc (.cells (vals n fun _ => .int .i64 0).toArray 3))
    have hqs : q < (w2.alloc (.cells (vals n fun _ => .int .i64 0).toArray 3)).heap.size := by simp; omega
    clear H2 hmk hq
    generalize w2.alloc (.cells (vals n fun _ => .int .i64 0).toArray 3) = w3 at *
    go_loopw [9] (fun i wr => ∃ k : Nat, k ≤ n ∧ i = .int .i64 k ∧ FullAt w wr p b cap (filled 1 n k fun i => 7 * i) ∧ VecAt wr q 3 (ivals n fun i => if i < k then 7 * i else 0)) (fun i _ => n - (intOf i).toNat)
    case atStart => exact ⟨0, by omega, rfl, H3.out, HV.out⟩
    case round =>
      obtain ⟨k, hk, rfl, hta, hv⟩ := hrel
      have HTA := Lib.hid hta
      have HVV := Lib.hid hv
      clear hta hv H3 HV
      by_cases hlt : k < n
      · have e1 : decide (k < n) = true := by simpa using hlt
        have v0 := HVV.out.cell (ivals_get hlt _)
        have v1 := HVV.out.frozen k
        go_wp2_with fail
        refine (put_free (HTA.out.tab.frm (S := fun j => j = q) ((Frm.refl (fun j => j = q) wr).setCell (.inl rfl) _) (by omega) (by omega)) (7 * k) 1 k (filled_ge (Nat.le_refl _) hlt _) (fun j hj => ⟨_, _, filled_lt hj (by omega) _⟩)).mono ?_
        rintro e w5 ⟨rfl, ht5, hf5⟩
        rw [filled_set (fun i => 7 * (i : Int))] at ht5
        have HV5 := Lib.hid ((HVV.out.set k (.int .i64 (7 * (k : Int)))).frm hf5 (by omega))
        have H5 : Hid (FullAt w w5 p b cap (filled 1 n (k + 1) fun i => 7 * i)) :=
          ⟨ht5, (HTA.out.frm.trans (((Frm.refl (fun j => w.heap.size ≤ j) wr).setCell (.inl (by show w.heap.size ≤ q; omega)) _))).trans (hf5.up (by omega)), HTA.out.hp, HTA.out.hb⟩
        clear ht5 hf5 HTA HVV v0 v1
        go_wp2_with fail
        go_roundw
        case rel =>
          refine ⟨k + 1, by omega, by go_num, H5.out, ?_⟩
          have := HV5.out
          rw [ivals_set] at this
          rw [ivals_congr (U := fun i => if i = k then 7 * (k : Int) else if i < k then 7 * (i : Int) else 0)]
          · exact this
          · intro i _
            by_cases h1 : i = k
            · subst h1; simp
            · by_cases h2 : i < k
              · simp [h1, h2]; omega
              · simp [h1, h2]; omega
        case measure => simp [intOf]; omega
      · have e1 : decide (k < n) = false := by simpa using hlt
        obtain rfl : k = n := by omega
        have HU : Hid (FullAt w wr p b cap (utab k fun i => 7 * i)) := by
          have e : filled 1 k k (fun i => 7 * (i : Int)) = utab k fun i => 7 * i := tab_congr fun i hi => by simp [hi]
          have := HTA.out
          rw [e] at this; exact this
        have HW : Hid (VecAt wr q 3 (ivals k fun i => 7 * i)) := by
          have := HVV.out
          rw [ivals_congr (U := fun i => 7 * (i : Int)) (fun i hi => by simp [hi])] at this; exact this
        clear HTA HVV
        go_wp2_with fail
        obtain ⟨wo, rfl⟩ : ∃ wo : World, wo = wr := ⟨_, rfl⟩
        go_loopw [10] (fun i wr => ∃ m : Nat, m ≤ l.length ∧ i = .int .i64 m ∧ ∃ V, FullAt w wr p b cap (utab k V) ∧ VecAt wr q 3 (ivals k V)) (fun i _ => l.length - (intOf i).toNat)
        case atStart => exact ⟨0, by omega, rfl, _, HU.out, HW.out⟩
        case round =>
          obtain ⟨m, hm, rfl, V, hta, hv⟩ := hrel
          have HTA := Lib.hid hta
          have HVV := Lib.hid hv
          clear hta hv HU HW e1
          by_cases hlm : m < l.length
          · have e1 : decide (m < l.length) = true := by simpa using hlm
            obtain ⟨b0, off, hAe, hb0, hc⟩ := HL.out.at_ (by omega)
            subst hAe
            obtain ⟨⟨y, z⟩, hd⟩ : ∃ d, l[m]? = some d := ⟨_, List.getElem?_eq_getElem hlm⟩
            have hcc := fun j v hj => HTA.out.frm.cell hb0 (by omega) (hc m (y, z) hd j v hj)
            have x0 := hcc 0 _ rfl
            have x1 := hcc 1 _ rfl
            clear hcc hc hd
            simp only [Nat.add_zero] at x0 x1
            have k0 : -(k : Int) < y.tmod k := by
              have := Int.lt_tmod_of_pos y (b := k) (by omega); omega
            have k1 : y.tmod k < k := Int.tmod_lt_of_pos y (by omega)
            have kz : ((k : Int) == 0) = false := by simp; omega
            go_wp2_with fail
            · have kb0 : 0 ≤ -y.tmod k := by omega
              have kb1 : -y.tmod k < k := by omega
              generalize -y.tmod k = K at *
              obtain ⟨j, rfl⟩ := Int.eq_ofNat_of_zero_le kb0
              have hjk : j < k := by omega
              refine (set_some HTA.out.tab j 1 (V j) z (utab_get hjk V)).mono ?_
              rintro e w4 ⟨rfl, ht4, hf4⟩
              rw [utab_set] at ht4
              have H4 := Lib.hid (HTA.out.next ht4 (hf4.mono fun _ _ h => .inr h))
              have HV4 := Lib.hid (HVV.out.frm hf4 (by omega))
              have y1 : w4.cell? ⟨b0, off + m * 2 + 1, none⟩ = some (.int .i64 z) := hf4.cell (lt_of_cell x1) (by have := HTA.out.hb; omega) x1
              clear ht4 hf4 HTA HVV x0 x1
              go_wp2_with fail
              refine (set_none H4.out.tab j 2 5 (at?_gen (tab_get hjk _) (by simp [Slot.gen]))).mono ?_
              rintro e w5 ⟨rfl, hf5⟩
              have H5 := Lib.hid (H4.out.keep hf5)
              have HV5 := Lib.hid (HV4.out.keep hf5)
              have z1 := hf5.cell (lt_of_cell y1) id y1
              have v0 := HV5.out.cell (ivals_get hjk _)
              have v1 := HV5.out.frozen j
              clear hf5 H4 HV4 y1
              go_wp2_with fail
              have H6 : Hid (FullAt w (w5.setCell ⟨q, j, none⟩ (.int .i64 z)) p b cap (utab k fun i => if i = j then z else V i)) :=
                ⟨H5.out.tab.frm (S := fun i => i = q) ((Frm.refl (fun i => i = q) w5).setCell (.inl rfl) _) (by omega) (by omega),
                 H5.out.frm.trans ((Frm.refl (fun j => w.heap.size ≤ j) w5).setCell (.inl (by show w.heap.size ≤ q; omega)) _), H5.out.hp, H5.out.hb⟩
              have HV6 : Hid (VecAt (w5.setCell ⟨q, j, none⟩ (.int .i64 z)) q 3 (ivals k fun i => if i = j then z else V i)) := by
                have := HV5.out.set j (.int .i64 z)
                rw [ivals_set] at this; exact this
              clear H5 HV5 v0 v1 z1
              generalize w5.setCell ⟨q, j, none⟩ (.int .i64 z) = w6 at *
              generalize (fun i => if i = j then z else V i) = V' at *
              go_loopw [12] (fun i wr => ∃ r : Nat, r ≤ k ∧ i = .int .i64 r ∧ FullAt w wr p b cap (utab k V') ∧ VecAt wr q 3 (ivals k V')) (fun i _ => k - (intOf i).toNat)
              case atStart => exact ⟨0, by omega, rfl, H6.out, HV6.out⟩
              case round =>
                obtain ⟨r, hr, rfl, hta, hv⟩ := hrel
                have HTA := Lib.hid hta
                have HVV := Lib.hid hv
                clear hta hv H6 HV6
                by_cases hlr : r < k
                · have e2 : decide (r < k) = true := by simpa using hlr
                  go_wp2_with fail
                  refine (get_some HTA.out.tab r 1 (V' r) (by rw [at?_nat (utab_get hlr V'), if_pos rfl])).mono ?_
                  rintro e w7 ⟨rfl, hf7⟩
                  have H7 := Lib.hid (HTA.out.keep hf7)
                  have HV7 := Lib.hid (HVV.out.keep hf7)
                  have v0 := HV7.out.cell (ivals_get hlr _)
                  clear hf7 HTA HVV
                  go_wp2_with fail
                  go_roundw
                  case rel => exact ⟨r + 1, by omega, by go_num, H7.out, HV7.out⟩
                  case measure => simp [intOf]; omega
                · have e2 : decide (r < k) = false := by simpa using hlr
                  go_wp2_with fail
                  go_roundw
                  case rel => exact ⟨m + 1, by omega, by go_num, V', HTA.out, HVV.out⟩
                  case measure => simp [intOf]; omega
            · have kb0 : 0 ≤ y.tmod k := by omega
              generalize y.tmod k = K at *
              obtain ⟨j, rfl⟩ := Int.eq_ofNat_of_zero_le kb0
              have hjk : j < k := by omega
              refine (set_some HTA.out.tab j 1 (V j) z (utab_get hjk V)).mono ?_
              rintro e w4 ⟨rfl, ht4, hf4⟩
              rw [utab_set] at ht4
              have H4 := Lib.hid (HTA.out.next ht4 (hf4.mono fun _ _ h => .inr h))
              have HV4 := Lib.hid (HVV.out.frm hf4 (by omega))
              have y1 : w4.cell? ⟨b0, off + m * 2 + 1, none⟩ = some (.int .i64 z) := hf4.cell (lt_of_cell x1) (by have := HTA.out.hb; omega) x1
              clear ht4 hf4 HTA HVV x0 x1
              go_wp2_with fail
              refine (set_none H4.out.tab j 2 5 (at?_gen (tab_get hjk _) (by simp [Slot.gen]))).mono ?_
              rintro e w5 ⟨rfl, hf5⟩
              have H5 := Lib.hid (H4.out.keep hf5)
              have HV5 := Lib.hid (HV4.out.keep hf5)
              have z1 := hf5.cell (lt_of_cell y1) id y1
              have v0 := HV5.out.cell (ivals_get hjk _)
              have v1 := HV5.out.frozen j
              clear hf5 H4 HV4 y1
              go_wp2_with fail
              have H6 : Hid (FullAt w (w5.setCell ⟨q, j, none⟩ (.int .i64 z)) p b cap (utab k fun i => if i = j then z else V i)) :=
                ⟨H5.out.tab.frm (S := fun i => i = q) ((Frm.refl (fun i => i = q) w5).setCell (.inl rfl) _) (by omega) (by omega),
                 H5.out.frm.trans ((Frm.refl (fun j => w.heap.size ≤ j) w5).setCell (.inl (by show w.heap.size ≤ q; omega)) _), H5.out.hp, H5.out.hb⟩
              have HV6 : Hid (VecAt (w5.setCell ⟨q, j, none⟩ (.int .i64 z)) q 3 (ivals k fun i => if i = j then z else V i)) := by
                have := HV5.out.set j (.int .i64 z)
                rw [ivals_set] at this; exact this
              clear H5 HV5 v0 v1 z1
              generalize w5.setCell ⟨q, j, none⟩ (.int .i64 z) = w6 at *
              generalize (fun i => if i = j then z else V i) = V' at *
              go_loopw [12] (fun i wr => ∃ r : Nat, r ≤ k ∧ i = .int .i64 r ∧ FullAt w wr p b cap (utab k V') ∧ VecAt wr q 3 (ivals k V')) (fun i _ => k - (intOf i).toNat)
              case atStart => exact ⟨0, by omega, rfl, H6.out, HV6.out⟩
              case round =>
                obtain ⟨r, hr, rfl, hta, hv⟩ := hrel
                have HTA := Lib.hid hta
                have HVV := Lib.hid hv
                clear hta hv H6 HV6
                by_cases hlr : r < k
                · have e2 : decide (r < k) = true := by simpa using hlr
                  go_wp2_with fail
                  refine (get_some HTA.out.tab r 1 (V' r) (by rw [at?_nat (utab_get hlr V'), if_pos rfl])).mono ?_
                  rintro e w7 ⟨rfl, hf7⟩
                  have H7 := Lib.hid (HTA.out.keep hf7)
                  have HV7 := Lib.hid (HVV.out.keep hf7)
                  have v0 := HV7.out.cell (ivals_get hlr _)
                  clear hf7 HTA HVV
                  go_wp2_with fail
                  go_roundw
                  case rel => exact ⟨r + 1, by omega, by go_num, H7.out, HV7.out⟩
                  case measure => simp [intOf]; omega
                · have e2 : decide (r < k) = false := by simpa using hlr
                  go_wp2_with fail
                  go_roundw
                  case rel => exact ⟨m + 1, by omega, by go_num, V', HTA.out, HVV.out⟩
                  case measure => simp [intOf]; omega
          · have e1 : decide (m < l.length) = false := by simpa using hlm
            go_wp2_with fail
            have hcnt := count_c HTA.out.tab
            rw [cnt_all (utab_used _ _), show (utab k V).length = k from tab_length _ _] at hcnt
            refine hcnt.mono ?_
            rintro e w6 ⟨rfl, rfl⟩
            clear hcnt
            go_wp2_with fail
            go_ret
            exact ⟨rfl, Frm.down HTA.out.frm⟩
end Go.Proofs.Ytogjnclliaagbaa
