/- TableStale: the walk. -/
import Derived.Test.YtogjnclliaagbaaC
import Derived.Test.YtogjnclliaagbaaDos
namespace Go.Proofs.Ytogjnclliaagbaa
open Go.RowKit
/-- The box of a handle. -/
structure BoxAt (wr : World) (q : Nat) (s g : Int) : Prop where
  c0 : wr.cell? ⟨q, 0, none⟩ = some (.int .i64 s)
  c1 : wr.cell? ⟨q, 1, none⟩ = some (.int .u64 g)
theorem BoxAt.via {S : Nat → Prop} {w w' : World} {q : Nat} {s g : Int} (h : BoxAt w q s g) (hf : Frm S w w') (hs : ¬ S q) : BoxAt w' q s g :=
  ⟨hf.cell (lt_of_cell h.c0) hs h.c0, hf.cell (lt_of_cell h.c0) hs h.c1⟩
theorem BoxAt.alloc {w : World} {q : Nat} {s g : Int} (h : BoxAt w q s g) (o : Obj) : BoxAt (w.alloc o) q s g := h.via (S := fun _ => False) ((Frm.refl _ _).alloc o) id
theorem BoxAt.keep {w w' : World} {q : Nat} {s g : Int} (h : BoxAt w q s g) (hf : Frm (fun _ => False) w w') : BoxAt w' q s g := h.via hf id
theorem BoxAt.new (w : World) (s g : Int) (t : TypeId) : BoxAt (w.alloc (.cells #[.int .i64 s, .int .u64 g] t)) w.heap.size s g := ⟨by simp, by simp⟩
set_option maxRecDepth 100000 in
set_option maxHeartbeats 4000000 in
theorem stale_c (w : World) (x v : Int) (hx : 0 ≤ x ∧ x ≤ 255) (A B : Option Addr) (cA cB : Nat) (l l' : List DoM) (hl : RowsAt w A 4 DoM.enc l) (hl' : RowsAt w B 4 DoM.enc l') :
    Calls Try.prog 3 #[.int .u8 x, .int .i64 v, .agg #[.slice A l.length cA, .slice B l'.length cB]] w fun e w' => e = .returned (.bool true) ∧ Frm (fun _ => False) w w' := by
  obtain ⟨hx0, hx1⟩ := hx
  have HL := Lib.hid hl
  have HL' := Lib.hid hl'
  have hlen := hl.len
  have hlen' := hl'.len
  clear hl hl'
  go_enter Try.func3, Try.ntmps3
  go_wp2_with fail
  refine (awake_c _).mono ?_
  rintro e w1 ⟨rfl, hf1⟩
  have b0 : w1.cell? ⟨w.heap.size, 0, none⟩ = some (.slice A l.length cA) := hf1.cell (by simp) id (by simp)
  have b1 : w1.cell? ⟨w.heap.size, 1, none⟩ = some (.slice B l'.length cB) := hf1.cell (by simp) id (by simp)
  have HF1 := Lib.hid (((Frm.refl (fun _ => False) w).alloc _).trans hf1)
  clear hf1
  go_wp2_with fail
  have hn1 : 1 ≤ 1 + x % 20 := by omega
  have hn2 : 1 + x % 20 ≤ 20 := by omega
  generalize 1 + x % 20 = N at *
  obtain ⟨n, rfl⟩ := Int.eq_ofNat_of_zero_le (show 0 ≤ N by omega)
  refine (new_ok w1 n (by omega) (by omega)).mono ?_
  rintro e w2 ⟨b, cap, rfl, ht2, hb, hf2⟩
  have s1 := HF1.out.size
  have H2 : Hid (FullAt w w2 w1.heap.size b cap (fresh n)) := ⟨ht2, (HF1.out.trans hf2).of_none, s1, by omega⟩
  clear ht2 hf2 b0 b1
  generalize w1.heap.size = p at *
  go_wp2_with fail
  refine (put_free H2.out.tab v 1 0 (fresh_get (by omega)) (by omega)).mono ?_
  rintro e w3 ⟨rfl, ht3, hf3⟩
  have H3 := Lib.hid ((H2.out.next ht3 hf3).alloc (.cells #[.int .i64 0, .int .u64 1] 31))
  have hL3 : ((fresh n).set 0 (.used 1 v))[0]? = some (.used 1 v) := List.getElem?_set_self (by rw [fresh_length]; omega)
  have HL3 := Lib.hid hL3
  have BX := Lib.hid (BoxAt.new w3 0 1 31)
  have p3 := ht3.ltp
  have q3 := ht3.ltb
  clear ht3 hf3 H2 hL3
  go_wp2_with fail
  go_loopw [13] (fun i wr => ∃ k : Nat, k ≤ l.length ∧ k ≤ 120 ∧ i = .int .i64 k ∧ ∃ L, FullAt w wr p b cap L ∧ L[0]? = some (.used 1 v) ∧ BoxAt wr w3.heap.size 0 1 ∧ p < w3.heap.size ∧ b < w3.heap.size) (fun i _ => 120 - (intOf i).toNat)
  case atStart => exact ⟨0, by omega, by omega, rfl, _, H3.out, HL3.out, BX.out, p3, q3⟩
  case round =>
    obtain ⟨k, hk, hk60, rfl, L, hta, hL0, hbx, hpq, hbq⟩ := hrel
    have HTA := Lib.hid hta
    have HL0 := Lib.hid hL0
    have HBX := Lib.hid hbx
    have c0 := hbx.c0
    have c1 := hbx.c1
    have l4 := lt_of_cell c0
    clear hta hL0 hbx H3 HL3 BX
    by_cases hlt : k < l.length ∧ k < 120
    · obtain ⟨hl1, hl2⟩ := hlt
      have e1 : decide (k < l.length) = true := by simpa using hl1
      have e2 : decide ((k : Int) < 120) = true := by simp; omega
      obtain ⟨b0, off, hAe, hb0, hc⟩ := HL.out.at_ (by omega)
      subst hAe
      obtain ⟨d, hd⟩ : ∃ d, l[k]? = some d := ⟨_, List.getElem?_eq_getElem hl1⟩
      have hcc := fun j v hj => HTA.out.frm.cell hb0 (by omega) (hc k d hd j v hj)
      have x0 := hcc 0 _ rfl
      have x1 := hcc 1 _ rfl
      have x2 := hcc 2 _ rfl
      have x3 := hcc 3 _ rfl
      clear hcc hc hd
      simp only [Nat.add_zero] at x0
      go_wp2_with fail
      all_goals first
        | (go_at_call 12; refine (put_c (HTA.out.tab.alloc _) _).mono ?_; rintro e w5 ⟨s, g, cc, L6, rfl, ht5, hf5, hp5⟩; have H5 := Lib.hid ((HTA.out.alloc _).next ht5 hf5); have HL5 := Lib.hid (put_keeps hp5 HL0.out); have HBX5 := Lib.hid ((HBX.out.alloc _).via hf5 (by omega)); have c05 := HBX5.out.c0; have c15 := HBX5.out.c1; clear ht5 hf5 hp5 HTA HBX HL0 c0 c1 x0 x1 x2 x3; go_wp2_with fail; refine (get_some H5.out.tab 0 1 v (at?_zero HL5.out)).mono ?_; rintro e w6 ⟨rfl, hf6⟩; have H6 := Lib.hid (H5.out.keep hf6); have HL6 := HL5; have HBX6 := Lib.hid (HBX5.out.keep hf6); clear hf6 H5 HBX5; clear c05 c15)
        | (go_at_call 13; refine (drop_c (HTA.out.tab.alloc _) _ _).mono ?_; rintro e w5 ⟨v', cc, L6, rfl, ht5, hf5, hp5⟩; have H5 := Lib.hid ((HTA.out.alloc _).next ht5 hf5); have HL5 := Lib.hid (drop_keeps hp5 HL0.out (by omega)); have HBX5 := Lib.hid ((HBX.out.alloc _).via hf5 (by omega)); have c05 := HBX5.out.c0; have c15 := HBX5.out.c1; clear ht5 hf5 hp5 HTA HBX HL0 c0 c1 x0 x1 x2 x3; go_wp2_with fail; refine (get_some H5.out.tab 0 1 v (at?_zero HL5.out)).mono ?_; rintro e w6 ⟨rfl, hf6⟩; have H6 := Lib.hid (H5.out.keep hf6); have HL6 := HL5; have HBX6 := Lib.hid (HBX5.out.keep hf6); clear hf6 H5 HBX5; clear c05 c15)
        | (go_at_call 14; refine (get_some (HTA.out.tab.alloc _) 0 1 v (at?_zero HL0.out)).mono ?_; rintro e w6 ⟨rfl, hf6⟩; have H6 := Lib.hid ((HTA.out.alloc _).keep hf6); have HL6 := HL0; have HBX6 := Lib.hid ((HBX.out.alloc _).keep hf6); clear hf6 HTA HBX HL0 c0 c1 x0 x1 x2 x3)
      all_goals
        go_wp2_with fail
        go_roundw
        case rel => exact ⟨k + 1, by omega, by omega, by go_num, _, H6.out, HL6.out, HBX6.out, hpq, hbq⟩
        case measure => simp [intOf]; omega
    · have hex : (decide (k < l.length) = true ∧ decide ((k : Int) < 120) = false) ∨ decide (k < l.length) = false := by
        by_cases h : k < l.length
        · left; simp; omega
        · right; simpa using h
      clear hlt
      rcases hex with ⟨e1, e2⟩ | e1
      all_goals
        go_wp2_with fail
        refine (drop_some HTA.out.tab 0 1 v HL0.out).mono ?_
        rintro e w4 ⟨rfl, ht4, hf4⟩
        rw [wrap_u64 (by omega) (by omega)] at ht4
        have H4 := Lib.hid (HTA.out.next ht4 hf4)
        have HG4 : Hid (∃ t, (L.set 0 (.free (1 + 1)))[0]? = some t ∧ 2 ≤ t.gen ∧ t.gen ≤ 2 + ((0 : Nat) : Int)) :=
          ⟨_, List.getElem?_set_self (List.getElem?_eq_some_iff.1 HL0.out).1, by simp [Slot.gen], by simp [Slot.gen]⟩
        have HBX4 := Lib.hid (HBX.out.via hf4 (by omega))
        clear ht4 hf4 HTA HBX HL0 c0 c1
        go_wp2_with fail
        obtain ⟨wo, rfl⟩ : ∃ wo : World, wo = wr := ⟨_, rfl⟩
        go_loopw [19] (fun i wr => ∃ m : Nat, m ≤ l'.length ∧ m ≤ 120 ∧ i = .int .i64 m ∧ ∃ L, FullAt w wr p b cap L ∧ (∃ t, L[0]? = some t ∧ 2 ≤ t.gen ∧ t.gen ≤ 2 + (m : Int)) ∧ BoxAt wr w3.heap.size 0 1) (fun i _ => 120 - (intOf i).toNat)
        case atStart => exact ⟨0, by omega, by omega, rfl, _, H4.out, HG4.out, HBX4.out⟩
        case round =>
          obtain ⟨m, hm, hm120, rfl, L, hta, hgen, hbx⟩ := hrel
          have HTA := Lib.hid hta
          have HG := Lib.hid hgen
          have HBX := Lib.hid hbx
          have c0 := hbx.c0
          have c1 := hbx.c1
          have l4 := lt_of_cell c0
          clear hta hgen hbx H4 HG4 HBX4 e1
          by_cases hlt : m < l'.length ∧ m < 120
          · obtain ⟨hl1, hl2⟩ := hlt
            have e1 : decide (m < l'.length) = true := by simpa using hl1
            have e2 : decide ((m : Int) < 120) = true := by simp; omega
            obtain ⟨b0, off, hAe, hb0, hc⟩ := HL'.out.at_ (by omega)
            subst hAe
            obtain ⟨d, hd⟩ : ∃ d, l'[m]? = some d := ⟨_, List.getElem?_eq_getElem hl1⟩
            have hcc := fun j v hj => HTA.out.frm.cell hb0 (by omega) (hc m d hd j v hj)
            have x0 := hcc 0 _ rfl
            have x1 := hcc 1 _ rfl
            have x2 := hcc 2 _ rfl
            have x3 := hcc 3 _ rfl
            clear hcc hc hd
            simp only [Nat.add_zero] at x0
            go_wp2_with fail
            all_goals first
              | (go_at_call 12; refine (put_c HTA.out.tab _).mono ?_; rintro e w5 ⟨s, g, cc, L6, rfl, ht5, hf5, hp5⟩; have H5 := Lib.hid (HTA.out.next ht5 hf5); have HL5 : Hid (∃ t, L6[0]? = some t ∧ 2 ≤ t.gen ∧ t.gen ≤ 2 + ((m : Int) + 1)) := (by obtain ⟨t, h1, h2, h3⟩ := HG.out; obtain ⟨t', h4, h5⟩ := put_gen hp5 h1; exact ⟨t', h4, by omega, by omega⟩); have HBX5 := Lib.hid (HBX.out.via hf5 (by omega)); have c05 := HBX5.out.c0; have c15 := HBX5.out.c1; clear ht5 hf5 hp5 HTA HBX HG c0 c1 x0 x1 x2 x3; go_wp2_with fail)
              | (go_at_call 13; refine (drop_c HTA.out.tab _ _).mono ?_; rintro e w5 ⟨v', cc, L6, rfl, ht5, hf5, hp5⟩; have H5 := Lib.hid (HTA.out.next ht5 hf5); have HL5 : Hid (∃ t, L6[0]? = some t ∧ 2 ≤ t.gen ∧ t.gen ≤ 2 + ((m : Int) + 1)) := (by obtain ⟨t, h1, h2, h3⟩ := HG.out; obtain ⟨t', h4, h5⟩ := drop_gen hp5 h1; rw [wrap_u64 (by omega) (by omega)] at h5; exact ⟨t', h4, by omega, by omega⟩); have HBX5 := Lib.hid (HBX.out.via hf5 (by omega)); have c05 := HBX5.out.c0; have c15 := HBX5.out.c1; clear ht5 hf5 hp5 HTA HBX HG c0 c1 x0 x1 x2 x3; go_wp2_with fail)
              | (go_at_call 14; obtain ⟨w5, hw5⟩ : ∃ w5, w5 = wr := ⟨_, rfl⟩; subst hw5; obtain ⟨L6, hL6⟩ : ∃ L6, L6 = L := ⟨_, rfl⟩; subst hL6; have H5 := HTA; have HL5 : Hid (∃ t, L6[0]? = some t ∧ 2 ≤ t.gen ∧ t.gen ≤ 2 + ((m : Int) + 1)) := (by obtain ⟨t, h1, h2, h3⟩ := HG.out; exact ⟨t, h1, h2, by omega⟩); have HBX5 := HBX; clear HTA HBX HG c0 c1 x0 x1 x2 x3)
            all_goals
              have hat : at? L6 0 1 = none := by obtain ⟨t, h1, h2, h3⟩ := HL5.out; exact at?_gen h1 (by omega)
              have HAT := Lib.hid hat
              clear hat
              refine (get_none H5.out.tab 0 1 HAT.out).mono ?_
              rintro e w6 ⟨rfl, hf6⟩
              have H6 := Lib.hid (H5.out.keep hf6)
              have HBX6 := Lib.hid (HBX5.out.keep hf6)
              have c06 := HBX6.out.c0
              have c16 := HBX6.out.c1
              clear hf6 H5 HBX5
              go_wp2_with fail
              refine (drop_none H6.out.tab 0 1 HAT.out).mono ?_
              rintro e w7 ⟨rfl, hf7⟩
              have H7 := Lib.hid (H6.out.keep hf7)
              have HBX7 := Lib.hid (HBX6.out.keep hf7)
              have c07 := HBX7.out.c0
              have c17 := HBX7.out.c1
              clear hf7 H6 HBX6 c06 c16
              go_wp2_with fail
              refine (set_none H7.out.tab 0 1 1 HAT.out).mono ?_
              rintro e w8 ⟨rfl, hf8⟩
              have H8 := Lib.hid (H7.out.keep hf8)
              have HBX8 := Lib.hid (HBX7.out.keep hf8)
              clear hf8 H7 HBX7 c07 c17
              go_wp2_with fail
              go_roundw
              case rel => exact ⟨m + 1, by omega, by omega, by go_num, _, H8.out, by obtain ⟨t, h1, h2, h3⟩ := HL5.out; exact ⟨t, h1, h2, by omega⟩, HBX8.out⟩
              case measure => simp [intOf]; omega
          · have hex : (decide (m < l'.length) = true ∧ decide ((m : Int) < 120) = false) ∨ decide (m < l'.length) = false := by
              by_cases h : m < l'.length
              · left; simp; omega
              · right; simpa using h
            clear hlt
            rcases hex with ⟨e1, e2⟩ | e1
            all_goals
              go_wp2_with fail
              go_ret
              exact ⟨rfl, Frm.down HTA.out.frm⟩
end Go.Proofs.Ytogjnclliaagbaa
