/- TableApart: the walk. -/
import Derived.Test.YtogjnclliaagbaaC
import Derived.Test.YtogjnclliaagbaaDos
namespace Go.Proofs.Ytogjnclliaagbaa
open Go.RowKit
set_option maxRecDepth 100000 in
set_option maxHeartbeats 4000000 in
theorem apart_c (w : World) (A : Option Addr) (c : Nat) (l : List DoM) (hl : RowsAt w A 4 DoM.enc l) :
    Calls Try.prog 9 #[.slice A l.length c] w fun e w' => e = .returned (.bool true) ∧ Frm (fun _ => False) w w' := by
  have HL := Lib.hid hl
  have hlen := hl.len
  clear hl
  go_enter Try.func9, Try.ntmps9
  go_wp2_with fail
  refine (awake_c w).mono ?_
  rintro e w1 ⟨rfl, hf1⟩
  go_wp2_with fail
  refine (new_ok w1 5 (by omega) (by omega)).mono ?_
  rintro e w2 ⟨ba, ca, rfl, ht2, hb2, hf2⟩
  have s1 := hf1.size
  have s2 := hf2.size
  have HA := Lib.hid ht2
  have HF := Lib.hid (hf1.trans hf2)
  have p2 := ht2.ltp
  have q2 := ht2.ltb
  clear ht2 hf2 hf1
  go_wp2_with fail
  refine (new_ok w2 5 (by omega) (by omega)).mono ?_
  rintro e w3 ⟨bb, cb, rfl, ht3, hb3, hf3⟩
  have HA3 := Lib.hid (HA.out.keep hf3)
  have HB3 := Lib.hid ht3
  have HF3 := Lib.hid (HF.out.trans hf3)
  clear ht3 hf3 HA HF
  go_wp2_with fail
  refine (put_free HB3.out 77 1 0 rfl (by omega)).mono ?_
  rintro e w4 ⟨rfl, ht4, hf4⟩
  have HB4 := Lib.hid ht4
  have HA4 := Lib.hid (HA3.out.frm hf4 (by omega) (by omega))
  have HF4 : Hid (Frm (fun q => w.heap.size ≤ q) w w4) := HF3.out.of_none.trans (hf4.up (by omega))
  have p4 := ht4.ltp
  have q4 := ht4.ltb
  clear ht4 hf4 HA3 HB3 HF3
  go_wp2_with fail
  generalize w1.heap.size = pa at *
  generalize hpb : w2.heap.size = pb at *
  clear hpb
  go_loopw [9] (fun i wr => ∃ k : Nat, k ≤ l.length ∧ k ≤ 60 ∧ i = .int .i64 k ∧ ∃ L, TabAt wr pa ba ca L ∧ TabAt wr pb bb cb ((fresh 5).set 0 (.used 1 77)) ∧
      wr.cell? ⟨w4.heap.size, 0, none⟩ = some (.int .i64 0) ∧ wr.cell? ⟨w4.heap.size, 1, none⟩ = some (.int .u64 1) ∧ Frm (fun q => w.heap.size ≤ q) w wr) (fun i _ => 60 - (intOf i).toNat)
  case atStart => exact ⟨0, by omega, by omega, rfl, _, HA4.out.alloc _, HB4.out.alloc _, by simp, by simp, HF4.out.alloc _⟩
  case round =>
    obtain ⟨k, hk, hk60, rfl, L, hta, htb, c0, c1, hf⟩ := hrel
    have HTA := Lib.hid hta
    have HTB := Lib.hid htb
    have HFR := Lib.hid hf
    clear hta htb hf HA4 HB4 HF4
    by_cases hlt : k < l.length ∧ k < 60
    · obtain ⟨hl1, hl2⟩ := hlt
      have e1 : decide (k < l.length) = true := by simpa using hl1
      have e2 : decide ((k : Int) < 60) = true := by simp; omega
      obtain ⟨b0, off, hAe, hb0, hc⟩ := HL.out.at_ (by omega)
      subst hAe
      obtain ⟨d, hd⟩ : ∃ d, l[k]? = some d := ⟨_, List.getElem?_eq_getElem hl1⟩
      have hcc := fun j v hj => HFR.out.cell hb0 (by omega) (hc k d hd j v hj)
      have x0 := hcc 0 _ rfl
      have x1 := hcc 1 _ rfl
      have x2 := hcc 2 _ rfl
      have x3 := hcc 3 _ rfl
      clear hcc hc hd
      simp only [Nat.add_zero] at x0
      have l4 := lt_of_cell c0
      go_wp2_with fail
      all_goals first
        | (go_at_call 12; refine (put_c (HTA.out.alloc _) d.v).mono ?_; rintro e w5 ⟨s, g, cc, L', rfl, ht5, hf5, _⟩; have HA5 : Hid (∃ L, TabAt w5 pa ba ca L) := ⟨_, ht5⟩; have HB5 := Lib.hid ((HTB.out.alloc _).frm hf5 (by omega) (by omega)); have c05 := cell_via hf5 (by omega) c0; have c15 := cell_via hf5 (by omega) c1; have HF5 : Hid (Frm (fun q => w.heap.size ≤ q) w w5) := (HFR.out.alloc _).trans (hf5.up (by omega)); clear ht5 hf5 HTA HTB HFR c0 c1 x0 x1 x2 x3; go_wp2_with fail)
        | (go_at_call 15; refine (set_c (HTA.out.alloc _) d.slot d.gen d.v).mono ?_; rintro e w5 ⟨cc, L', rfl, ht5, hf5, _⟩; have HA5 : Hid (∃ L, TabAt w5 pa ba ca L) := ⟨_, ht5⟩; have HB5 := Lib.hid ((HTB.out.alloc _).frm hf5 (by omega) (by omega)); have c05 := cell_via hf5 (by omega) c0; have c15 := cell_via hf5 (by omega) c1; have HF5 : Hid (Frm (fun q => w.heap.size ≤ q) w w5) := (HFR.out.alloc _).trans (hf5.up (by omega)); clear ht5 hf5 HTA HTB HFR c0 c1 x0 x1 x2 x3; go_wp2_with fail)
        | (go_at_call 13; refine (drop_c (HTA.out.alloc _) d.slot d.gen).mono ?_; rintro e w5 ⟨v, cc, L', rfl, ht5, hf5, _⟩; have HA5 : Hid (∃ L, TabAt w5 pa ba ca L) := ⟨_, ht5⟩; have HB5 := Lib.hid ((HTB.out.alloc _).frm hf5 (by omega) (by omega)); have c05 := cell_via hf5 (by omega) c0; have c15 := cell_via hf5 (by omega) c1; have HF5 : Hid (Frm (fun q => w.heap.size ≤ q) w w5) := (HFR.out.alloc _).trans (hf5.up (by omega)); clear ht5 hf5 HTA HTB HFR c0 c1 x0 x1 x2 x3; go_wp2_with fail)
        | (go_at_call 14; have HA5 : Hid (∃ L, TabAt (wr.alloc (.cells #[.int .i64 d.kind, .int .i64 d.v, .int .i64 d.slot, .int .u64 d.gen] 35)) pa ba ca L) := ⟨_, HTA.out.alloc _⟩; have HB5 := Lib.hid (HTB.out.alloc (.cells #[.int .i64 d.kind, .int .i64 d.v, .int .i64 d.slot, .int .u64 d.gen] 35)); have c05 := cell_via (Frm.refl (fun _ => False) (wr.alloc (.cells #[.int .i64 d.kind, .int .i64 d.v, .int .i64 d.slot, .int .u64 d.gen] 35))) id c0; have c15 := cell_via (Frm.refl (fun _ => False) (wr.alloc (.cells #[.int .i64 d.kind, .int .i64 d.v, .int .i64 d.slot, .int .u64 d.gen] 35))) id c1; have HF5 := Lib.hid (HFR.out.alloc (.cells #[.int .i64 d.kind, .int .i64 d.v, .int .i64 d.slot, .int .u64 d.gen] 35)); clear HTA HTB HFR c0 c1 x0 x1 x2 x3; generalize wr.alloc (.cells #[.int .i64 d.kind, .int .i64 d.v, .int .i64 d.slot, .int .u64 d.gen] 35) = w5 at *)
      all_goals
        refine (get_some HB5.out 0 1 77 rfl).mono ?_
        rintro e w6 ⟨rfl, hf6⟩
        obtain ⟨L6, HA6⟩ : ∃ L, Hid (TabAt w6 pa ba ca L) := ⟨_, HA5.out.choose_spec.keep hf6⟩
        have HB6 := Lib.hid (HB5.out.keep hf6)
        have HF6 := Lib.hid (HF5.out.trans hf6.of_none)
        have c06 := hf6.cell (lt_of_cell c05) id c05
        have c16 := hf6.cell (lt_of_cell c15) id c15
        clear hf6 HA5 HB5 HF5 c05 c15
        go_wp2_with fail
        refine (count_c HB6.out).mono ?_
        rintro e w7 ⟨rfl, rfl⟩
        go_wp2_with fail
        refine (all_c HB6.out).mono ?_
        rintro e w7 ⟨v, rfl, hown, hf7⟩
        obtain ⟨A, c, rfl⟩ := own_slice hown
        clear hown
        go_wp2_with fail
        go_roundw
        case rel => exact ⟨k + 1, by omega, by omega, by go_num, L6, HA6.out.keep hf7, HB6.out.keep hf7, hf7.cell (lt_of_cell c06) id c06, hf7.cell (lt_of_cell c16) id c16, HF6.out.trans hf7.of_none⟩
        case measure => simp [intOf]; omega
    · by_cases hx : k < l.length
      · have e1 : decide (k < l.length) = true := by simpa using hx
        have e2 : decide ((k : Int) < 60) = false := by simp; omega
        clear hlt
        go_wp2_with fail
        go_ret
        exact ⟨rfl, Frm.down HFR.out⟩
      · have e1 : decide (k < l.length) = false := by simpa using hx
        clear hlt
        go_wp2_with fail
        go_ret
        exact ⟨rfl, Frm.down HFR.out⟩
end Go.Proofs.Ytogjnclliaagbaa
