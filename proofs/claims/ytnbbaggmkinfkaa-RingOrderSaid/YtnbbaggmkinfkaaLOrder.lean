/- RingOrder: the walk. -/
import Derived.Test.YtnbbaggmkinfkaaNum
import Derived.Deep.RegionHeld3
namespace Go.Proofs.Ytnbbaggmkinfkaa
open Go.RowKit
structure Ord (w wr : World) (p b q s a t R : Nat) (F G : Nat → Bool) : Prop where
  ring : LRing w wr p b s a t R G
  hq : w.heap.size ≤ q ∧ q ≠ p ∧ q ≠ b
  vec : VecAt wr q 4 (vals 152 fun m => .bool (F m))
  off : ∀ m, a ≤ m → G m = false
section
variable {w wr w' : World} {p b q s a t R a' t' R' : Nat} {F G G' : Nat → Bool}
theorem Ord.next (h : Ord w wr p b q s a t R F G) (hr : LRing w w' p b s a' t' R' G') (hf : Frm (fun k => k = p ∨ k = b) wr w') (ho : ∀ m, a' ≤ m → G' m = false) : Ord w w' p b q s a' t' R' F G' := by
  obtain ⟨_, ⟨q1, q2, q3⟩, hv, _⟩ := h
  exact ⟨hr, ⟨q1, q2, q3⟩, hv.frm hf (by omega), ho⟩
theorem Ord.keep (h : Ord w wr p b q s a t R F G) (hf : Frm (fun _ => False) wr w') : Ord w w' p b q s a t R F G :=
  ⟨h.ring.keep hf, h.hq, h.vec.keep hf, h.off⟩
theorem Ord.alloc (h : Ord w wr p b q s a t R F G) (o : Obj) : Ord w (wr.alloc o) p b q s a t R F G := h.keep ((Frm.refl _ _).alloc o)
theorem Ord.mark {k : Nat} (h : Ord w wr p b q s a t R F (upd F k)) : Ord w (wr.setCell ⟨q, k, none⟩ (.bool true)) p b q s a t R (upd F k) (upd F k) := by
  obtain ⟨hr, ⟨q1, q2, q3⟩, hv, hb⟩ := h
  refine ⟨hr.frame ((Frm.refl (fun k => k = q) _).setCell (.inl rfl) _) q2 q3 q1, ⟨q1, q2, q3⟩, ?_, hb⟩
  have := hv.set k (.bool true)
  rw [vals_set] at this
  rw [show (vals 152 fun m => .bool (upd F k m)) = (vals 152 fun m => if m = k then .bool true else .bool (F m)) from vals_congr fun i _ => by unfold upd; split <;> rfl]
  exact this
theorem Ord.bit (h : Ord w wr p b q s a t R F G) (k : Nat) (hk : k < 152) : wr.cell? ⟨q, k, none⟩ = some (.bool (F k)) := h.vec.cell (vals_get hk _)
end
set_option maxRecDepth 100000 in
set_option maxHeartbeats 8000000 in
theorem order_c (w : World) (x : Int) (hx : 0 ≤ x ∧ x ≤ 255) (A : Option Addr) (c : Nat) (l : List DoM) (hl : RowsAt w A 12 DoM.enc l) :
    Calls Try.prog 3 #[.int .u8 x, .slice A l.length c] w fun e w' => e = .returned (.bool true) ∧ Frm (fun _ => False) w w' := by
  obtain ⟨hx0, hx1⟩ := hx
  have HL := Lib.hid hl
  have hlen := hl.len
  clear hl
  have hmk : ∀ w : World, (Instr.makeSlice 28 (.int .i64 152) (.int .i64 152)).run Try.prog w = .ok (.slice (some ⟨w.heap.size, 0, none⟩) 152 152) (w.alloc (.cells (vals 152 fun _ => .bool false).toArray 4)) := run_make_vec (P := Try.prog) 28 4 (.bool false) 1 Try.underlying28 info4 rfl 152 (by omega) (by omega)
  go_enter Try.func3, Try.ntmps3
  go_wp2_with fail
  refine (awake_c w).mono ?_
  rintro e w1 ⟨rfl, hf1⟩
  have HF1 := Lib.hid hf1
  clear hf1
  go_wp2_with fail
  have hn1 : 1 ≤ 1 + x % 64 := by omega
  have hn2 : 1 + x % 64 ≤ 64 := by omega
  generalize hN : 1 + x % 64 = N at *
  obtain ⟨s, rfl⟩ := Int.eq_ofNat_of_zero_le (show 0 ≤ N by omega)
  refine (new_ok w1 s (by omega) (by omega)).mono ?_
  rintro e w2 ⟨rfl, hr2, hf2⟩
  have hsz := HF1.out.size
  have H0 : Hid (LRing w w2 (w1.heap.size + 1) w1.heap.size s 0 0 0 (fun _ => false)) := ⟨⟨by omega, by omega⟩, (HF1.out.trans hf2).of_none, _, _, hr2, rfl, fun m h => by omega⟩
  have hl5 := H0.out.lt
  have H5 : Hid (Ord w (w2.alloc (.cells (vals 152 fun _ => .bool false).toArray 4)) (w1.heap.size + 1) w1.heap.size w2.heap.size s 0 0 0 (fun _ => false) (fun _ => false)) :=
        ⟨H0.out.alloc _, ⟨H0.out.frm.size, by omega, by omega⟩, VecAt.new _ _ _, fun m hm => rfl⟩
  clear hr2 hf2 HF1 H0 hl5
  generalize hpp : w1.heap.size + 1 = p at *
  generalize hbb : w1.heap.size = b at *
  clear hpp hbb
  go_wp2_with fail
  generalize w2.heap.size = q at *
  generalize (w2.alloc (.cells (vals 152 fun _ => .bool false).toArray 4)) = wz at *
  clear hmk
  have hk0 := H5.out.hq
  go_loopw [7, 8, 9, 11] (fun va vt vr i wr => ∃ k a t R : Nat, ∃ F, k ≤ l.length ∧ k ≤ 150 ∧ a ≤ k ∧ va = .int .i64 a ∧ vt = .int .i64 t ∧ vr = .int .i64 R ∧ i = .int .i64 k ∧ Ord w wr p b q s a t R F F) (fun _ _ _ i _ => 150 - (intOf i).toNat)
  case atStart => exact ⟨0, 0, 0, 0, _, by omega, by omega, by omega, rfl, rfl, rfl, rfl, H5.out⟩
  case round =>
    obtain ⟨k, a, t, R, F, hk, hk1, hak, rfl, rfl, rfl, rfl, hA⟩ := hrel
    obtain ⟨⟨lp, lb⟩, o1, o2, o3⟩ := hA.ring.lt
    have lq := hA.vec.lt
    have HA := Lib.hid hA
    clear hA H5
    by_cases hlt : k < l.length ∧ k < 150
    · obtain ⟨hl1, hl2⟩ := hlt
      have e1 : decide (k < l.length) = true := by simpa using hl1
      have e2 : decide ((k : Int) < 150) = true := by simp; omega
      obtain ⟨b0, off, hAe, hb0, hc⟩ := HL.out.at_ (by omega)
      subst hAe
      obtain ⟨d, hd⟩ : ∃ d, l[k]? = some d := ⟨_, List.getElem?_eq_getElem hl1⟩
      have hcc := fun j v hj => HA.out.ring.frm.cell hb0 (by omega) (hc k d hd j v hj)
      have x0 := hcc 0 _ rfl
      have x10 := hcc 10 _ rfl
      have x11 := hcc 11 _ rfl
      clear hcc hc hd
      simp only [Nat.add_zero] at x0
      obtain ⟨kind, dd, no, st⟩ := d
      simp only at x0 x10 x11
      go_wp2_with fail
      · by_cases ha : a < R + s
        · refine (HA.out.ring.put ha (by omega) (HA.out.off _ (Nat.le_refl _))).mono ?_
          rintro e w3 ⟨rfl, hr3, hf3⟩
          have H3 := Lib.hid (HA.out.next hr3 hf3 (fun m hm => HA.out.off m (by omega)))
          clear hr3 hf3 HA
          go_wp2_with fail
          go_roundw
          case rel => exact ⟨k + 1, a + 1, t, R, F, by omega, by omega, by omega, by go_num, rfl, rfl, by go_num, H3.out⟩
          case measure => simp [intOf]; omega
        · have e3 : (((a : Int) - R) == s) = true := by simp; omega
          have e4 : (((a : Int) - R) == (1 + x % 64)) = true := by simp; omega
          refine (HA.out.ring.full (by omega) a (by omega) (by omega)).mono ?_
          rintro e w3 ⟨rfl, hf3⟩
          have H3 := Lib.hid (HA.out.keep hf3)
          clear hf3 HA
          go_wp2_with fail
          go_roundw
          case rel => exact ⟨k + 1, a, t, R, F, by omega, by omega, by omega, rfl, rfl, rfl, by go_num, H3.out⟩
          case measure => simp [intOf]; omega
      · by_cases ha : t < a
        · refine (HA.out.ring.take ha).mono ?_
          rintro e w3 ⟨op, sl, ge, fr, le, de, dn, st', rfl, hr3, hf3⟩
          have H3 := Lib.hid ((HA.out.next hr3 hf3 HA.out.off).alloc (.cells (DM.cells ⟨op, t, sl, ge, fr, le, de, dn, st'⟩).toArray 33))
          clear hr3 hf3 HA
          go_wp2_with fail
          go_roundw
          case rel => exact ⟨k + 1, a, t + 1, R, F, by omega, by omega, by omega, rfl, by go_num, rfl, by go_num, H3.out⟩
          case measure => simp [intOf]; omega
        · obtain rfl : t = a := by omega
          refine (HA.out.ring.none_ rfl).mono ?_
          rintro e w3 ⟨rfl, hf3⟩
          have H3 := Lib.hid ((HA.out.keep hf3).alloc (.cells (DM.cells DM.zero).toArray 33))
          clear hf3 HA
          go_wp2_with fail
          go_roundw
          case rel => exact ⟨k + 1, t, t, R, F, by omega, by omega, by omega, rfl, rfl, rfl, by go_num, H3.out⟩
          case measure => simp [intOf]; omega
      · have q1 : (0 : Int) ≤ (k : Int) := by omega
        have q2 : (k : Int) < (l.length : Int) := by omega
        have hb0' : b0 < wr.heap.size := by have := HA.out.ring.frm.size; omega
        have HD := Lib.hid (HA.out.keep (Frm.refl _ _).drew)
        have z10 : wr.drew.cell? ⟨b0, off + k * 12 + 10, none⟩ = some (.int .i64 no) := x10
        have z11 : wr.drew.cell? ⟨b0, off + k * 12 + 11, none⟩ = some (.int .i64 st) := x11
        go_region_held3 (fun w' => w'.cell? ⟨b0, off + k * 12 + 10, none⟩ = some (.int .i64 no) ∧ w'.cell? ⟨b0, off + k * 12 + 11, none⟩ = some (.int .i64 st))
          (first | exact ⟨x10, x11⟩ | exact ⟨z10, z11⟩ | exact ⟨y10, y11⟩ | go_keep)
          (first
            | (go_at_call 12; with_reducible refine (HD.out.ring.fin no st).mono ?_; rintro e w3 ⟨cc, G', rfl, hfin, hr3, hf3⟩; have HI := Lib.hid hfin; have HF := Lib.hid hf3; have HR := Lib.hid hr3; have y10 := hf3.cell hb0' (by have := HA.out.ring.hp; omega) z10; have y11 := hf3.cell hb0' (by have := HA.out.ring.hp; omega) z11; clear hfin hr3 hf3))
        clear x0 x10 x11 z10 z11
        rcases HI.out with ⟨rfl, j, rfl, j1, j2, j3, rfl⟩ | ⟨hcc, rfl⟩
        · have hn := HD.out.next HR.out HF.out (fun m hm => by simp [upd, show m ≠ j by omega]; exact HD.out.off m hm)
          have v3 := hn.bit j (by omega)
          rw [j3] at v3
          have f3 := hn.vec.frozen j
          have H3 := Lib.hid hn.mark
          have u1 : decide ((j : Int) < (R : Int)) = false := by simp; omega
          have u2 : decide ((t : Int) ≤ (j : Int)) = false := by simp; omega
          have u3 : (j : Int) < 152 := by omega
          clear hn HD HA HR HF HI
          go_wp2_with fail
          go_roundw
          case rel => exact ⟨k + 1, a, t, R, _, by omega, by omega, by omega, rfl, rfl, rfl, by go_num, H3.out⟩
          case measure => simp [intOf]; omega
        · have hcc' : (cc == 0) = false := by simpa using hcc
          have H3 := Lib.hid (HD.out.next HR.out HF.out HD.out.off)
          clear HD HA HR HF HI
          go_wp2_with fail
          go_roundw
          case rel => exact ⟨k + 1, a, t, R, _, by omega, by omega, by omega, rfl, rfl, rfl, by go_num, H3.out⟩
          case measure => simp [intOf]; omega
      · by_cases hr : R < a ∧ F R = true
        · refine (HA.out.ring.reap hr.1 hr.2).mono ?_
          rintro e w3 ⟨op, sl, ge, fr, le, st', rfl, hr3, hf3⟩
          have hn := HA.out.next hr3 hf3 HA.out.off
          have v4 := hn.bit R (by omega)
          rw [hr.2] at v4
          have lq3 := hn.vec.lt
          have H3 := Lib.hid (hn.alloc (.cells (DM.cells ⟨op, R, sl, ge, fr, le, false, true, st'⟩).toArray 33))
          clear hr3 hf3 HA hn
          go_wp2_with fail
          go_roundw
          case rel => exact ⟨k + 1, a, t, R + 1, F, by omega, by omega, by omega, rfl, rfl, by go_num, by go_num, H3.out⟩
          case measure => simp [intOf]; omega
        · have hst : R < a → F R = false := fun h => by
            cases hh : F R with
            | true => exact absurd ⟨h, hh⟩ hr
            | false => rfl
          refine (HA.out.ring.stop hst).mono ?_
          rintro e w3 ⟨cc, rfl, hcc, hf3⟩
          have hcc' : (cc == 0) = false := by simpa using hcc
          have hn := HA.out.keep hf3
          have v4 := hn.bit R (by omega)
          have lq3 := hn.vec.lt
          have H3 := Lib.hid (hn.alloc (.cells (DM.cells DM.zero).toArray 33))
          clear hf3 HA hn
          by_cases hra : R < a
          · have y1 : decide (R < a) = true := by simpa using hra
            have y2 : decide ((R : Int) < (a : Int)) = true := by simpa using hra
            rw [hst hra] at v4
            go_wp2_with fail
            go_roundw
            case rel => exact ⟨k + 1, a, t, R, F, by omega, by omega, by omega, rfl, rfl, rfl, by go_num, H3.out⟩
            case measure => simp [intOf]; omega
          · have y1 : decide (R < a) = false := by simpa using hra
            have y2 : decide ((R : Int) < (a : Int)) = false := by simpa using hra
            go_wp2_with fail
            go_roundw
            case rel => exact ⟨k + 1, a, t, R, F, by omega, by omega, by omega, rfl, rfl, rfl, by go_num, H3.out⟩
            case measure => simp [intOf]; omega
      · go_roundw
        case rel => exact ⟨k + 1, a, t, R, F, by omega, by omega, by omega, rfl, rfl, rfl, by go_num, HA.out⟩
        case measure => simp [intOf]; omega
    · have e1 : (decide (k < l.length) = true ∧ decide ((k : Int) < 150) = false) ∨ decide (k < l.length) = false := by
        by_cases hh : k < l.length
        · exact .inl ⟨by simpa using hh, by simp; omega⟩
        · exact .inr (by simpa using hh)
      have e5 : decide ((R : Int) ≤ t) = true := by simp; omega
      have e6 : decide ((t : Int) ≤ a) = true := by simp; omega
      rcases e1 with ⟨e1, e2⟩ | e1
      all_goals
        go_wp2_with fail
        go_ret
        exact ⟨rfl, HA.out.ring.frm.down⟩
end Go.Proofs.Ytnbbaggmkinfkaa
