/- The reference's FromBytes. -/
import Derived.Test.YtkmgdfcpfdnkfaaB6
namespace Go.Proofs.Ytkmgdfcpfdnkfaa
open Go.RowKit
set_option maxRecDepth 100000 in
set_option maxHeartbeats 1000000 in
theorem rfrom_len (w : World) (A : Option Addr) (c : Nat) (l : List Nat) (hl : Byt w A l) (h20 : l.length ≠ 20) :
    Calls Try.prog 16 #[.slice A l.length c] w fun e w' => e = .returned (.tuple #[.agg (fromB l).d.cells.toArray, .int .i64 (fromB l).c]) ∧ Frm (fun _ => False) w w' := by
  have e0 : ((l.length : Int) != 20) = true := by simp; omega
  have e0' : ((l.length : Int) == 20) = false := by simp; omega
  rw [show fromB l = ⟨DM.zero, 9⟩ by unfold fromB; rw [if_neg (fun h => h20 h.1)]]
  have hlen := hl.at_.len
  clear hl h20
  simp only [DM.zero, DM.cells]
  go_enter Try.func16, Try.ntmps16
  go_wp2_with fail
  refine bodyPost_ret (v := .tuple #[.agg DM.zero.cells.toArray, .int .i64 9]) (by simp [results, Try.results16, go_sem, DM.zero, DM.cells]) rfl ⟨rfl, ?_⟩
  exact (Frm.refl _ _).alloc _
set_option maxRecDepth 100000 in
set_option maxHeartbeats 4000000 in
theorem rfrom_20 (w : World) (b off c : Nat) (l : List Nat) (hl : Byt w (some ⟨b, off, none⟩) l) (h20 : l.length = 20) (hc : 20 ≤ c) (x0 : Nat) (hx0 : l[0]? = some x0) (h63 : x0 ≤ 63) :
    Calls Try.prog 16 #[.slice (some ⟨b, off, none⟩) 20 c] w fun e w' => e = .returned (.tuple #[.agg (fromB l).d.cells.toArray, .int .i64 (fromB l).c]) ∧ Frm (fun _ => False) w w' := by
  obtain ⟨x1, hx1⟩ : ∃ x, l[1]? = some x := ⟨_, List.getElem?_eq_getElem (by omega)⟩
  obtain ⟨b', off', e, hb, c0⟩ := hl.cell hx0
  simp only [Option.some.injEq, Addr.mk.injEq] at e
  obtain ⟨rfl, rfl, _⟩ := e
  obtain ⟨b', off', e, _, c1⟩ := hl.cell hx1
  simp only [Option.some.injEq, Addr.mk.injEq] at e
  obtain ⟨rfl, rfl, _⟩ := e
  have l0 := hl.get hx0
  have l1 := hl.get hx1
  have a16 : (((x0 : Int) / 16 % 2) == 1) = decide (x0 / 16 % 2 = 1) := by rw [Bool.eq_iff_iff]; simp; omega
  have a32 : ((x0 : Int) / 32 == 1) = decide (x0 / 32 % 2 = 1) := by rw [Bool.eq_iff_iff]; simp; omega
  have G : ∀ (i j : Nat) (W : World) (k : Nat), Frm (fun _ => False) w W → j ≤ 20 → i < j → j - i ≤ 4 → Calls Try.prog 25 #[.slice (some ⟨b, off + i, none⟩) (j - i) k] W fun e w' => e = .returned (.int .i64 (num (part l i j) : Nat)) ∧ W = w' := by
    intro i j W k hf hj hij h4
    have := rnum_c W (some ⟨b, off + i, none⟩) k (part l i j) ((hl.keep hf).part (by omega)) (by rw [part_len (by omega)]; exact h4)
    rwa [part_len (by omega)] at this
  have HG := Lib.hid G
  have hdec : decB l = ⟨((x0 % 16 : Nat) : Int), (num (part l 2 4) : Nat), (num (part l 4 6) : Nat), (num (part l 6 10) : Nat), (num (part l 10 12) : Nat), (num (part l 12 16) : Nat), decide (x0 / 16 % 2 = 1), decide (x0 / 32 % 2 = 1), (x1 : Int)⟩ := by
    simp [decB, List.getD, hx0, hx1]
  have hn : ∀ i j, j ≤ 20 → j - i ≤ 4 → num (part l i j) < 4294967296 := by
    intro i j hj h4
    have := num_lt (part l i j) (fun x hx => by obtain ⟨k, hk⟩ := List.mem_iff_getElem?.1 hx; exact hl.get (part_get hk)) 0
    rw [part_len (by omega)] at this
    have h5 := Nat.pow_le_pow_right (show 0 < 256 by decide) h4
    unfold num; omega
  have n1 := hn 2 4 (by omega) (by omega)
  have n2 := hn 4 6 (by omega) (by omega)
  have n3 := hn 6 10 (by omega) (by omega)
  have n4 := hn 10 12 (by omega) (by omega)
  have n5 := hn 12 16 (by omega) (by omega)
  have G1 := Lib.hid (fun W k hf => G 2 4 W k hf (by decide) (by decide) (by decide))
  have G2 := Lib.hid (fun W k hf => G 4 6 W k hf (by decide) (by decide) (by decide))
  have G3 := Lib.hid (fun W k hf => G 6 10 W k hf (by decide) (by decide) (by decide))
  have G4 := Lib.hid (fun W k hf => G 10 12 W k hf (by decide) (by decide) (by decide))
  have G5 := Lib.hid (fun W k hf => G 12 16 W k hf (by decide) (by decide) (by decide))
  have HL := Lib.hid hl
  have H20 := Lib.hid h20
  have HD := Lib.hid hdec
  have hdn := dec_nat l
  rw [hdec] at hdn
  simp only at hdn
  have HDN := Lib.hid hdn
  generalize num (part l 2 4) = q1 at *
  generalize num (part l 4 6) = q2 at *
  generalize num (part l 6 10) = q3 at *
  generalize num (part l 10 12) = q4 at *
  generalize num (part l 12 16) = q5 at *
  generalize hdv : decide (x0 / 16 % 2 = 1) = dv at *
  generalize hdo : decide (x0 / 32 % 2 = 1) = dn at *
  simp only [Nat.add_zero] at c0
  simp only [Nat.reduceSub] at G1 G2 G3 G4 G5
  clear hn G HG hdec hdn hl h20 hx0 hx1 hdv hdo
  have nb1 : b ≠ w.heap.size := by omega
  have nb2 : b ≠ w.heap.size + 1 := by omega
  have j2 : ¬ c = 2 := by omega
  have j4 : ¬ c = 4 := by omega
  have j6 : ¬ c = 6 := by omega
  have j10 : ¬ c = 10 := by omega
  have j12 : ¬ c = 12 := by omega
  have kr1 : IntKind.i64.wrap (x0 : Int) = x0 := IntWalk.i64_in _ (by omega)
  have kr2 : (x0 : Int).tmod 16 = (x0 : Int) % 16 := Int.tmod_eq_emod_of_nonneg (by omega)
  have kr3 : IntKind.u8.wrap ((x0 : Int) / 16) = (x0 : Int) / 16 := by rw [IntKind.wrap_u8']; omega
  have kr4 : ((x0 : Int) / 16).tmod 2 = (x0 : Int) / 16 % 2 := Int.tmod_eq_emod_of_nonneg (by omega)
  have kr5 : IntKind.u8.wrap ((x0 : Int) / 32) = (x0 : Int) / 32 := by rw [IntKind.wrap_u8']; omega
  have kw2 : IntKind.i64.wrap (x1 : Int) = x1 := IntWalk.i64_in _ (by omega)
  have kw3 : IntKind.u64.wrap (q3 : Int) = q3 := by rw [IntKind.wrap_u64]; omega
  have i4 : (4 : Int) ≤ (c : Int) := by omega
  have i6 : (6 : Int) ≤ (c : Int) := by omega
  have i10 : (10 : Int) ≤ (c : Int) := by omega
  have i12 : (12 : Int) ≤ (c : Int) := by omega
  have i16 : (16 : Int) ≤ (c : Int) := by omega
  have e63 : decide (63 < (x0 : Int)) = false := by simp; omega
  go_enter Try.func16, Try.ntmps16
  go_upto_region 3 with (fail)
  go_cut [4] (fun s wx => s = .pointer (some ⟨w.heap.size + 1, 0, none⟩) ∧ Outs w wx ⟨(x0 : Int) % 16, q1, q2, q3, q4, q5, dv, dn, x1⟩)
  case first =>
    go_region_held3 (fun w' => w'.cell? ⟨b, off, none⟩ = some (.int .u8 x0) ∧ w'.cell? ⟨b, off + 1, none⟩ = some (.int .u8 x1))
      (first | (refine ⟨?_, ?_⟩ <;> simp [World.cell?_alloc_past, hb, c0, c1, Nat.lt_succ_of_lt]) | go_keep)
      (first
        | (go_at_call 25; (with_reducible refine (G1.out _ _ ((Frm.refl _ _).alloc _).drew).mono ?_); rintro e w' ⟨rfl, rfl⟩)
        | (go_at_call 25; (with_reducible refine (G1.out _ _ (((Frm.refl _ _).alloc _).alloc _).drew).mono ?_); rintro e w' ⟨rfl, rfl⟩)
        | (go_at_call 25; (with_reducible refine (G2.out _ _ ((Frm.refl _ _).alloc _).drew).mono ?_); rintro e w' ⟨rfl, rfl⟩)
        | (go_at_call 25; (with_reducible refine (G2.out _ _ (((Frm.refl _ _).alloc _).alloc _).drew).mono ?_); rintro e w' ⟨rfl, rfl⟩)
        | (go_at_call 25; (with_reducible refine (G3.out _ _ ((Frm.refl _ _).alloc _).drew).mono ?_); rintro e w' ⟨rfl, rfl⟩)
        | (go_at_call 25; (with_reducible refine (G3.out _ _ (((Frm.refl _ _).alloc _).alloc _).drew).mono ?_); rintro e w' ⟨rfl, rfl⟩)
        | (go_at_call 25; (with_reducible refine (G4.out _ _ ((Frm.refl _ _).alloc _).drew).mono ?_); rintro e w' ⟨rfl, rfl⟩)
        | (go_at_call 25; (with_reducible refine (G4.out _ _ (((Frm.refl _ _).alloc _).alloc _).drew).mono ?_); rintro e w' ⟨rfl, rfl⟩)
        | (go_at_call 25; (with_reducible refine (G5.out _ _ ((Frm.refl _ _).alloc _).drew).mono ?_); rintro e w' ⟨rfl, rfl⟩)
        | (go_at_call 25; (with_reducible refine (G5.out _ _ (((Frm.refl _ _).alloc _).alloc _).drew).mono ?_); rintro e w' ⟨rfl, rfl⟩))
    all_goals
      go_wp2_with fail
      go_meet
      exact ⟨rfl, Outs.mk' w ⟨(x0 : Int) % 16, q1, q2, q3, q4, q5, dv, dn, x1⟩⟩
  case rest =>
    obtain ⟨rfl, hf4, hz4, hv4⟩ := hcut
    have T := rbytes_c wc (decB l) (dec_nat l)
    have hylt := bytesB_lt (decB l)
    generalize hY : bytesB (decB l) = Y at *
    rw [HD.out] at T
    simp only [DM.cells] at T
    have HT := Lib.hid T
    have HY := Lib.hid hY
    have HF4 := Lib.hid hf4
    have HZ4 := Lib.hid hz4
    have HV4 := Lib.hid hv4
    have HYL := Lib.hid hylt
    obtain ⟨b0, b1, b2, b3, b4, b5, b6, b7, b8⟩ := HV4.out.nine
    have l4 := HV4.out.lt
    simp only at b0 b1 b2 b3 b4 b5 b6 b7 b8
    clear T hY hf4 hz4 hv4 hylt a16 a32 kr1 kr2 kr3 kr4 kr5
    go_wp2_with fail
    refine HT.out.mono ?_
    rintro e w5 ⟨v5, rfl, ho5, hf5⟩
    obtain ⟨A5, c5, hv5, hy5, _⟩ := ho5.open HYL.out
    subst hv5
    have hE := same_c w5 A5 (some ⟨b, off, none⟩) c5 c Y l hy5 (HL.out.keep (HF4.out.trans hf5))
    rw [H20.out] at hE
    have HE := Lib.hid hE
    have HF5 := Lib.hid (HF4.out.trans hf5)
    have HZ5 := Lib.hid (HZ4.out.keep hf5)
    have HV5 := Lib.hid (HV4.out.keep hf5)
    clear ho5 hf5 hy5 hE b0 b1 b2 b3 b4 b5 b6 b7 b8 HT
    obtain ⟨b0, b1, b2, b3, b4, b5, b6, b7, b8⟩ := HV5.out.nine
    obtain ⟨g0, g1, g2, g3, g4, g5, g6, g7, g8⟩ := HZ5.out.nine
    have m0 := HZ5.out.frozen 0
    have m1 := HZ5.out.frozen 1
    have m2 := HZ5.out.frozen 2
    have m3 := HZ5.out.frozen 3
    have m4 := HZ5.out.frozen 4
    have m5 := HZ5.out.frozen 5
    have m6 := HZ5.out.frozen 6
    have m7 := HZ5.out.frozen 7
    have m8 := HZ5.out.frozen 8
    simp only at b0 b1 b2 b3 b4 b5 b6 b7 b8
    simp only [DM.zero] at g0 g1 g2 g3 g4 g5 g6 g7 g8
    go_wp2_with fail
    refine HE.out.mono ?_
    rintro e w6 ⟨rfl, hf6⟩
    have HF6 := Lib.hid (HF5.out.trans hf6)
    have HZ6 := Lib.hid (HZ5.out.keep hf6)
    have HV6 := Lib.hid (HV5.out.keep hf6)
    clear hf6 b0 b1 b2 b3 b4 b5 b6 b7 b8 g0 g1 g2 g3 g4 g5 g6 g7 g8 m0 m1 m2 m3 m4 m5 m6 m7 m8
    obtain ⟨b0, b1, b2, b3, b4, b5, b6, b7, b8⟩ := HV6.out.nine
    obtain ⟨g0, g1, g2, g3, g4, g5, g6, g7, g8⟩ := HZ6.out.nine
    have m0 := HZ6.out.frozen 0
    have m1 := HZ6.out.frozen 1
    have m2 := HZ6.out.frozen 2
    have m3 := HZ6.out.frozen 3
    have m4 := HZ6.out.frozen 4
    have m5 := HZ6.out.frozen 5
    have m6 := HZ6.out.frozen 6
    have m7 := HZ6.out.frozen 7
    have m8 := HZ6.out.frozen 8
    simp only at b0 b1 b2 b3 b4 b5 b6 b7 b8
    simp only [DM.zero] at g0 g1 g2 g3 g4 g5 g6 g7 g8
    by_cases hyl : Y = l
    · have e1 : decide (Y = l) = true := by simpa using hyl
      have HR : Hid (fromB l = ⟨decB l, 0⟩) := Lib.hid (by unfold fromB; rw [if_pos ⟨H20.out, HY.out.trans hyl⟩])
      have HQ : Hid (Value.tuple #[.agg (fromB l).d.cells.toArray, .int .i64 (fromB l).c] = .tuple #[.agg #[.int .i64 ((x0 : Int) % 16), .int .i64 q1, .int .i64 q2, .int .u64 q3, .int .i64 q4, .int .i64 q5, .bool dv, .bool dn, .int .i64 x1], .int .i64 0]) := Lib.hid (by rw [HR.out]; simp only; rw [HD.out]; rfl)
      clear hyl
      go_wp2_with fail
      refine bodyPost_ret (v := .tuple #[.agg #[.int .i64 ((x0 : Int) % 16), .int .i64 q1, .int .i64 q2, .int .u64 q3, .int .i64 q4, .int .i64 q5, .bool dv, .bool dn, .int .i64 x1], .int .i64 0]) (by simp [results, Try.results16, go_sem, g0, g1, g2, g3, g4, g5, g6, g7, g8]) rfl ⟨by rw [HQ.out], ?_⟩
      exact boxed_frm HF6.out (.inr (Nat.le_refl _)) _ _ _ _ _ _ _ _ _
    · have e1 : decide (Y = l) = false := by simpa using hyl
      have HR : Hid (fromB l = ⟨DM.zero, 9⟩) := Lib.hid (by unfold fromB; rw [if_neg (fun h => hyl (HY.out.symm.trans h.2))])
      have HQ : Hid (Value.tuple #[.agg (fromB l).d.cells.toArray, .int .i64 (fromB l).c] = .tuple #[.agg DM.zero.cells.toArray, .int .i64 9]) := Lib.hid (by rw [HR.out])
      clear hyl
      go_wp2_with fail
      refine bodyPost_ret (v := .tuple #[.agg DM.zero.cells.toArray, .int .i64 9]) (by simp [results, Try.results16, go_sem, DM.zero, DM.cells, g0, g1, g2, g3, g4, g5, g6, g7, g8]) rfl ⟨by rw [HQ.out], ?_⟩
      exact boxed_frm HF6.out (.inr (Nat.le_refl _)) _ _ _ _ _ _ _ _ _
theorem first_byte {l : List Nat} {x0 : Nat} (h : bytesB (decB l) = l) (h20 : l.length = 20) (hx : l[0]? = some x0) : x0 ≤ 63 := by
  unfold bytesB at h
  split at h
  · rename_i hm
    have hf := first_lt hm
    rw [← h] at hx
    have e : (encB (decB l))[0]? = some ((firstB (decB l)).toNat % 256) := by simp [encB, bodyB, rowB, DM.fields, big]
    rw [e] at hx
    injection hx with hx
    omega
  · rw [← h] at h20; simp at h20
set_option maxRecDepth 100000 in
set_option maxHeartbeats 1000000 in
theorem rfrom_63 (w : World) (b off c : Nat) (l : List Nat) (hl : Byt w (some ⟨b, off, none⟩) l) (h20 : l.length = 20) (x0 : Nat) (hx0 : l[0]? = some x0) (h63 : 63 < x0) :
    Calls Try.prog 16 #[.slice (some ⟨b, off, none⟩) 20 c] w fun e w' => e = .returned (.tuple #[.agg (fromB l).d.cells.toArray, .int .i64 (fromB l).c]) ∧ Frm (fun _ => False) w w' := by
  rw [show fromB l = ⟨DM.zero, 9⟩ by unfold fromB; rw [if_neg (fun h => by have := first_byte h.2 h20 hx0; omega)]]
  obtain ⟨b', off', e, hb, c0⟩ := hl.cell hx0
  simp only [Option.some.injEq, Addr.mk.injEq] at e
  obtain ⟨rfl, rfl, _⟩ := e
  have e63 : decide (63 < (x0 : Int)) = true := by simp; omega
  simp only [Nat.add_zero] at c0
  clear hl h20 hx0
  simp only [DM.zero, DM.cells]
  go_enter Try.func16, Try.ntmps16
  go_wp2_with fail
  refine bodyPost_ret (v := .tuple #[.agg DM.zero.cells.toArray, .int .i64 9]) (by simp [results, Try.results16, go_sem, DM.zero, DM.cells]) rfl ⟨rfl, ?_⟩
  exact (Frm.refl _ _).alloc _
theorem rfrom_c (w : World) (A : Option Addr) (c : Nat) (l : List Nat) (hl : Byt w A l) (hc : l.length ≤ c) :
    Calls Try.prog 16 #[.slice A l.length c] w fun e w' => e = .returned (.tuple #[.agg (fromB l).d.cells.toArray, .int .i64 (fromB l).c]) ∧ Frm (fun _ => False) w w' := by
  by_cases h20 : l.length = 20
  · obtain ⟨b, off, rfl, _, _⟩ := hl.at_.at_ (by omega)
    obtain ⟨x0, hx0⟩ : ∃ x, l[0]? = some x := ⟨_, List.getElem?_eq_getElem (by omega)⟩
    rw [h20]
    by_cases h63 : x0 ≤ 63
    · exact rfrom_20 w b off c l hl h20 (by omega) x0 hx0 h63
    · exact rfrom_63 w b off c l hl h20 x0 hx0 (by omega)
  · exact rfrom_len w A c l hl h20
end Go.Proofs.Ytkmgdfcpfdnkfaa
