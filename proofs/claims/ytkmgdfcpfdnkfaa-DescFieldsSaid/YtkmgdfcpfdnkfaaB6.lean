/- FromBytes. -/
import Derived.Test.YtkmgdfcpfdnkfaaB5
namespace Go.Proofs.Ytkmgdfcpfdnkfaa
open Go.RowKit
def part (l : List Nat) (i j : Nat) : List Nat := (l.drop i).take (j - i)
def decB (l : List Nat) : DM := ⟨((l.getD 0 0 % 16 : Nat) : Int), (num (part l 2 4) : Nat), (num (part l 4 6) : Nat), (num (part l 6 10) : Nat), (num (part l 10 12) : Nat), (num (part l 12 16) : Nat), decide (l.getD 0 0 / 16 % 2 = 1), decide (l.getD 0 0 / 32 % 2 = 1), ((l.getD 1 0 : Nat) : Int)⟩
structure ReadA where
  d : DM
  c : Int
def fromB (l : List Nat) : ReadA := if l.length = 20 ∧ bytesB (decB l) = l then ⟨decB l, 0⟩ else ⟨DM.zero, 9⟩
theorem part_len {l : List Nat} {i j : Nat} (h : j ≤ l.length) : (part l i j).length = j - i := by simp [part]; omega
theorem part_get {l : List Nat} {i j k x : Nat} (h : (part l i j)[k]? = some x) : l[i + k]? = some x := by
  unfold part at h
  rw [List.getElem?_take] at h
  split at h
  · rwa [List.getElem?_drop] at h
  · cases h
theorem Byt.part {w : World} {b off : Nat} {l : List Nat} (h : Byt w (some ⟨b, off, none⟩) l) {i j : Nat} (hj : j ≤ l.length) : Byt w (some ⟨b, off + i, none⟩) (part l i j) := by
  refine ⟨⟨by rw [part_len hj]; have := h.at_.len; omega, fun hp => ?_⟩, fun x hx => ?_⟩
  · have hl : 0 < l.length := by rw [part_len hj] at hp; omega
    obtain ⟨b', off', e, hb, hc⟩ := h.at_.at_ hl
    simp only [Option.some.injEq, Addr.mk.injEq] at e
    obtain ⟨rfl, rfl, _⟩ := e
    refine ⟨b, off + i, rfl, hb, fun k x hk m v hm => ?_⟩
    have := hc (i + k) x (part_get hk) m v hm
    rw [show off + i + k * 1 + m = off + (i + k) * 1 + m by omega]
    exact this
  · obtain ⟨k, hk⟩ := List.mem_iff_getElem?.1 hx
    exact h.lt x (List.mem_of_getElem? (part_get hk))
theorem and15 : ∀ n : Fin 256, bits .and .u8 (n.val : Int) 15 = ((n.val % 16 : Nat) : Int) := by decide +kernel
theorem and16 : ∀ n : Fin 256, (bits .and .u8 (n.val : Int) 16 != 0) = decide (n.val / 16 % 2 = 1) := by decide +kernel
theorem and32 : ∀ n : Fin 256, (bits .and .u8 (n.val : Int) 32 != 0) = decide (n.val / 32 % 2 = 1) := by decide +kernel
theorem dec_nat (l : List Nat) : 0 ≤ (decB l).gen := by simp [decB]
def boxed (w : World) (q : Nat) (v0 v1 v2 v3 v4 v5 v6 v7 v8 : Value) : World := (((((((((w.setCell ⟨q, 0, none⟩ v0).setCell ⟨q, 1, none⟩ v1).setCell ⟨q, 2, none⟩ v2).setCell ⟨q, 3, none⟩ v3).setCell ⟨q, 4, none⟩ v4).setCell ⟨q, 5, none⟩ v5).setCell ⟨q, 6, none⟩ v6).setCell ⟨q, 7, none⟩ v7).setCell ⟨q, 8, none⟩ v8)
theorem boxed_frm {S : Nat → Prop} {w w' : World} {q : Nat} (h : Frm S w w') (hq : S q ∨ w.heap.size ≤ q) (v0 v1 v2 v3 v4 v5 v6 v7 v8 : Value) : Frm S w (boxed w' q v0 v1 v2 v3 v4 v5 v6 v7 v8) := by
  unfold boxed
  have h0 := h.setCell (p := ⟨q, 0, none⟩) hq v0
  have h1 := h0.setCell (p := ⟨q, 1, none⟩) hq v1
  have h2 := h1.setCell (p := ⟨q, 2, none⟩) hq v2
  have h3 := h2.setCell (p := ⟨q, 3, none⟩) hq v3
  have h4 := h3.setCell (p := ⟨q, 4, none⟩) hq v4
  have h5 := h4.setCell (p := ⟨q, 5, none⟩) hq v5
  have h6 := h5.setCell (p := ⟨q, 6, none⟩) hq v6
  have h7 := h6.setCell (p := ⟨q, 7, none⟩) hq v7
  exact h7.setCell (p := ⟨q, 8, none⟩) hq v8
/-- The result's place, and the descriptor's. -/
structure Outs (w wx : World) (d : DM) : Prop where
  frm : Frm (fun _ => False) w wx
  zero : VecAt wx w.heap.size 26 DM.zero.cells
  box : VecAt wx (w.heap.size + 1) 26 d.cells
theorem Outs.mk' (w : World) (d : DM) : Outs w ((w.alloc (.cells DM.zero.cells.toArray 26)).alloc (.cells d.cells.toArray 26)).drew d := by
  refine ⟨(((Frm.refl _ _).alloc _).alloc _).drew, (VecAt.new w 26 DM.zero.cells).alloc _, ?_⟩
  have := VecAt.new (w.alloc (.cells DM.zero.cells.toArray 26)) 26 d.cells
  rw [World.size_alloc] at this
  exact this
set_option maxRecDepth 100000 in
set_option maxHeartbeats 1000000 in
theorem from_len (w : World) (A : Option Addr) (c : Nat) (l : List Nat) (hl : Byt w A l) (h20 : l.length ≠ 20) :
    Calls Try.prog 15 #[.slice A l.length c] w fun e w' => e = .returned (.tuple #[.agg (fromB l).d.cells.toArray, .int .i64 (fromB l).c]) ∧ Frm (fun _ => False) w w' := by
  have e0 : ((l.length : Int) != 20) = true := by simp; omega
  have e0' : ((l.length : Int) == 20) = false := by simp; omega
  rw [show fromB l = ⟨DM.zero, 9⟩ by unfold fromB; rw [if_neg (fun h => h20 h.1)]]
  have hlen := hl.at_.len
  clear hl h20
  simp only [DM.zero, DM.cells]
  go_enter Try.func15, Try.ntmps15
  go_wp2_with fail
  refine bodyPost_ret (v := .tuple #[.agg DM.zero.cells.toArray, .int .i64 9]) (by simp [results, Try.results15, go_sem, DM.zero, DM.cells]) rfl ⟨rfl, ?_⟩
  exact (Frm.refl _ _).alloc _
set_option maxRecDepth 100000 in
set_option maxHeartbeats 4000000 in
theorem from_20 (w : World) (b off c : Nat) (l : List Nat) (hl : Byt w (some ⟨b, off, none⟩) l) (h20 : l.length = 20) (hc : 20 ≤ c) :
    Calls Try.prog 15 #[.slice (some ⟨b, off, none⟩) 20 c] w fun e w' => e = .returned (.tuple #[.agg (fromB l).d.cells.toArray, .int .i64 (fromB l).c]) ∧ Frm (fun _ => False) w w' := by
  obtain ⟨x0, hx0⟩ : ∃ x, l[0]? = some x := ⟨_, List.getElem?_eq_getElem (by omega)⟩
  obtain ⟨x1, hx1⟩ : ∃ x, l[1]? = some x := ⟨_, List.getElem?_eq_getElem (by omega)⟩
  obtain ⟨b', off', e, hb, c0⟩ := hl.cell hx0
  simp only [Option.some.injEq, Addr.mk.injEq] at e
  obtain ⟨rfl, rfl, _⟩ := e
  obtain ⟨b', off', e, _, c1⟩ := hl.cell hx1
  simp only [Option.some.injEq, Addr.mk.injEq] at e
  obtain ⟨rfl, rfl, _⟩ := e
  have l0 := hl.get hx0
  have l1 := hl.get hx1
  have a15 := and15 ⟨x0, l0⟩
  have a16 := and16 ⟨x0, l0⟩
  have a32 := and32 ⟨x0, l0⟩
  have G : ∀ (i j : Nat) (W : World) (k : Nat), Frm (fun _ => False) w W → j ≤ 20 → i < j → j - i ≤ 4 → Calls Try.prog 23 #[.slice (some ⟨b, off + i, none⟩) (j - i) k] W fun e w' => e = .returned (.int .i64 (num (part l i j) : Nat)) ∧ W = w' := by
    intro i j W k hf hj hij h4
    have := get_c W (some ⟨b, off + i, none⟩) k (part l i j) ((hl.keep hf).part (by omega)) (by rw [part_len (by omega)]; exact h4)
    rwa [part_len (by omega)] at this
  have HG := Lib.hid G
  have hdec : decB l = ⟨((x0 % 16 : Nat) : Int), (num (part l 2 4) : Nat), (num (part l 4 6) : Nat), (num (part l 6 10) : Nat), (num (part l 10 12) : Nat), (num (part l 12 16) : Nat), decide (x0 / 16 % 2 = 1), decide (x0 / 32 % 2 = 1), (x1 : Int)⟩ := by
    simp [decB, List.getD, hx0, hx1]
  have hn : ∀ i j, j ≤ 20 → j - i ≤ 4 → num (part l i j) < 4294967296 := by
    intro i j hj h4
    have := num_lt (part l i j) (fun x hx => by obtain ⟨k, hk⟩ := List.mem_iff_getElem?.1 hx; exact hl.get (part_get hk)) 0
    rw [part_len (by omega)] at this
    have h5 := Nat.pow_le_pow_right (show 0 < 256 by decide) h4
    unfold num; omega
  have n1 := hn 2 4 (by omega) (by omega)
  have n2 := hn 4 6 (by omega) (by omega)
  have n3 := hn 6 10 (by omega) (by omega)
  have n4 := hn 10 12 (by omega) (by omega)
  have n5 := hn 12 16 (by omega) (by omega)
  have G1 := Lib.hid (fun W k hf => G 2 4 W k hf (by decide) (by decide) (by decide))
  have G2 := Lib.hid (fun W k hf => G 4 6 W k hf (by decide) (by decide) (by decide))
  have G3 := Lib.hid (fun W k hf => G 6 10 W k hf (by decide) (by decide) (by decide))
  have G4 := Lib.hid (fun W k hf => G 10 12 W k hf (by decide) (by decide) (by decide))
  have G5 := Lib.hid (fun W k hf => G 12 16 W k hf (by decide) (by decide) (by decide))
  have HL := Lib.hid hl
  have H20 := Lib.hid h20
  have HD := Lib.hid hdec
  have hdn := dec_nat l
  rw [hdec] at hdn
  simp only at hdn
  have HDN := Lib.hid hdn
  generalize num (part l 2 4) = q1 at *
  generalize num (part l 4 6) = q2 at *
  generalize num (part l 6 10) = q3 at *
  generalize num (part l 10 12) = q4 at *
  generalize num (part l 12 16) = q5 at *
  generalize hdv : decide (x0 / 16 % 2 = 1) = dv at *
  generalize hdo : decide (x0 / 32 % 2 = 1) = dn at *
  simp only [Nat.add_zero] at c0 a15 a16 a32
  simp only [Nat.reduceSub] at G1 G2 G3 G4 G5
  clear hn G HG hdec hdn hl h20 hx0 hx1 hdv hdo
  have nb1 : b ≠ w.heap.size := by omega
  have nb2 : b ≠ w.heap.size + 1 := by omega
  have j2 : ¬ c = 2 := by omega
  have j4 : ¬ c = 4 := by omega
  have j6 : ¬ c = 6 := by omega
  have j10 : ¬ c = 10 := by omega
  have j12 : ¬ c = 12 := by omega
  have kw1 : IntKind.i64.wrap ((x0 : Int) % 16) = (x0 : Int) % 16 := IntWalk.i64_in _ (by omega)
  have kw2 : IntKind.i64.wrap (x1 : Int) = x1 := IntWalk.i64_in _ (by omega)
  have kw3 : IntKind.u64.wrap (q3 : Int) = q3 := by rw [IntKind.wrap_u64]; omega
  have i4 : (4 : Int) ≤ (c : Int) := by omega
  have i6 : (6 : Int) ≤ (c : Int) := by omega
  have i10 : (10 : Int) ≤ (c : Int) := by omega
  have i12 : (12 : Int) ≤ (c : Int) := by omega
  have i16 : (16 : Int) ≤ (c : Int) := by omega
  go_enter Try.func15, Try.ntmps15
  go_upto_region 3 with (fail)
  go_cut [4] (fun s wx => s = .pointer (some ⟨w.heap.size + 1, 0, none⟩) ∧ Outs w wx ⟨(x0 : Int) % 16, q1, 0, 0, q4, q5, dv, dn, x1⟩)
  case first =>
    go_region_held3 (fun w' => w'.cell? ⟨b, off, none⟩ = some (.int .u8 x0) ∧ w'.cell? ⟨b, off + 1, none⟩ = some (.int .u8 x1))
      (first | (refine ⟨?_, ?_⟩ <;> simp [World.cell?_alloc_past, hb, c0, c1, Nat.lt_succ_of_lt]) | go_keep)
      (first
        | (go_at_call 23; (with_reducible refine (G1.out _ _ ((Frm.refl _ _).alloc _).drew).mono ?_); rintro e w' ⟨rfl, rfl⟩)
        | (go_at_call 23; (with_reducible refine (G1.out _ _ (((Frm.refl _ _).alloc _).alloc _).drew).mono ?_); rintro e w' ⟨rfl, rfl⟩)
        | (go_at_call 23; (with_reducible refine (G4.out _ _ ((Frm.refl _ _).alloc _).drew).mono ?_); rintro e w' ⟨rfl, rfl⟩)
        | (go_at_call 23; (with_reducible refine (G4.out _ _ (((Frm.refl _ _).alloc _).alloc _).drew).mono ?_); rintro e w' ⟨rfl, rfl⟩)
        | (go_at_call 23; (with_reducible refine (G5.out _ _ ((Frm.refl _ _).alloc _).drew).mono ?_); rintro e w' ⟨rfl, rfl⟩)
        | (go_at_call 23; (with_reducible refine (G5.out _ _ (((Frm.refl _ _).alloc _).alloc _).drew).mono ?_); rintro e w' ⟨rfl, rfl⟩))
    all_goals
      go_wp2_with fail
      go_meet
      exact ⟨rfl, Outs.mk' w ⟨(x0 : Int) % 16, q1, 0, 0, q4, q5, dv, dn, x1⟩⟩
  case rest =>
    obtain ⟨rfl, hO⟩ := hcut
    obtain ⟨hf3, hz3, hv3⟩ := hO
    have HF3 := Lib.hid hf3
    have HZ3 := Lib.hid hz3
    have HV3 := Lib.hid hv3
    have z0 := hv3.lt
    have z2 := hv3.cell (i := 2) rfl
    have z3 := hv3.cell (i := 3) rfl
    have y2 := hv3.frozen 2
    have y3 := hv3.frozen 3
    have s2 : Hid (VecAt ((wc.setCell ⟨w.heap.size + 1, 2, none⟩ (.int .i64 q2)).setCell ⟨w.heap.size + 1, 3, none⟩ (.int .u64 q3)) (w.heap.size + 1) 26 (DM.cells ⟨(x0 : Int) % 16, q1, q2, q3, q4, q5, dv, dn, x1⟩)) := Lib.hid ((hv3.set 2 _).set 3 _)
    have s3 : Hid (VecAt ((wc.setCell ⟨w.heap.size + 1, 2, none⟩ (.int .i64 q2)).setCell ⟨w.heap.size + 1, 3, none⟩ (.int .u64 q3)) w.heap.size 26 (DM.cells DM.zero)) := Lib.hid ((hz3.other (a := ⟨w.heap.size + 1, 2, none⟩) (by simp) _).other (a := ⟨w.heap.size + 1, 3, none⟩) (by simp) _)
    have s4 : Hid (Frm (fun _ => False) w ((wc.setCell ⟨w.heap.size + 1, 2, none⟩ (.int .i64 q2)).setCell ⟨w.heap.size + 1, 3, none⟩ (.int .u64 q3))) := Lib.hid ((hf3.setCell (p := ⟨w.heap.size + 1, 2, none⟩) (.inr (by simp)) _).setCell (p := ⟨w.heap.size + 1, 3, none⟩) (.inr (by simp)) _)
    clear hf3 hz3 hv3
    go_upto_region 4 with (fail)
    go_cut [] (fun wx => Outs w wx ⟨(x0 : Int) % 16, q1, q2, q3, q4, q5, dv, dn, x1⟩)
    case first =>
      go_region_held3 (fun _ => True)
        (first | exact trivial | go_keep)
        (first
          | (go_at_call 23; (with_reducible refine (G2.out _ _ HF3.out.drew).mono ?_); rintro e w' ⟨rfl, rfl⟩)
          | (go_at_call 23; (with_reducible refine (G3.out _ _ HF3.out.drew).mono ?_); rintro e w' ⟨rfl, rfl⟩))
      all_goals
        go_wp2_with fail
        go_meet
        exact ⟨s4.out.drew, s3.out, s2.out⟩
    case rest =>
      obtain ⟨hf4, hz4, hv4⟩ := hcut
      have T := bytes_c wc (decB l) (dec_nat l)
      have hylt := bytesB_lt (decB l)
      generalize hY : bytesB (decB l) = Y at *
      rw [HD.out] at T
      simp only [DM.cells] at T
      have HT := Lib.hid T
      have HY := Lib.hid hY
      have HF4 := Lib.hid hf4
      have HZ4 := Lib.hid hz4
      have HV4 := Lib.hid hv4
      have HYL := Lib.hid hylt
      obtain ⟨b0, b1, b2, b3, b4, b5, b6, b7, b8⟩ := HV4.out.nine
      have l4 := HV4.out.lt
      simp only at b0 b1 b2 b3 b4 b5 b6 b7 b8
      clear T hY hf4 hz4 hv4 hylt z2 z3 y2 y3 s2 s3 s4 HF3 HZ3 HV3 z0 a15 a16 a32
      go_wp2_with fail
      refine HT.out.mono ?_
      rintro e w5 ⟨v5, rfl, ho5, hf5⟩
      obtain ⟨A5, c5, hv5, hy5, _⟩ := ho5.open HYL.out
      subst hv5
      have hE := equal_c w5 A5 (some ⟨b, off, none⟩) c5 c Y l hy5 (HL.out.keep (HF4.out.trans hf5))
      rw [H20.out] at hE
      have HE := Lib.hid hE
      have HF5 := Lib.hid (HF4.out.trans hf5)
      have HZ5 := Lib.hid (HZ4.out.keep hf5)
      have HV5 := Lib.hid (HV4.out.keep hf5)
      clear ho5 hf5 hy5 hE b0 b1 b2 b3 b4 b5 b6 b7 b8 HT
      obtain ⟨b0, b1, b2, b3, b4, b5, b6, b7, b8⟩ := HV5.out.nine
      obtain ⟨g0, g1, g2, g3, g4, g5, g6, g7, g8⟩ := HZ5.out.nine
      have m0 := HZ5.out.frozen 0
      have m1 := HZ5.out.frozen 1
      have m2 := HZ5.out.frozen 2
      have m3 := HZ5.out.frozen 3
      have m4 := HZ5.out.frozen 4
      have m5 := HZ5.out.frozen 5
      have m6 := HZ5.out.frozen 6
      have m7 := HZ5.out.frozen 7
      have m8 := HZ5.out.frozen 8
      simp only at b0 b1 b2 b3 b4 b5 b6 b7 b8
      simp only [DM.zero] at g0 g1 g2 g3 g4 g5 g6 g7 g8
      go_wp2_with fail
      refine HE.out.mono ?_
      rintro e w6 ⟨rfl, rfl⟩
      by_cases hyl : Y = l
      · have e1 : decide (Y = l) = true := by simpa using hyl
        have HR : Hid (fromB l = ⟨decB l, 0⟩) := Lib.hid (by unfold fromB; rw [if_pos ⟨H20.out, HY.out.trans hyl⟩])
        have HQ : Hid (Value.tuple #[.agg (fromB l).d.cells.toArray, .int .i64 (fromB l).c] = .tuple #[.agg #[.int .i64 ((x0 : Int) % 16), .int .i64 q1, .int .i64 q2, .int .u64 q3, .int .i64 q4, .int .i64 q5, .bool dv, .bool dn, .int .i64 x1], .int .i64 0]) := Lib.hid (by rw [HR.out]; simp only; rw [HD.out]; rfl)
        clear hyl
        go_wp2_with fail
        refine bodyPost_ret (v := .tuple #[.agg #[.int .i64 ((x0 : Int) % 16), .int .i64 q1, .int .i64 q2, .int .u64 q3, .int .i64 q4, .int .i64 q5, .bool dv, .bool dn, .int .i64 x1], .int .i64 0]) (by simp [results, Try.results15, go_sem, g0, g1, g2, g3, g4, g5, g6, g7, g8]) rfl ⟨by rw [HQ.out], ?_⟩
        exact boxed_frm HF5.out (.inr (Nat.le_refl _)) _ _ _ _ _ _ _ _ _
      · have e1 : decide (Y = l) = false := by simpa using hyl
        have HR : Hid (fromB l = ⟨DM.zero, 9⟩) := Lib.hid (by unfold fromB; rw [if_neg (fun h => hyl (HY.out.symm.trans h.2))])
        have HQ : Hid (Value.tuple #[.agg (fromB l).d.cells.toArray, .int .i64 (fromB l).c] = .tuple #[.agg DM.zero.cells.toArray, .int .i64 9]) := Lib.hid (by rw [HR.out])
        clear hyl
        go_wp2_with fail
        refine bodyPost_ret (v := .tuple #[.agg DM.zero.cells.toArray, .int .i64 9]) (by simp [results, Try.results15, go_sem, DM.zero, DM.cells, g0, g1, g2, g3, g4, g5, g6, g7, g8]) rfl ⟨by rw [HQ.out], ?_⟩
        exact boxed_frm HF5.out (.inr (Nat.le_refl _)) _ _ _ _ _ _ _ _ _
theorem from_c (w : World) (A : Option Addr) (c : Nat) (l : List Nat) (hl : Byt w A l) (hc : l.length ≤ c) :
    Calls Try.prog 15 #[.slice A l.length c] w fun e w' => e = .returned (.tuple #[.agg (fromB l).d.cells.toArray, .int .i64 (fromB l).c]) ∧ Frm (fun _ => False) w w' := by
  by_cases h20 : l.length = 20
  · obtain ⟨b, off, rfl, _, _⟩ := hl.at_.at_ (by omega)
    rw [h20]
    exact from_20 w b off c l hl h20 (by omega)
  · exact from_len w A c l hl h20
end Go.Proofs.Ytkmgdfcpfdnkfaa
