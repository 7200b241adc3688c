/- DescTells: the walk. -/
import Derived.Test.YtkmgdfcpfdnkfaaAw
namespace Go.Proofs.Ytkmgdfcpfdnkfaa
open Go.RowKit
set_option maxRecDepth 100000 in
set_option maxHeartbeats 4000000 in
theorem tells_c (w : World) (d : DM) (hg : 0 ≤ d.gen) :
    Calls Try.prog 3 #[.agg d.cells.toArray] w fun e w' => e = .returned (.bool true) ∧ Frm (fun _ => False) w w' := by
  have T1 : Hid (∀ W, Calls Try.prog 10 #[.agg d.cells.toArray] W fun e w' => ∃ v, e = .returned v ∧ OwnB w' W.heap.size v (bytesB d) ∧ Frm (fun _ => False) W w') := Lib.hid fun W => bytes_c W d hg
  have T2 : Hid (∀ W, Calls Try.prog 14 #[.agg d.cells.toArray] W fun e w' => ∃ v, e = .returned v ∧ OwnB w' W.heap.size v (bytesB d) ∧ Frm (fun _ => False) W w') := Lib.hid fun W => rbytes_c W d hg
  have T3 : Hid (∀ W, Calls Try.prog 11 #[.agg d.cells.toArray] W fun e w' => e = .returned (.bool (mayB d)) ∧ Frm (fun _ => False) W w') := Lib.hid fun W => may_c W d
  have T4 : Hid (∀ W, Calls Try.prog 12 #[.agg d.cells.toArray] W fun e w' => e = .returned (.bool (mayB d)) ∧ Frm (fun _ => False) W w') := Lib.hid fun W => rmay_c W d
  have HLT := Lib.hid (bytesB_lt d)
  have HY : Hid (mayB d = true → (bytesB d).length = 20 ∧ fromB (bytesB d) = ⟨d, 0⟩) := Lib.hid fun h => by
    unfold bytesB; rw [if_pos h]; exact ⟨encB_len d, read_back h hg⟩
  have HN : Hid (mayB d = false → bytesB d = []) := Lib.hid fun h => by unfold bytesB; rw [if_neg (by rw [h]; decide)]
  have BX := VecAt.new w 26 d.cells
  generalize bytesB d = L at *
  generalize mayB d = m at *
  obtain ⟨op, req, slot, gen, frm, len, device, done, status⟩ := d
  simp only [DM.cells] at T1 T2 T3 T4 BX ⊢
  have HBX := Lib.hid BX
  clear BX hg
  go_enter Try.func3, Try.ntmps3
  go_wp2_with fail
  refine (awake_c _).mono ?_
  rintro e w1 ⟨rfl, hf1⟩
  have D1 : Hid (VecAt w1 w.heap.size 26 (DM.cells ⟨op, req, slot, gen, frm, len, device, done, status⟩)) := Lib.hid (HBX.out.frm hf1 id)
  have F1 := Lib.hid (((Frm.refl (fun _ => False) w).alloc (.cells #[.int .i64 op, .int .i64 req, .int .i64 slot, .int .u64 gen, .int .i64 frm, .int .i64 len, .bool device, .bool done, .int .i64 status] 26)).trans hf1)
  obtain ⟨x0, x1, x2, x3, x4, x5, x6, x7, x8⟩ := D1.out.nine
  simp only at x0 x1 x2 x3 x4 x5 x6 x7 x8
  clear hf1 HBX
  go_wp2_with fail
  refine (T1.out _).mono ?_
  rintro e w2 ⟨v2, rfl, ho2, hf2⟩
  obtain ⟨A2, c2, hv2, hb2, hc2, _, _, _⟩ := ho2.open2 HLT.out
  subst hv2
  have B2 := Lib.hid hb2
  have D2 : Hid (VecAt w2.drew w.heap.size 26 (DM.cells ⟨op, req, slot, gen, frm, len, device, done, status⟩)) := Lib.hid (D1.out.frm hf2.drew id)
  have F2 := Lib.hid (F1.out.trans hf2).drew
  have hLl := hb2.at_.len
  clear hf2 ho2 hb2 x0 x1 x2 x3 x4 x5 x6 x7 x8 D1 F1
  go_upto_region 4 with (fail)
  go_cut [21] (fun s wx => s = .bool false ∧ Frm (fun _ => False) w wx ∧ VecAt wx w.heap.size 26 (DM.cells ⟨op, req, slot, gen, frm, len, device, done, status⟩) ∧ Byt wx A2 L)
  case first =>
    go_region_held3 (fun w' => w'.cell? ⟨w.heap.size, 0, none⟩ = some (.int .i64 op) ∧ w'.cell? ⟨w.heap.size, 1, none⟩ = some (.int .i64 req) ∧ w'.cell? ⟨w.heap.size, 2, none⟩ = some (.int .i64 slot) ∧ w'.cell? ⟨w.heap.size, 3, none⟩ = some (.int .u64 gen) ∧ w'.cell? ⟨w.heap.size, 4, none⟩ = some (.int .i64 frm) ∧
        w'.cell? ⟨w.heap.size, 5, none⟩ = some (.int .i64 len) ∧ w'.cell? ⟨w.heap.size, 6, none⟩ = some (.bool device) ∧ w'.cell? ⟨w.heap.size, 7, none⟩ = some (.bool done) ∧ w'.cell? ⟨w.heap.size, 8, none⟩ = some (.int .i64 status))
      (first | exact D2.out.nine | exact D3.out.nine | exact D4.out.nine | exact D5.out.nine | exact D6.out.nine | go_keep)
      (first
        | (go_at_call 11; (with_reducible refine (T3.out _).mono ?_); rintro e w3 ⟨rfl, hf⟩; have D3 := Lib.hid (D2.out.frm hf id); have B3 := Lib.hid (B2.out.keep (Frm.trans (Frm.refl _ _).drew hf)); have F3 := Lib.hid (F2.out.trans hf); clear hf)
        | (go_at_call 12; (with_reducible refine (T4.out _).mono ?_); rintro e w4 ⟨rfl, hf⟩; have D4 := Lib.hid (D3.out.frm hf id); have B4 := Lib.hid (B3.out.keep hf); have F4 := Lib.hid (F3.out.trans hf); clear hf)
        | (go_at_call 14; (with_reducible refine (T2.out _).mono ?_); rintro e w5 ⟨v5, rfl, ho5, hf⟩; obtain ⟨A5, c5, hv5, hb5, _⟩ := ho5.open HLT.out; subst hv5; have B5 := Lib.hid hb5; have D5 := Lib.hid (D4.out.frm hf id); have B6 := Lib.hid (B4.out.keep hf); have F5 := Lib.hid (F4.out.trans hf); clear hf ho5 hb5)
        | (go_at_call 13; (with_reducible refine (same_c _ A2 A5 c2 c5 L L B6.out B5.out).mono ?_); rintro e w6 ⟨rfl, hf⟩; have D6 := Lib.hid (D5.out.frm hf id); have B7 := Lib.hid (B6.out.keep hf); have F6 := Lib.hid (F5.out.trans hf); clear hf))
    all_goals
      go_wp2_with fail
      go_meet
      exact ⟨rfl, F6.out, D6.out, B7.out⟩
  case rest =>
    obtain ⟨rfl, hf7, hd7, hb7⟩ := hcut
    have F7 := Lib.hid hf7
    have D7 := Lib.hid hd7
    have B7 := Lib.hid hb7
    obtain ⟨x0, x1, x2, x3, x4, x5, x6, x7, x8⟩ := D7.out.nine
    simp only at x0 x1 x2 x3 x4 x5 x6 x7 x8
    clear hf7 hd7 hb7
    go_wp2_with fail
    refine (T4.out _).mono ?_
    rintro e w8 ⟨rfl, hf8⟩
    have F8 := Lib.hid (F7.out.trans hf8)
    have D8 := Lib.hid (D7.out.frm hf8 id)
    have B8 := Lib.hid (B7.out.keep hf8)
    clear hf8 x0 x1 x2 x3 x4 x5 x6 x7 x8 F7 D7 B7
    cases m with
    | false =>
      have hL := HN.out rfl
      subst hL
      go_wp2_with fail
      go_ret
      exact ⟨rfl, F8.out⟩
    | true =>
      obtain ⟨hl20, hfr⟩ := HY.out rfl
      have T := from_c w8 A2 c2 L B8.out hc2
      rw [hfr] at T
      simp only [DM.cells] at T
      have HT := Lib.hid T
      clear T hl20 hfr
      go_wp2_with fail
      refine HT.out.mono ?_
      rintro e w9 ⟨rfl, hf9⟩
      have D9 := D8.out.frm hf9 id
      have l9 := D9.lt
      obtain ⟨x0, x1, x2, x3, x4, x5, x6, x7, x8⟩ := D9.nine
      simp only at x0 x1 x2 x3 x4 x5 x6 x7 x8
      have F9 := Lib.hid (F8.out.trans hf9)
      clear hf9 D9
      go_wp2_with fail
      go_ret
      exact ⟨rfl, F9.out.alloc _⟩
end Go.Proofs.Ytkmgdfcpfdnkfaa
