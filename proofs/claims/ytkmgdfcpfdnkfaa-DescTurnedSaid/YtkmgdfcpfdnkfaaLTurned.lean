/- DescTurned: the walk. -/
import Derived.Test.YtkmgdfcpfdnkfaaTurn
namespace Go.Proofs.Ytkmgdfcpfdnkfaa
open Go.RowKit
theorem nines {w : World} {p q : Nat} {d o : DM} (h : VecAt w p 26 d.cells) (k : VecAt w q 26 o.cells) :
    w.cell? ⟨p, 0, none⟩ = some (.int .i64 d.op) ∧ w.cell? ⟨p, 1, none⟩ = some (.int .i64 d.req) ∧ w.cell? ⟨p, 2, none⟩ = some (.int .i64 d.slot) ∧ w.cell? ⟨p, 3, none⟩ = some (.int .u64 d.gen) ∧ w.cell? ⟨p, 4, none⟩ = some (.int .i64 d.frm) ∧
    w.cell? ⟨p, 5, none⟩ = some (.int .i64 d.len) ∧ w.cell? ⟨p, 6, none⟩ = some (.bool d.device) ∧ w.cell? ⟨p, 7, none⟩ = some (.bool d.done) ∧ w.cell? ⟨p, 8, none⟩ = some (.int .i64 d.status) ∧
    w.cell? ⟨q, 0, none⟩ = some (.int .i64 o.op) ∧ w.cell? ⟨q, 1, none⟩ = some (.int .i64 o.req) ∧ w.cell? ⟨q, 2, none⟩ = some (.int .i64 o.slot) ∧ w.cell? ⟨q, 3, none⟩ = some (.int .u64 o.gen) ∧ w.cell? ⟨q, 4, none⟩ = some (.int .i64 o.frm) ∧
    w.cell? ⟨q, 5, none⟩ = some (.int .i64 o.len) ∧ w.cell? ⟨q, 6, none⟩ = some (.bool o.device) ∧ w.cell? ⟨q, 7, none⟩ = some (.bool o.done) ∧ w.cell? ⟨q, 8, none⟩ = some (.int .i64 o.status) :=
  ⟨h.cell rfl, h.cell rfl, h.cell rfl, h.cell rfl, h.cell rfl, h.cell rfl, h.cell rfl, h.cell rfl, h.cell rfl, k.cell rfl, k.cell rfl, k.cell rfl, k.cell rfl, k.cell rfl, k.cell rfl, k.cell rfl, k.cell rfl, k.cell rfl⟩
set_option maxRecDepth 100000 in
set_option maxHeartbeats 4000000 in
theorem turned_no (w : World) (d o : DM) (a b : Nat) (h : mayB d = false ∨ mayB o = false) :
    Calls Try.prog 5 #[.agg d.cells.toArray, .agg o.cells.toArray, .agg #[.int .u8 a, .int .u8 b]] w fun e w' => e = .returned (.bool true) ∧ Frm (fun _ => False) w w' := by
  have T4 : Hid (∀ W, Calls Try.prog 12 #[.agg d.cells.toArray] W fun e w' => e = .returned (.bool (mayB d)) ∧ Frm (fun _ => False) W w') := Lib.hid fun W => rmay_c W d
  have T5 : Hid (∀ W, Calls Try.prog 12 #[.agg o.cells.toArray] W fun e w' => e = .returned (.bool (mayB o)) ∧ Frm (fun _ => False) W w') := Lib.hid fun W => rmay_c W o
  have BX := (((VecAt.new w 26 d.cells).alloc (.cells o.cells.toArray 26)).alloc (.cells #[.int .u8 a, .int .u8 b] 38))
  have BY := ((VecAt.new (w.alloc (.cells d.cells.toArray 26)) 26 o.cells).alloc (.cells #[.int .u8 a, .int .u8 b] 38))
  have BZ := VecAt.new ((w.alloc (.cells d.cells.toArray 26)).alloc (.cells o.cells.toArray 26)) 38 [.int .u8 a, .int .u8 b]
  simp only [World.size_alloc] at BY BZ
  generalize mayB d = m at *
  generalize mayB o = n at *
  obtain ⟨op, req, slot, gen, frm, len, device, done, status⟩ := d
  obtain ⟨op', req', slot', gen', frm', len', device', done', status'⟩ := o
  simp only [DM.cells] at T4 T5 BX BY BZ ⊢
  have HX := Lib.hid BX
  have HY := Lib.hid BY
  have HZ := Lib.hid BZ
  have HH := Lib.hid h
  clear BX BY BZ h
  go_enter Try.func5, Try.ntmps5
  go_wp2_with fail
  refine (awake_c _).mono ?_
  rintro e w1 ⟨rfl, hf1⟩
  have D1 : Hid (VecAt w1 w.heap.size 26 (DM.cells ⟨op, req, slot, gen, frm, len, device, done, status⟩)) := Lib.hid (HX.out.frm hf1 id)
  have D2 : Hid (VecAt w1 (w.heap.size + 1) 26 (DM.cells ⟨op', req', slot', gen', frm', len', device', done', status'⟩)) := Lib.hid (HY.out.frm hf1 id)
  have Z1 := HZ.out.frm hf1 id
  have F1 := Lib.hid ((((Frm.refl (fun _ => False) w).alloc _).alloc _ |>.alloc _).trans hf1)
  obtain ⟨x0, x1, x2, x3, x4, x5, x6, x7, x8, y0, y1, y2, y3, y4, y5, y6, y7, y8⟩ := nines D1.out D2.out
  have z0 := Z1.cell (i := 0) rfl
  have z1 := Z1.cell (i := 1) rfl
  simp only at x0 x1 x2 x3 x4 x5 x6 x7 x8 y0 y1 y2 y3 y4 y5 y6 y7 y8 z0 z1
  clear hf1 HX HY HZ Z1
  go_wp2_with fail
  refine (T4.out _).mono ?_
  rintro e w2 ⟨rfl, hf2⟩
  have F2 := Lib.hid (F1.out.trans hf2)
  have D3 := Lib.hid (D2.out.frm hf2 id)
  clear hf2 x0 x1 x2 x3 x4 x5 x6 x7 x8 y0 y1 y2 y3 y4 y5 y6 y7 y8 z0 z1 F1
  cases m with
  | false =>
    go_wp2_with fail
    go_ret
    exact ⟨rfl, F2.out⟩
  | true =>
    have hn : n = false := by have := HH.out; simpa using this
    subst hn
    obtain ⟨x0, x1, x2, x3, x4, x5, x6, x7, x8⟩ := D3.out.nine
    simp only at x0 x1 x2 x3 x4 x5 x6 x7 x8
    go_wp2_with fail
    refine (T5.out _).mono ?_
    rintro e w3 ⟨rfl, hf3⟩
    go_wp2_with fail
    go_ret
    exact ⟨rfl, F2.out.trans hf3⟩
set_option maxRecDepth 100000 in
set_option maxHeartbeats 8000000 in
theorem turned_yes (w : World) (d o : DM) (a b : Nat) (ha : a < 256) (hb : b < 256) (hgd : 0 ≤ d.gen) (hgo : 0 ≤ o.gen) (hm : mayB d = true) (hn : mayB o = true) :
    Calls Try.prog 5 #[.agg d.cells.toArray, .agg o.cells.toArray, .agg #[.int .u8 a, .int .u8 b]] w fun e w' => e = .returned (.bool true) ∧ Frm (fun _ => False) w w' := by
  have T4 : Hid (∀ W, Calls Try.prog 12 #[.agg d.cells.toArray] W fun e w' => e = .returned (.bool true) ∧ Frm (fun _ => False) W w') := Lib.hid fun W => hm ▸ rmay_c W d
  have T5 : Hid (∀ W, Calls Try.prog 12 #[.agg o.cells.toArray] W fun e w' => e = .returned (.bool true) ∧ Frm (fun _ => False) W w') := Lib.hid fun W => hn ▸ rmay_c W o
  have T6 : Hid (∀ W, Calls Try.prog 10 #[.agg d.cells.toArray] W fun e w' => ∃ v, e = .returned v ∧ OwnB w' W.heap.size v (encB d) ∧ Frm (fun _ => False) W w') := Lib.hid fun W => bytes_yes W d hm hgd
  have T7 : Hid (∀ W, Calls Try.prog 10 #[.agg o.cells.toArray] W fun e w' => ∃ v, e = .returned v ∧ OwnB w' W.heap.size v (encB o) ∧ Frm (fun _ => False) W w') := Lib.hid fun W => bytes_yes W o hn hgo
  have hsame : decide (encB d = encB o) = sameD d o := by
    unfold sameD
    by_cases e : d = o
    · subst e; simp
    · have : ¬ encB d = encB o := fun h => e (enc_inj hm hn hgd hgo h)
      simp [e, this]
  have T8 : Hid (∀ (W : World) (A B : Option Addr) (c c' : Nat), Byt W A (encB d) → Byt W B (encB o) → Calls Try.prog 13 #[.slice A 20 c, .slice B 20 c'] W fun e w' => e = .returned (.bool (sameD d o)) ∧ Frm (fun _ => False) W w') := Lib.hid fun W A B c c' h1 h2 => by
    have := same_c W A B c c' _ _ h1 h2
    rwa [hsame, encB_len, encB_len] at this
  have hi : a % 20 < 20 := Nat.mod_lt _ (by decide)
  obtain ⟨x, hx⟩ : ∃ x, (encB d)[a % 20]? = some x := ⟨_, List.getElem?_eq_getElem (by rw [encB_len]; exact hi)⟩
  have hx8 : x < 256 := encB_lt d x (List.mem_of_getElem? hx)
  have hxb : x ^^^ b < 256 := Nat.xor_lt_two_pow (n := 8) hx8 hb
  have HR : Hid (∃ R : ReadA, fromB ((encB d).set (a % 20) (x ^^^ b)) = R ∧ ((b = 0 ∧ R = ⟨d, 0⟩) ∨ (b ≠ 0 ∧ R = ⟨DM.zero, 9⟩))) := Lib.hid (by
    refine ⟨_, rfl, ?_⟩
    by_cases e : b = 0
    · subst e
      rw [Nat.xor_zero, set_same hx, read_back hm hgd]
      exact .inl ⟨rfl, rfl⟩
    · exact .inr ⟨e, turned_bad hx hxb (fun h => e (xor_fix h))⟩)
  have HSD := Lib.hid (sameD_self d)
  have HLT := Lib.hid (encB_lt d)
  have HLO := Lib.hid (encB_lt o)
  have HN := Lib.hid (encB_len d)
  have HNO := Lib.hid (encB_len o)
  have HXX := Lib.hid hx
  have HXB := Lib.hid hxb
  have BX := (((VecAt.new w 26 d.cells).alloc (.cells o.cells.toArray 26)).alloc (.cells #[.int .u8 a, .int .u8 b] 38))
  have BY := ((VecAt.new (w.alloc (.cells d.cells.toArray 26)) 26 o.cells).alloc (.cells #[.int .u8 a, .int .u8 b] 38))
  have BZ := VecAt.new ((w.alloc (.cells d.cells.toArray 26)).alloc (.cells o.cells.toArray 26)) 38 [.int .u8 a, .int .u8 b]
  simp only [World.size_alloc] at BY BZ
  have hxr := u8_xor_nat x b hx8 hb
  clear hsame hm hn hgd hgo hx hxb
  generalize encB d = L at *
  generalize encB o = M at *
  generalize hsd : sameD d o = sd at *
  obtain ⟨op, req, slot, gen, frm, len, device, done, status⟩ := d
  obtain ⟨op', req', slot', gen', frm', len', device', done', status'⟩ := o
  simp only [DM.cells] at T4 T5 T6 T7 BX BY BZ ⊢
  have HX := Lib.hid BX
  have HY := Lib.hid BY
  have HZ := Lib.hid BZ
  have HSS := Lib.hid hsd
  have HXR := Lib.hid hxr
  clear BX BY BZ hsd hxr
  go_enter Try.func5, Try.ntmps5
  go_wp2_with fail
  refine (awake_c _).mono ?_
  rintro e w1 ⟨rfl, hf1⟩
  have D1 : Hid (VecAt w1 w.heap.size 26 (DM.cells ⟨op, req, slot, gen, frm, len, device, done, status⟩)) := Lib.hid (HX.out.frm hf1 id)
  have E1 : Hid (VecAt w1 (w.heap.size + 1) 26 (DM.cells ⟨op', req', slot', gen', frm', len', device', done', status'⟩)) := Lib.hid (HY.out.frm hf1 id)
  have Z1 := HZ.out.frm hf1 id
  have F1 := Lib.hid ((((Frm.refl (fun _ => False) w).alloc _).alloc _ |>.alloc _).trans hf1)
  obtain ⟨x0, x1, x2, x3, x4, x5, x6, x7, x8, y0, y1, y2, y3, y4, y5, y6, y7, y8⟩ := nines D1.out E1.out
  have z0 := Z1.cell (i := 0) rfl
  have z1 := Z1.cell (i := 1) rfl
  simp only at x0 x1 x2 x3 x4 x5 x6 x7 x8 y0 y1 y2 y3 y4 y5 y6 y7 y8 z0 z1
  clear hf1 HX HY HZ Z1
  go_wp2_with fail
  refine (T4.out _).mono ?_
  rintro e w2 ⟨rfl, hf2⟩
  have F2 := Lib.hid (F1.out.trans hf2)
  have D2 := Lib.hid (D1.out.frm hf2 id)
  have E2 := Lib.hid (E1.out.frm hf2 id)
  clear hf2 x0 x1 x2 x3 x4 x5 x6 x7 x8 y0 y1 y2 y3 y4 y5 y6 y7 y8 z0 z1 F1 D1 E1
  obtain ⟨x0, x1, x2, x3, x4, x5, x6, x7, x8, y0, y1, y2, y3, y4, y5, y6, y7, y8⟩ := nines D2.out E2.out
  simp only at x0 x1 x2 x3 x4 x5 x6 x7 x8 y0 y1 y2 y3 y4 y5 y6 y7 y8
  go_wp2_with fail
  refine (T5.out _).mono ?_
  rintro e w3 ⟨rfl, hf3⟩
  have F3 := Lib.hid (F2.out.trans hf3)
  have D3 := Lib.hid (D2.out.frm hf3 id)
  have E3 := Lib.hid (E2.out.frm hf3 id)
  clear hf3 x0 x1 x2 x3 x4 x5 x6 x7 x8 y0 y1 y2 y3 y4 y5 y6 y7 y8 F2 D2 E2 T4 T5
  obtain ⟨x0, x1, x2, x3, x4, x5, x6, x7, x8, y0, y1, y2, y3, y4, y5, y6, y7, y8⟩ := nines D3.out E3.out
  simp only at x0 x1 x2 x3 x4 x5 x6 x7 x8 y0 y1 y2 y3 y4 y5 y6 y7 y8
  go_wp2_with fail
  refine (T6.out _).mono ?_
  rintro e w4 ⟨v4, rfl, ho4, hf4⟩
  obtain ⟨A4, c4, hv4, hb4, _, _, _, hg4⟩ := ho4.open2 HLT.out
  obtain ⟨g, rfl⟩ := hg4 (by rw [HN.out]; decide)
  have OW4 := Lib.hid ho4
  rw [HN.out] at hv4
  subst hv4
  have O4 : Hid (OwnB w4.drew w3.heap.size (.slice (some ⟨g, 0, none⟩) 20 c4) L) := Lib.hid OW4.out
  have B4 : Hid (Byt w4.drew (some ⟨g, 0, none⟩) L) := Lib.hid (hb4.keep (Frm.refl _ _).drew)
  have F4 := Lib.hid (F3.out.trans hf4).drew
  have D4 : Hid (VecAt w4.drew w.heap.size 26 _) := Lib.hid (D3.out.frm hf4.drew id)
  have E4 : Hid (VecAt w4.drew (w.heap.size + 1) 26 _) := Lib.hid (E3.out.frm hf4.drew id)
  have hs3 := F3.out.size
  have hl3 := E3.out.lt
  clear hf4 ho4 hb4 hg4 OW4 x0 x1 x2 x3 x4 x5 x6 x7 x8 y0 y1 y2 y3 y4 y5 y6 y7 y8 F3 D3 E3 T6
  go_upto_region 8 with (fail)
  go_cut [40] (fun s wx => s = .bool false ∧ Frm (fun _ => False) w wx ∧ VecAt wx w.heap.size 26 (DM.cells ⟨op, req, slot, gen, frm, len, device, done, status⟩) ∧ OwnB wx w3.heap.size (.slice (some ⟨g, 0, none⟩) 20 c4) L)
  case first =>
    go_region_held3 (fun w' => w'.cell? ⟨w.heap.size, 0, none⟩ = some (.int .i64 op) ∧ w'.cell? ⟨w.heap.size, 1, none⟩ = some (.int .i64 req) ∧ w'.cell? ⟨w.heap.size, 2, none⟩ = some (.int .i64 slot) ∧ w'.cell? ⟨w.heap.size, 3, none⟩ = some (.int .u64 gen) ∧ w'.cell? ⟨w.heap.size, 4, none⟩ = some (.int .i64 frm) ∧ w'.cell? ⟨w.heap.size, 5, none⟩ = some (.int .i64 len) ∧ w'.cell? ⟨w.heap.size, 6, none⟩ = some (.bool device) ∧ w'.cell? ⟨w.heap.size, 7, none⟩ = some (.bool done) ∧ w'.cell? ⟨w.heap.size, 8, none⟩ = some (.int .i64 status) ∧ w'.cell? ⟨w.heap.size + 1, 0, none⟩ = some (.int .i64 op') ∧ w'.cell? ⟨w.heap.size + 1, 1, none⟩ = some (.int .i64 req') ∧ w'.cell? ⟨w.heap.size + 1, 2, none⟩ = some (.int .i64 slot') ∧ w'.cell? ⟨w.heap.size + 1, 3, none⟩ = some (.int .u64 gen') ∧ w'.cell? ⟨w.heap.size + 1, 4, none⟩ = some (.int .i64 frm') ∧ w'.cell? ⟨w.heap.size + 1, 5, none⟩ = some (.int .i64 len') ∧ w'.cell? ⟨w.heap.size + 1, 6, none⟩ = some (.bool device') ∧ w'.cell? ⟨w.heap.size + 1, 7, none⟩ = some (.bool done') ∧ w'.cell? ⟨w.heap.size + 1, 8, none⟩ = some (.int .i64 status'))
      (first | exact nines D4.out E4.out | exact nines D5.out E5.out | exact nines D6.out E6.out | go_keep)
      (first
        | (go_at_call 10; (with_reducible refine (T7.out _).mono ?_); rintro e w5 ⟨v5, rfl, ho5, hf⟩; obtain ⟨A5, c5, hv5, hb5, _⟩ := ho5.open HLO.out; rw [HNO.out] at hv5; subst hv5; have B5 := Lib.hid hb5; have B6 := Lib.hid (B4.out.keep hf); have O5 := Lib.hid (O4.out.frm hf (fun _ _ => id)); have D5 := Lib.hid (D4.out.frm hf id); have E5 := Lib.hid (E4.out.frm hf id); have F5 := Lib.hid (F4.out.trans hf); clear hf ho5 hb5)
        | (go_at_call 13; (with_reducible refine (T8.out _ _ _ _ _ B6.out B5.out).mono ?_); rintro e w6 ⟨rfl, hf⟩; have D6 := Lib.hid (D5.out.frm hf id); have E6 := Lib.hid (E5.out.frm hf id); have O6 := Lib.hid (O5.out.frm hf (fun _ _ => id)); have F6 := Lib.hid (F5.out.trans hf); clear hf))
    all_goals
      go_wp2_with fail
      go_meet
      exact ⟨by rw [HSS.out]; cases sd <;> rfl, F6.out, D6.out, O6.out⟩
  case rest =>
    obtain ⟨rfl, hf7, hd7, ho7⟩ := hcut
    obtain ⟨hc0, hc1⟩ := ho7.cell HN.out HXX.out
    have hg7 := (World.ownsRow.lt ho7 g rfl)
    have hxr := HXR.out
    generalize hyy : x ^^^ b = y at *
    have O8 := ho7.setn HN.out (a % 20) y
    have hy8 := HXB.out
    obtain ⟨b8, n8, k8⟩ := O8.byt (set_lt HLT.out hy8)
    have T9 := from_c _ _ c4 _ b8 (by rw [n8]; exact k8)
    rw [n8] at T9
    have D8 := hd7.other (a := ⟨g, a % 20, none⟩) (show w.heap.size ≠ g by omega) (.int .u8 (y : Int))
    have F8 := hf7.setCell (p := ⟨g, a % 20, none⟩) (.inr (show w.heap.size ≤ g by omega)) (.int .u8 (y : Int))
    obtain ⟨R, hR, hcs⟩ := HR.out
    rw [hR] at T9
    have m0 : (0 : Int) ≤ (a : Int) % 20 := by omega
    have m1 : (a : Int) % 20 < 20 := by omega
    have HD8 := Lib.hid D8
    have HF8 := Lib.hid F8
    clear hd7 ho7 hf7 O8 b8 hR D8 F8 HR n8 hyy
    rcases hcs with ⟨hb0, rfl⟩ | ⟨hb0, rfl⟩
    · have eb : ((b : Int) == 0) = true := by simp; omega
      clear hb0
      simp only [DM.cells] at T9
      have HT9 := Lib.hid T9
      clear T9
      go_wp2_with fail
      refine HT9.out.mono ?_
      rintro e w9 ⟨rfl, hf9⟩
      have D9 := HD8.out.frm hf9 id
      have l9 := D9.lt
      obtain ⟨x0, x1, x2, x3, x4, x5, x6, x7, x8⟩ := D9.nine
      simp only at x0 x1 x2 x3 x4 x5 x6 x7 x8
      have F9 := Lib.hid (HF8.out.trans hf9)
      have hsd := HSD.out
      clear hf9 D9
      go_wp2_with fail
      go_ret
      exact ⟨rfl, F9.out.alloc _⟩
    · have eb : ((b : Int) == 0) = false := by simp; omega
      clear hb0
      simp only [DM.cells, DM.zero] at T9
      have HT9 := Lib.hid T9
      clear T9
      go_wp2_with fail
      refine HT9.out.mono ?_
      rintro e w9 ⟨rfl, hf9⟩
      have F9 := Lib.hid (HF8.out.trans hf9)
      clear hf9
      go_wp2_with fail
      go_ret
      exact ⟨rfl, F9.out.alloc _⟩
theorem turned_c (w : World) (d o : DM) (a b : Nat) (ha : a < 256) (hb : b < 256) (hgd : 0 ≤ d.gen) (hgo : 0 ≤ o.gen) :
    Calls Try.prog 5 #[.agg d.cells.toArray, .agg o.cells.toArray, .agg #[.int .u8 a, .int .u8 b]] w fun e w' => e = .returned (.bool true) ∧ Frm (fun _ => False) w w' := by
  cases hm : mayB d with
  | false => exact turned_no w d o a b (.inl hm)
  | true =>
    cases hn : mayB o with
    | false => exact turned_no w d o a b (.inr hn)
    | true => exact turned_yes w d o a b ha hb hgd hgo hm hn
end Go.Proofs.Ytkmgdfcpfdnkfaa
