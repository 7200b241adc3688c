/- DescReads: the walk. -/
import Derived.Test.YtkmgdfcpfdnkfaaAw
namespace Go.Proofs.Ytkmgdfcpfdnkfaa
open Go.RowKit
set_option maxRecDepth 100000 in
set_option maxHeartbeats 4000000 in
theorem reads_c (w : World) (A : Option Addr) (c : Nat) (l : List Nat) (hl : Byt w A l) (hc : l.length ≤ c) (hn : A = none → c = 0) :
    Calls Try.prog 4 #[.slice A l.length c] w fun e w' => e = .returned (.bool true) ∧ Frm (fun _ => False) w w' := by
  have HL := Lib.hid hl
  have HN := Lib.hid hn
  have hlen := hl.at_.len
  have HLT := Lib.hid hl.lt
  clear hl hn
  by_cases h4 : 4000 < l.length
  · have e0 : decide ((4000 : Int) < l.length) = true := by simp; omega
    go_enter Try.func4, Try.ntmps4
    go_wp2_with fail
    refine (awake_c _).mono ?_
    rintro e w1 ⟨rfl, hf1⟩
    go_wp2_with fail
    go_ret
    exact ⟨rfl, hf1⟩
  · have e0 : decide ((4000 : Int) < l.length) = false := by simp; omega
    have h40 : l.length ≤ 4000 := by omega
    have HKK : Hid (l.length < 1000000) := Lib.hid (by omega)
    go_enter Try.func4, Try.ntmps4
    go_wp2_with fail
    refine (awake_c _).mono ?_
    rintro e w1 ⟨rfl, hf1⟩
    have F1 := Lib.hid hf1
    have BI := Lib.hid ((HL.out.keep hf1).keep ((Frm.refl _ _).alloc (.cells #[] 5)))
    have EO := Lib.hid (empty_own w1 w1.heap.size (Nat.le_refl _))
    clear hf1
    go_wp2_with (at_builtin; refine append_copy _ rfl (.tmp 13) (.tmp 14) rfl w1.heap.size _ rfl EO.out A c l rfl BI.out HN.out HKK.out (size_le (Nat.le_refl _) _) ?_; intro v2 w2 hown2 hf2 _; obtain ⟨A2, c2, hv2, hb2, hc2, _, _, _⟩ := hown2.open2 HLT.out; subst hv2; have B2 := Lib.hid hb2; have F2 : Hid (Frm (fun k => w1.heap.size ≤ k) w1 w2) := Lib.hid (((Frm.refl (fun k => w1.heap.size ≤ k) w1).alloc (.cells #[] 5)).trans (hf2.mono fun i _ e => (World.ownsRow.lt EO.out i e).1)); clear hown2 hf2 hb2)
    have FF := Lib.hid (F1.out.trans F2.out.down)
    have BA := Lib.hid (HL.out.keep FF.out)
    have T := from_c w2 A2 c2 l B2.out hc2
    have T2 : Hid (∀ W, Byt W A l → Calls Try.prog 16 #[.slice A l.length c] W fun e w' => e = .returned (.tuple #[.agg (fromB l).d.cells.toArray, .int .i64 (fromB l).c]) ∧ Frm (fun _ => False) W w') := fun W h => rfrom_c W A c l h hc
    generalize fromB l = Z at *
    obtain ⟨⟨op, req, slot, gen, frm, len, device, done, status⟩, cc⟩ := Z
    simp only [DM.cells] at T T2
    have HT := Lib.hid T
    clear T F1 BI EO F2
    refine HT.out.mono ?_
    rintro e w3 ⟨rfl, hf3⟩
    have F3 := Lib.hid ((FF.out.trans hf3).alloc (.cells #[.int .i64 op, .int .i64 req, .int .i64 slot, .int .u64 gen, .int .i64 frm, .int .i64 len, .bool device, .bool done, .int .i64 status] 26))
    have B3 := Lib.hid ((B2.out.keep hf3).keep ((Frm.refl _ _).alloc (.cells #[.int .i64 op, .int .i64 req, .int .i64 slot, .int .u64 gen, .int .i64 frm, .int .i64 len, .bool device, .bool done, .int .i64 status] 26)))
    have V3 := Lib.hid (VecAt.new w3 26 (DM.cells ⟨op, req, slot, gen, frm, len, device, done, status⟩))
    have T3 := T2.out _ (HL.out.keep F3.out)
    have HT3 := Lib.hid T3
    clear T3 hf3 HT T2 BA B2 FF
    go_wp2_with fail
    refine HT3.out.mono ?_
    rintro e w4 ⟨rfl, hf4⟩
    have F4 := Lib.hid ((F3.out.trans hf4).alloc (.cells #[.int .i64 op, .int .i64 req, .int .i64 slot, .int .u64 gen, .int .i64 frm, .int .i64 len, .bool device, .bool done, .int .i64 status] 26))
    have B4 := Lib.hid ((B3.out.keep hf4).keep ((Frm.refl _ _).alloc (.cells #[.int .i64 op, .int .i64 req, .int .i64 slot, .int .u64 gen, .int .i64 frm, .int .i64 len, .bool device, .bool done, .int .i64 status] 26)))
    have V4 := V3.out.frm hf4 id
    have l4 := V4.lt
    obtain ⟨x0, x1, x2, x3, x4, x5, x6, x7, x8⟩ := V4.nine
    simp only at x0 x1 x2 x3 x4 x5 x6 x7 x8
    clear hf4 V4 V3 B3 F3 HT3
    have HS := Lib.hid (same_c _ A2 A c2 c l l B4.out (HL.out.keep F4.out))
    go_wp2_with fail
    refine HS.out.mono ?_
    rintro e w5 ⟨rfl, hf5⟩
    have F5 := Lib.hid (F4.out.trans hf5)
    have HC1 := Lib.hid (check_c w5 A2 c2 l (B4.out.keep hf5) h40)
    have HC2 := Lib.hid (rcheck_c w5 A c l (HL.out.keep F5.out) h40)
    clear hf5 x0 x1 x2 x3 x4 x5 x6 x7 x8 HS B4 F4
    go_wp2_with fail
    refine HC1.out.mono ?_
    rintro e w6 ⟨rfl, rfl⟩
    go_wp2_with fail
    refine HC2.out.mono ?_
    rintro e w7 ⟨rfl, rfl⟩
    go_wp2_with fail
    go_ret
    exact ⟨rfl, F5.out⟩
end Go.Proofs.Ytkmgdfcpfdnkfaa
