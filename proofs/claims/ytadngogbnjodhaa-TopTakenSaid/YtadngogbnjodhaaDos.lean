/- What TopTaken is handed: a work, loads, bytes. -/
import Derived.Test.YtadngogbnjodhaaRow
import Derived.Test.YtadngogbnjodhaaB9
namespace Go.Proofs.Ytadngogbnjodhaa
open Go.ChangeShapes Go.WideShapes Go.ChangeAt Go.RowKit
theorem cellsOf24 : Try.prog.cellsOf 24 = 4 := by kernel_rfl
theorem cellsOf47 : Try.prog.cellsOf 47 = 2 := by kernel_rfl
theorem cellsOf3 : Try.prog.cellsOf 3 = 1 := by kernel_rfl
theorem cellsOf22 : Try.prog.cellsOf 22 = 1 := by kernel_rfl
theorem cellsOf5 : Try.prog.cellsOf 5 = 1 := by kernel_rfl
/-- A load whose period is a 64 bit number. -/
structure SvW where
  s : Sv
  per : 0 ≤ s.per ∧ s.per ≤ 18446744073709551615
instance : Inhabited SvW := ⟨⟨⟨0, 0⟩, by decide⟩⟩
def SvW.enc (x : SvW) : List Value := x.s.enc
section
variable {H : Type} {enc : TypeId × Value → H} {W : World} {sp : Nat → Bool}
set_option maxRecDepth 100000 in
theorem dec47 (n : Nat) (cs : List Value) (x : DataW H × List MemPlace) (h : DataW.trod enc Try.prog W 0 sp true n 47 cs = some x) : ∃ r : SvW, cs = r.enc := by
  obtain ⟨ys, k, _, _, hl, hlen2, hg⟩ := DataW.trod_struct Try.underlying47 h
  rw [cellsOf47] at hl
  match cs, hl with
  | [c2, c3], _ =>
    match ys, hlen2 with
    | [y0, y1], _ =>
      have g0 : DataW.trod enc Try.prog W 0 sp true k 3 ((([c2, c3] : List Value).drop 0).take (Try.prog.cellsOf 3)) = some y0 := hg 0 _ rfl
      have g1 : DataW.trod enc Try.prog W 0 sp true k 22 ((([c2, c3] : List Value).drop 1).take (Try.prog.cellsOf 22)) = some y1 := hg 1 _ rfl
      rw [cellsOf3] at g0
      rw [cellsOf22] at g1
      obtain ⟨c, hc, _⟩ := DataW.trod_int Try.underlying3 g0
      obtain ⟨d, hd, _, hw⟩ := DataW.trod_int Try.underlying22 g1
      simp at hc hd
      subst hc hd
      exact ⟨⟨⟨c, d⟩, wf_u64 hw⟩, rfl⟩
set_option maxRecDepth 100000 in
theorem dec24 (n : Nat) (cs : List Value) (x : DataW H × List MemPlace) (h : DataW.trod enc Try.prog W 0 sp true n 24 cs = some x) : ∃ r : Wk, cs = r.enc := by
  obtain ⟨xs, m, _, _, hl, hlen, hf⟩ := DataW.trod_struct Try.underlying24 h
  rw [cellsOf24] at hl
  match cs, hl with
  | [c0, c1, c2, c3], _ =>
    match xs, hlen with
    | [x0, x1, x2, x3], _ =>
      have h0 : DataW.trod enc Try.prog W 0 sp true m 3 ((([c0, c1, c2, c3] : List Value).drop 0).take (Try.prog.cellsOf 3)) = some x0 := hf 0 _ rfl
      have h1 : DataW.trod enc Try.prog W 0 sp true m 22 ((([c0, c1, c2, c3] : List Value).drop 1).take (Try.prog.cellsOf 22)) = some x1 := hf 1 _ rfl
      have h2 : DataW.trod enc Try.prog W 0 sp true m 22 ((([c0, c1, c2, c3] : List Value).drop 2).take (Try.prog.cellsOf 22)) = some x2 := hf 2 _ rfl
      have h3 : DataW.trod enc Try.prog W 0 sp true m 22 ((([c0, c1, c2, c3] : List Value).drop 3).take (Try.prog.cellsOf 22)) = some x3 := hf 3 _ rfl
      rw [cellsOf3] at h0
      rw [cellsOf22] at h1 h2 h3
      obtain ⟨a0, e0, _⟩ := DataW.trod_int Try.underlying3 h0
      obtain ⟨a1, e1, _⟩ := DataW.trod_int Try.underlying22 h1
      obtain ⟨a2, e2, _⟩ := DataW.trod_int Try.underlying22 h2
      obtain ⟨a3, e3, _⟩ := DataW.trod_int Try.underlying22 h3
      simp at e0 e1 e2 e3
      subst e0 e1 e2 e3
      exact ⟨⟨a0, a1, a2, a3⟩, rfl⟩
theorem open_work {v : Value} {d : DataW H} {ps : List MemPlace} (h : DataW.Trod enc Try.prog W 0 sp true 24 v d ps) : ∃ r : Wk, v = .agg r.enc.toArray := by
  obtain ⟨fuel, h⟩ := h
  obtain ⟨r, e⟩ := dec24 _ _ _ h
  exact ⟨r, cells_many e⟩
theorem dec5 (n : Nat) (cs : List Value) (x : DataW H × List MemPlace) (h : DataW.trod enc Try.prog W 0 sp true n 5 cs = some x) : ∃ r : UInt8, cs = enc8 r := by
  obtain ⟨a, ha, _, hw⟩ := DataW.trod_int Try.underlying5 h
  have hb := wf_u8 hw
  refine ⟨UInt8.ofNat a.toNat, ?_⟩
  rw [ha]
  unfold enc8
  have : (UInt8.ofNat a.toNat).toNat = a.toNat := by rw [UInt8.toNat_ofNat']; omega
  rw [this]
  congr 2
  omega
end
theorem rows_strip {W : World} {A : Option Addr} {l : List SvW} (h : RowsAt W A 2 SvW.enc l) : RowsAt W A 2 Sv.enc (l.map SvW.s) := by
  refine ⟨by rw [List.length_map]; exact h.len, fun hp => ?_⟩
  rw [List.length_map] at hp
  obtain ⟨b, off, e, hb, hc⟩ := h.at_ hp
  refine ⟨b, off, e, hb, fun i r hi j v hj => ?_⟩
  rw [List.getElem?_map] at hi
  cases hx : l[i]? with
  | none => rw [hx] at hi; cases hi
  | some x =>
    rw [hx] at hi
    injection hi with hi
    subst hi
    exact hc i x hx j v hj
theorem top_w (W : World) (s : Wk) (A : Option Addr) (ca : Nat) (l : List SvW) (hl : RowsAt W A 2 SvW.enc l) (B : Option Addr) (cb : Nat) (lb : List UInt8) (hb : RowsAt W B 1 enc8 lb) :
    Calls Try.prog 3 #[.agg s.enc.toArray, .slice A l.length ca, .slice B lb.length cb] W fun e w' => e = .returned (.bool true) ∧ Frm (fun _ => False) W w' := by
  have := top_c W s A ca (l.map SvW.s) (rows_strip hl) (fun i x hx => by
    rw [List.getElem?_map] at hx
    cases hy : l[i]? with
    | none => rw [hy] at hx; cases hx
    | some y => rw [hy] at hx; injection hx with hx; subst hx; exact y.per) B cb lb hb
  rw [List.length_map] at this
  exact this
end Go.Proofs.Ytadngogbnjodhaa
