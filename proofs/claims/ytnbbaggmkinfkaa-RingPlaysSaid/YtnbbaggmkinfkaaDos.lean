/- Steps (Do) and bytes as rows of cells. -/
import Derived.Test.YtnbbaggmkinfkaaRow
import Derived.Test.YtnbbaggmkinfkaaBase
namespace Go.Proofs.Ytnbbaggmkinfkaa
open Go.ChangeShapes Go.WideShapes Go.ChangeAt Go.RowKit
structure DoM where
  kind : Int
  d : DM
  no : Int
  st : Int
  deriving Inhabited
def DoM.enc (d : DoM) : List Value := [.int .i64 d.kind, .int .i64 d.d.op, .int .i64 d.d.req, .int .i64 d.d.slot, .int .u64 d.d.gen, .int .i64 d.d.frm, .int .i64 d.d.len, .bool d.d.device, .bool d.d.done, .int .i64 d.d.status, .int .i64 d.no, .int .i64 d.st]
theorem cellsOf35 : Try.prog.cellsOf 35 = 12 := by kernel_rfl
theorem cellsOf33 : Try.prog.cellsOf 33 = 9 := by kernel_rfl
theorem cellsOf31 : Try.prog.cellsOf 31 = 2 := by kernel_rfl
theorem cellsOf3 : Try.prog.cellsOf 3 = 1 := by kernel_rfl
theorem cellsOf4 : Try.prog.cellsOf 4 = 1 := by kernel_rfl
theorem cellsOf29 : Try.prog.cellsOf 29 = 1 := by kernel_rfl
theorem cellsOf5 : Try.prog.cellsOf 5 = 1 := by kernel_rfl
theorem cellsOf22 : Try.prog.cellsOf 22 = 1 := by kernel_rfl
theorem cellsOf49 : Try.prog.cellsOf 49 = 2 := by kernel_rfl
section
variable {H : Type} {enc : TypeId × Value → H} {W : World} {sp : Nat → Bool}
theorem dec31 (n : Nat) (cs : List Value) (x : DataW H × List MemPlace) (h : DataW.trod enc Try.prog W 0 sp true n 31 cs = some x) : ∃ a b : Int, cs = [.int .i64 a, .int .u64 b] := by
  obtain ⟨ys, k, _, _, hl, hlen2, hg⟩ := DataW.trod_struct Try.underlying31 h
  rw [cellsOf31] at hl
  match cs, hl with
  | [c2, c3], _ =>
    match ys, hlen2 with
    | [y0, y1], _ =>
      have g0 : DataW.trod enc Try.prog W 0 sp true k 3 ((([c2, c3] : List Value).drop 0).take (Try.prog.cellsOf 3)) = some y0 := hg 0 _ rfl
      have g1 : DataW.trod enc Try.prog W 0 sp true k 29 ((([c2, c3] : List Value).drop 1).take (Try.prog.cellsOf 29)) = some y1 := hg 1 _ rfl
      rw [cellsOf3] at g0
      rw [cellsOf29] at g1
      obtain ⟨c, hc, _⟩ := DataW.trod_int Try.underlying3 g0
      obtain ⟨d, hd, _⟩ := DataW.trod_int Try.underlying29 g1
      simp at hc hd
      subst hc hd
      exact ⟨c, d, rfl⟩
theorem dec33 (n : Nat) (cs : List Value) (x : DataW H × List MemPlace) (h : DataW.trod enc Try.prog W 0 sp true n 33 cs = some x) : ∃ r : DM, cs = r.cells := by
  obtain ⟨xs, m, _, _, hl, hlen, hf⟩ := DataW.trod_struct Try.underlying33 h
  rw [cellsOf33] at hl
  match cs, hl with
  | [c0, c1, c2, c3, c4, c5, c6, c7, c8], _ =>
    match xs, hlen with
    | [x0, x1, x2, x3, x4, x5, x6, x7], _ =>
      have h0 : DataW.trod enc Try.prog W 0 sp true m 3 ((([c0, c1, c2, c3, c4, c5, c6, c7, c8] : List Value).drop 0).take (Try.prog.cellsOf 3)) = some x0 := hf 0 _ rfl
      have h1 : DataW.trod enc Try.prog W 0 sp true m 3 ((([c0, c1, c2, c3, c4, c5, c6, c7, c8] : List Value).drop 1).take (Try.prog.cellsOf 3)) = some x1 := hf 1 _ rfl
      have h2 : DataW.trod enc Try.prog W 0 sp true m 31 ((([c0, c1, c2, c3, c4, c5, c6, c7, c8] : List Value).drop 2).take (Try.prog.cellsOf 31)) = some x2 := hf 2 _ rfl
      have h3 : DataW.trod enc Try.prog W 0 sp true m 3 ((([c0, c1, c2, c3, c4, c5, c6, c7, c8] : List Value).drop 4).take (Try.prog.cellsOf 3)) = some x3 := hf 3 _ rfl
      have h4 : DataW.trod enc Try.prog W 0 sp true m 3 ((([c0, c1, c2, c3, c4, c5, c6, c7, c8] : List Value).drop 5).take (Try.prog.cellsOf 3)) = some x4 := hf 4 _ rfl
      have h5 : DataW.trod enc Try.prog W 0 sp true m 4 ((([c0, c1, c2, c3, c4, c5, c6, c7, c8] : List Value).drop 6).take (Try.prog.cellsOf 4)) = some x5 := hf 5 _ rfl
      have h6 : DataW.trod enc Try.prog W 0 sp true m 4 ((([c0, c1, c2, c3, c4, c5, c6, c7, c8] : List Value).drop 7).take (Try.prog.cellsOf 4)) = some x6 := hf 6 _ rfl
      have h7 : DataW.trod enc Try.prog W 0 sp true m 3 ((([c0, c1, c2, c3, c4, c5, c6, c7, c8] : List Value).drop 8).take (Try.prog.cellsOf 3)) = some x7 := hf 7 _ rfl
      rw [cellsOf3] at h0 h1 h3 h4 h7
      rw [cellsOf4] at h5 h6
      rw [cellsOf31] at h2
      obtain ⟨a0, e0, _⟩ := DataW.trod_int Try.underlying3 h0
      obtain ⟨a1, e1, _⟩ := DataW.trod_int Try.underlying3 h1
      obtain ⟨a2, b2, e2⟩ := dec31 _ _ _ h2
      obtain ⟨a3, e3, _⟩ := DataW.trod_int Try.underlying3 h3
      obtain ⟨a4, e4, _⟩ := DataW.trod_int Try.underlying3 h4
      obtain ⟨a5, e5, _⟩ := DataW.trod_bool Try.underlying4 h5
      obtain ⟨a6, e6, _⟩ := DataW.trod_bool Try.underlying4 h6
      obtain ⟨a7, e7, _⟩ := DataW.trod_int Try.underlying3 h7
      simp at e0 e1 e2 e3 e4 e5 e6 e7
      obtain ⟨rfl, rfl⟩ := e2
      subst e0 e1 e3 e4 e5 e6 e7
      exact ⟨⟨a0, a1, a2, b2, a3, a4, a5, a6, a7⟩, rfl⟩
theorem dec35 (n : Nat) (cs : List Value) (x : DataW H × List MemPlace) (h : DataW.trod enc Try.prog W 0 sp true n 35 cs = some x) : ∃ r : DoM, cs = r.enc := by
  obtain ⟨xs, m, _, _, hl, hlen, hf⟩ := DataW.trod_struct Try.underlying35 h
  rw [cellsOf35] at hl
  match cs, hl with
  | [k, c0, c1, c2, c3, c4, c5, c6, c7, c8, no, st], _ =>
    match xs, hlen with
    | [x0, x1, x2, x3], _ =>
      have h0 : DataW.trod enc Try.prog W 0 sp true m 3 ((([k, c0, c1, c2, c3, c4, c5, c6, c7, c8, no, st] : List Value).drop 0).take (Try.prog.cellsOf 3)) = some x0 := hf 0 _ rfl
      have h1 : DataW.trod enc Try.prog W 0 sp true m 33 ((([k, c0, c1, c2, c3, c4, c5, c6, c7, c8, no, st] : List Value).drop 1).take (Try.prog.cellsOf 33)) = some x1 := hf 1 _ rfl
      have h2 : DataW.trod enc Try.prog W 0 sp true m 3 ((([k, c0, c1, c2, c3, c4, c5, c6, c7, c8, no, st] : List Value).drop 10).take (Try.prog.cellsOf 3)) = some x2 := hf 2 _ rfl
      have h3 : DataW.trod enc Try.prog W 0 sp true m 3 ((([k, c0, c1, c2, c3, c4, c5, c6, c7, c8, no, st] : List Value).drop 11).take (Try.prog.cellsOf 3)) = some x3 := hf 3 _ rfl
      rw [cellsOf3] at h0 h2 h3
      rw [cellsOf33] at h1
      obtain ⟨a0, e0, _⟩ := DataW.trod_int Try.underlying3 h0
      obtain ⟨d, e1⟩ := dec33 _ _ _ h1
      obtain ⟨a2, e2, _⟩ := DataW.trod_int Try.underlying3 h2
      obtain ⟨a3, e3, _⟩ := DataW.trod_int Try.underlying3 h3
      simp [DM.cells] at e0 e1 e2 e3
      obtain ⟨rfl, rfl, rfl, rfl, rfl, rfl, rfl, rfl, rfl⟩ := e1
      subst e0 e2 e3
      exact ⟨⟨a0, d, a2, a3⟩, rfl⟩
def enc8 (n : UInt8) : List Value := [.int .u8 (n.toNat : Int)]
theorem dec5 (n : Nat) (cs : List Value) (x : DataW H × List MemPlace) (h : DataW.trod enc Try.prog W 0 sp true n 5 cs = some x) : ∃ r : UInt8, cs = enc8 r := by
  obtain ⟨a, ha, _, hw⟩ := DataW.trod_int Try.underlying5 h
  have hb := wf_u8 hw
  refine ⟨UInt8.ofNat a.toNat, ?_⟩
  rw [ha]
  unfold enc8
  have : (UInt8.ofNat a.toNat).toNat = a.toNat := by rw [UInt8.toNat_ofNat']; omega
  rw [this]
  congr 2
  omega
end
end Go.Proofs.Ytnbbaggmkinfkaa
