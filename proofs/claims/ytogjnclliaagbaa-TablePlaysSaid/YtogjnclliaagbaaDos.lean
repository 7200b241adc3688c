/- Steps (Do), pairs and bytes as rows of cells. -/
import Derived.Test.YtogjnclliaagbaaRow
namespace Go.Proofs.Ytogjnclliaagbaa
open Go.ChangeShapes Go.WideShapes Go.ChangeAt Go.RowKit
structure DoM where
  kind : Int
  v : Int
  slot : Int
  gen : Int
  deriving Inhabited
def DoM.enc (d : DoM) : List Value := [.int .i64 d.kind, .int .i64 d.v, .int .i64 d.slot, .int .u64 d.gen]
theorem cellsOf35 : Try.prog.cellsOf 35 = 4 := by kernel_rfl
theorem cellsOf31 : Try.prog.cellsOf 31 = 2 := by kernel_rfl
theorem cellsOf3 : Try.prog.cellsOf 3 = 1 := by kernel_rfl
theorem cellsOf29 : Try.prog.cellsOf 29 = 1 := by kernel_rfl
theorem cellsOf5 : Try.prog.cellsOf 5 = 1 := by kernel_rfl
theorem cellsOf23 : Try.prog.cellsOf 23 = 2 := by kernel_rfl
theorem cellsOf22 : Try.prog.cellsOf 22 = 1 := by kernel_rfl
theorem cellsOf42 : Try.prog.cellsOf 42 = 2 := by kernel_rfl
section
variable {H : Type} {enc : TypeId × Value → H} {W : World} {sp : Nat → Bool}
theorem dec35 (n : Nat) (cs : List Value) (x : DataW H × List MemPlace) (h : DataW.trod enc Try.prog W 0 sp true n 35 cs = some x) : ∃ r : DoM, cs = r.enc := by
  obtain ⟨xs, m, _, _, hl, hlen, hf⟩ := DataW.trod_struct Try.underlying35 h
  rw [cellsOf35] at hl
  match cs, hl with
  | [c0, c1, c2, c3], _ =>
    match xs, hlen with
    | [x0, x1, x2], _ =>
      have h0 : DataW.trod enc Try.prog W 0 sp true m 3 ((([c0, c1, c2, c3] : List Value).drop 0).take (Try.prog.cellsOf 3)) = some x0 := hf 0 _ rfl
      have h1 : DataW.trod enc Try.prog W 0 sp true m 3 ((([c0, c1, c2, c3] : List Value).drop 1).take (Try.prog.cellsOf 3)) = some x1 := hf 1 _ rfl
      have h2 : DataW.trod enc Try.prog W 0 sp true m 31 ((([c0, c1, c2, c3] : List Value).drop 2).take (Try.prog.cellsOf 31)) = some x2 := hf 2 _ rfl
      rw [cellsOf3] at h0 h1
      rw [cellsOf31] at h2
      obtain ⟨a, ha, _⟩ := DataW.trod_int Try.underlying3 h0
      obtain ⟨b, hb, _⟩ := DataW.trod_int Try.underlying3 h1
      obtain ⟨ys, k, _, _, _, hlen2, hg⟩ := DataW.trod_struct Try.underlying31 h2
      match ys, hlen2 with
      | [y0, y1], _ =>
        have g0 : DataW.trod enc Try.prog W 0 sp true k 3 ((([c2, c3] : List Value).drop 0).take (Try.prog.cellsOf 3)) = some y0 := hg 0 _ rfl
        have g1 : DataW.trod enc Try.prog W 0 sp true k 29 ((([c2, c3] : List Value).drop 1).take (Try.prog.cellsOf 29)) = some y1 := hg 1 _ rfl
        rw [cellsOf3] at g0
        rw [cellsOf29] at g1
        obtain ⟨c, hc, _⟩ := DataW.trod_int Try.underlying3 g0
        obtain ⟨d, hd, _⟩ := DataW.trod_int Try.underlying29 g1
        simp at ha hb hc hd
        subst ha hb hc hd
        exact ⟨⟨a, b, c, d⟩, rfl⟩
def enc8 (n : UInt8) : List Value := [.int .u8 (n.toNat : Int)]
theorem dec5 (n : Nat) (cs : List Value) (x : DataW H × List MemPlace) (h : DataW.trod enc Try.prog W 0 sp true n 5 cs = some x) : ∃ r : UInt8, cs = enc8 r := by
  obtain ⟨a, ha, _, hw⟩ := DataW.trod_int Try.underlying5 h
  have hb := wf_u8 hw
  refine ⟨UInt8.ofNat a.toNat, ?_⟩
  rw [ha]
  unfold enc8
  have : (UInt8.ofNat a.toNat).toNat = a.toNat := by rw [UInt8.toNat_ofNat']; omega
  rw [this]
  congr 2
  omega
def enc2 (p : Int × Int) : List Value := [.int .i64 p.1, .int .i64 p.2]
theorem dec42 (n : Nat) (cs : List Value) (x : DataW H × List MemPlace) (h : DataW.trod enc Try.prog W 0 sp true n 42 cs = some x) : ∃ r : Int × Int, cs = enc2 r := by
  obtain ⟨xs, m, _, _, hl, hlen, hf⟩ := DataW.trod_array Try.underlying42 h
  rw [cellsOf42] at hl
  match cs, hl with
  | [c0, c1], _ =>
    match xs, hlen with
    | [x0, x1], _ =>
      have h0 := hf 0 (by omega)
      have h1 := hf 1 (by omega)
      rw [cellsOf3] at h0 h1
      obtain ⟨a, ha, _⟩ := DataW.trod_int Try.underlying3 h0
      obtain ⟨b, hb, _⟩ := DataW.trod_int Try.underlying3 h1
      simp at ha hb
      subst ha hb
      exact ⟨⟨a, b⟩, rfl⟩
end
end Go.Proofs.Ytogjnclliaagbaa
