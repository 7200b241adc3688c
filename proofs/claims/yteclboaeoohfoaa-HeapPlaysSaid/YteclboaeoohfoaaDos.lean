/- Steps (Do), bytes, numbers and bools as rows of cells. -/
import Derived.Test.YteclboaeoohfoaaRow
namespace Go.Proofs.Yteclboaeoohfoaa
open Go.ChangeShapes Go.WideShapes Go.ChangeAt Go.RowKit
structure DoM where
  kind : Int
  id : Int
  key : Int
  deriving Inhabited
def DoM.enc (d : DoM) : List Value := [.int .i64 d.kind, .int .i64 d.id, .int .u64 d.key]
theorem cellsOf32 : Try.prog.cellsOf 32 = 3 := by kernel_rfl
theorem cellsOf3 : Try.prog.cellsOf 3 = 1 := by kernel_rfl
theorem cellsOf30 : Try.prog.cellsOf 30 = 1 := by kernel_rfl
theorem cellsOf5 : Try.prog.cellsOf 5 = 1 := by kernel_rfl
theorem cellsOf4 : Try.prog.cellsOf 4 = 1 := by kernel_rfl
section
variable {H : Type} {enc : TypeId × Value → H} {W : World} {sp : Nat → Bool}
theorem dec32 (n : Nat) (cs : List Value) (x : DataW H × List MemPlace) (h : DataW.trod enc Try.prog W 0 sp true n 32 cs = some x) : ∃ r : DoM, cs = r.enc := by
  obtain ⟨xs, m, _, _, hl, hlen, hf⟩ := DataW.trod_struct Try.underlying32 h
  rw [cellsOf32] at hl
  match cs, hl with
  | [c0, c1, c2], _ =>
    match xs, hlen with
    | [x0, x1, x2], _ =>
      have h0 : DataW.trod enc Try.prog W 0 sp true m 3 ((([c0, c1, c2] : List Value).drop 0).take (Try.prog.cellsOf 3)) = some x0 := hf 0 _ rfl
      have h1 : DataW.trod enc Try.prog W 0 sp true m 3 ((([c0, c1, c2] : List Value).drop 1).take (Try.prog.cellsOf 3)) = some x1 := hf 1 _ rfl
      have h2 : DataW.trod enc Try.prog W 0 sp true m 30 ((([c0, c1, c2] : List Value).drop 2).take (Try.prog.cellsOf 30)) = some x2 := hf 2 _ rfl
      rw [cellsOf3] at h0 h1
      rw [cellsOf30] at h2
      obtain ⟨a, ha, _⟩ := DataW.trod_int Try.underlying3 h0
      obtain ⟨b, hb, _⟩ := DataW.trod_int Try.underlying3 h1
      obtain ⟨c, hc, _⟩ := DataW.trod_int Try.underlying30 h2
      simp at ha hb hc
      subst ha hb hc
      exact ⟨⟨a, b, c⟩, rfl⟩
def enc8 (n : UInt8) : List Value := [.int .u8 (n.toNat : Int)]
theorem dec5 (n : Nat) (cs : List Value) (x : DataW H × List MemPlace) (h : DataW.trod enc Try.prog W 0 sp true n 5 cs = some x) : ∃ r : UInt8, cs = enc8 r := by
  obtain ⟨a, ha, _, hw⟩ := DataW.trod_int Try.underlying5 h
  have hb := wf_u8 hw
  refine ⟨UInt8.ofNat a.toNat, ?_⟩
  rw [ha]
  unfold enc8
  have : (UInt8.ofNat a.toNat).toNat = a.toNat := by rw [UInt8.toNat_ofNat']; omega
  rw [this]
  congr 2
  omega
def enc64 (n : UInt64) : List Value := [.int .u64 (n.toNat : Int)]
theorem dec30 (n : Nat) (cs : List Value) (x : DataW H × List MemPlace) (h : DataW.trod enc Try.prog W 0 sp true n 30 cs = some x) : ∃ r : UInt64, cs = enc64 r := by
  obtain ⟨a, ha, _, hw⟩ := DataW.trod_int Try.underlying30 h
  have hb := wf_u64 hw
  refine ⟨UInt64.ofNat a.toNat, ?_⟩
  rw [ha]
  unfold enc64
  have : (UInt64.ofNat a.toNat).toNat = a.toNat := by rw [UInt64.toNat_ofNat']; omega
  rw [this]
  congr 2
  omega
def encB (b : Bool) : List Value := [.bool b]
theorem dec4 (n : Nat) (cs : List Value) (x : DataW H × List MemPlace) (h : DataW.trod enc Try.prog W 0 sp true n 4 cs = some x) : ∃ r : Bool, cs = encB r := by
  obtain ⟨a, ha, _⟩ := DataW.trod_bool Try.underlying4 h
  exact ⟨a, ha⟩
end
/-- A step's box. -/
structure DBox (w : World) (q : Nat) (d : DoM) : Prop where
  c0 : w.cell? ⟨q, 0, none⟩ = some (.int .i64 d.kind)
  c1 : w.cell? ⟨q, 1, none⟩ = some (.int .i64 d.id)
  c2 : w.cell? ⟨q, 2, none⟩ = some (.int .u64 d.key)
theorem DBox.via {S : Nat → Prop} {w w' : World} {q : Nat} {d : DoM} (h : DBox w q d) (hf : Frm S w w') (hs : ¬ S q) : DBox w' q d :=
  ⟨hf.cell (lt_of_cell h.c0) hs h.c0, hf.cell (lt_of_cell h.c0) hs h.c1, hf.cell (lt_of_cell h.c0) hs h.c2⟩
theorem DBox.new (w : World) (d : DoM) : DBox (w.alloc (.cells #[.int .i64 d.kind, .int .i64 d.id, .int .u64 d.key] 32)) w.heap.size d := ⟨by simp, by simp, by simp⟩
end Go.Proofs.Yteclboaeoohfoaa
