/- Descriptors; which may be. -/
import Derived.Test.YtkmgdfcpfdnkfaaGen
namespace Go.Proofs.Ytkmgdfcpfdnkfaa
open Go.RowKit
structure DM where
  op : Int
  req : Int
  slot : Int
  gen : Int
  frm : Int
  len : Int
  device : Bool
  done : Bool
  status : Int
  deriving Inhabited, DecidableEq
def DM.cells (d : DM) : List Value := [.int .i64 d.op, .int .i64 d.req, .int .i64 d.slot, .int .u64 d.gen, .int .i64 d.frm, .int .i64 d.len, .bool d.device, .bool d.done, .int .i64 d.status]
def DM.zero : DM := ⟨0, 0, 0, 0, 0, 0, false, false, 0⟩
def inB (n m : Int) : Bool := decide (0 ≤ n ∧ n ≤ m)
def mayB (d : DM) : Bool := inB d.op 15 && inB d.req 65535 && inB d.slot 65535 && decide (d.gen ≤ 4294967295) && inB d.frm 65535 && inB d.len 65536 && inB d.status 255 && (d.done || d.status == 0)
theorem in_c (w : World) (n m : Int) : Calls Try.prog 21 #[.int .i64 n, .int .i64 m] w fun e w' => e = .returned (.bool (inB n m)) ∧ w = w' := by
  by_cases h0 : 0 ≤ n
  · by_cases h1 : n ≤ m
    · rw [show inB n m = true by simp [inB, h0, h1]]
      go_enter Try.func21, Try.ntmps21
      go_wp2
      go_ret
      exact ⟨rfl, rfl⟩
    · rw [show inB n m = false by simp [inB, h1]]
      have e : decide (n ≤ m) = false := by simpa using h1
      go_enter Try.func21, Try.ntmps21
      go_wp2
      go_ret
      exact ⟨rfl, rfl⟩
  · rw [show inB n m = false by simp [inB, h0]]
    have e : decide (0 ≤ n) = false := by simpa using h0
    go_enter Try.func21, Try.ntmps21
    go_wp2
    go_ret
    exact ⟨rfl, rfl⟩
/-- The box of a descriptor. -/
structure DBox (w : World) (q : Nat) (d : DM) : Prop where
  c0 : w.cell? ⟨q, 0, none⟩ = some (.int .i64 d.op)
  c1 : w.cell? ⟨q, 1, none⟩ = some (.int .i64 d.req)
  c2 : w.cell? ⟨q, 2, none⟩ = some (.int .i64 d.slot)
  c3 : w.cell? ⟨q, 3, none⟩ = some (.int .u64 d.gen)
  c4 : w.cell? ⟨q, 4, none⟩ = some (.int .i64 d.frm)
  c5 : w.cell? ⟨q, 5, none⟩ = some (.int .i64 d.len)
  c6 : w.cell? ⟨q, 6, none⟩ = some (.bool d.device)
  c7 : w.cell? ⟨q, 7, none⟩ = some (.bool d.done)
  c8 : w.cell? ⟨q, 8, none⟩ = some (.int .i64 d.status)
theorem DBox.via {S : Nat → Prop} {w w' : World} {q : Nat} {d : DM} (h : DBox w q d) (hf : Frm S w w') (hs : ¬ S q) : DBox w' q d := by
  have hl := lt_of_cell h.c0
  exact ⟨hf.cell hl hs h.c0, hf.cell hl hs h.c1, hf.cell hl hs h.c2, hf.cell hl hs h.c3, hf.cell hl hs h.c4, hf.cell hl hs h.c5, hf.cell hl hs h.c6, hf.cell hl hs h.c7, hf.cell hl hs h.c8⟩
theorem DBox.new (w : World) (d : DM) : DBox (w.alloc (.cells d.cells.toArray 26)) w.heap.size d := by
  constructor <;> simp [DM.cells]
theorem may_c (w : World) (d : DM) : Calls Try.prog 11 #[.agg d.cells.toArray] w fun e w' => e = .returned (.bool (mayB d)) ∧ Frm (fun _ => False) w w' := by
  obtain ⟨op, req, slot, gen, frm, len, device, done, status⟩ := d
  simp only [DM.cells]
  go_enter Try.func11, Try.ntmps11
  go_wp2_with (go_at_call 21; refine (in_c _ _ _).mono ?_; rintro e w' ⟨rfl, rfl⟩)
  all_goals
    go_ret
    refine ⟨?_, (Frm.refl _ _).alloc _⟩
    simp_all [mayB]
    try omega
set_option maxRecDepth 100000 in
set_option maxHeartbeats 4000000 in
theorem rmay_c (w : World) (d : DM) : Calls Try.prog 12 #[.agg d.cells.toArray] w fun e w' => e = .returned (.bool (mayB d)) ∧ Frm (fun _ => False) w w' := by
  obtain ⟨op, req, slot, gen, frm, len, device, done, status⟩ := d
  simp only [DM.cells]
  go_enter Try.func12, Try.ntmps12
  go_wp2_with fail
  all_goals
    go_ret
    refine ⟨?_, (Frm.refl _ _).alloc _⟩
    simp_all [mayB, inB]
    try (first | omega | exact Bool.or_comm _ _)
end Go.Proofs.Ytkmgdfcpfdnkfaa
