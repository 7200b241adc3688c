/- Tables in memory. -/
import Derived.Test.YtogjnclliaagbaaGen
namespace Go.Proofs.Ytogjnclliaagbaa
open Go.RowKit
/-! ### A table -/
inductive Slot where
  | free (g : Int)
  | used (g : Int) (v : Int)
def Slot.enc : Slot → Value
  | .free g => .iface 61 (.agg #[.int .u64 g])
  | .used g v => .iface 64 (.agg #[.int .u64 g, .int .i64 v])
def Slot.isUsed : Slot → Bool
  | .free _ => false
  | .used _ _ => true
def cnt (L : List Slot) : Nat := L.countP Slot.isUsed

structure TabAt (w : World) (p b cap : Nat) (L : List Slot) : Prop where
  ne : p ≠ b
  len : L.length ≤ 1000
  hp : w.heap[p]? = some (.cells #[.slice (some ⟨b, 0, none⟩) L.length cap, .int .i64 (cnt L)] 59 (0, 0))
  hb : ∃ rest, w.heap[b]? = some (.cells (L.map Slot.enc ++ rest).toArray 20 (0, 0))
section
variable {w : World} {p b cap : Nat} {L : List Slot}
theorem TabAt.cp0 (h : TabAt w p b cap L) : w.cell? ⟨p, 0, none⟩ = some (.slice (some ⟨b, 0, none⟩) L.length cap) := by simp [World.cell?, h.hp]
theorem TabAt.cp1 (h : TabAt w p b cap L) : w.cell? ⟨p, 1, none⟩ = some (.int .i64 (cnt L)) := by simp [World.cell?, h.hp]
theorem TabAt.fp (h : TabAt w p b cap L) (i : Nat) : w.frozen? ⟨p, i, none⟩ = false := by simp [World.frozen?, h.hp]
theorem TabAt.fb (h : TabAt w p b cap L) (i : Nat) : w.frozen? ⟨b, i, none⟩ = false := by obtain ⟨r, hb⟩ := h.hb; simp [World.frozen?, hb]
theorem TabAt.cb (h : TabAt w p b cap L) {i : Nat} {s : Slot} (hi : L[i]? = some s) : w.cell? ⟨b, i, none⟩ = some s.enc := by
  obtain ⟨rest, hb⟩ := h.hb
  obtain ⟨hl, rfl⟩ := List.getElem?_eq_some_iff.1 hi
  simp [World.cell?, hb, List.getElem?_append, hl]
theorem TabAt.ltp (h : TabAt w p b cap L) : p < w.heap.size := lt_of_block h.hp
theorem TabAt.ltb (h : TabAt w p b cap L) : b < w.heap.size := by obtain ⟨r, hb⟩ := h.hb; exact lt_of_block hb
theorem TabAt.frm {w' : World} {S : Nat → Prop} (h : TabAt w p b cap L) (hf : Frm S w w') (h1 : ¬ S p) (h2 : ¬ S b) : TabAt w' p b cap L :=
  ⟨h.ne, h.len, hf.blk h.hp h1, by obtain ⟨r, hb⟩ := h.hb; exact ⟨r, hf.blk hb h2⟩⟩
theorem TabAt.keep {w' : World} (h : TabAt w p b cap L) (hf : Frm (fun _ => False) w w') : TabAt w' p b cap L := h.frm hf id id
theorem TabAt.alloc (h : TabAt w p b cap L) (o : Obj) : TabAt (w.alloc o) p b cap L := h.keep ((Frm.refl _ _).alloc o)
theorem TabAt.drewN (h : TabAt w p b cap L) (n : Nat) : TabAt (w.drewN n) p b cap L := h.keep ((Frm.refl _ _).drewN n)
theorem TabAt.drew (h : TabAt w p b cap L) : TabAt w.drew p b cap L := h.keep ((Frm.refl _ _).drew)
/-- a slot and the count are written -/
theorem TabAt.put (h : TabAt w p b cap L) {i : Nat} (hi : i < L.length) (s : Slot) (c : Int) (hc : c = cnt (L.set i s)) : TabAt ((w.setCell ⟨b, i, none⟩ s.enc).setCell ⟨p, 1, none⟩ (.int .i64 c)) p b cap (L.set i s) := by
  subst hc
  refine ⟨h.ne, by simpa using h.len, ?_, ?_⟩
  · have := blk_setCell (i := 1) (blk_other h.hp (a := ⟨b, i, none⟩) h.ne s.enc) (.int .i64 (cnt (L.set i s)))
    simpa using this
  · obtain ⟨r, hb⟩ := h.hb
    refine ⟨r, blk_other (a := ⟨p, 1, none⟩) ?_ h.ne.symm _⟩
    rw [blk_setCell hb]
    simp [hi, List.map_set]
/-- a slot is written, as full or as free as it was -/
theorem TabAt.set (h : TabAt w p b cap L) {i : Nat} (hi : i < L.length) (s : Slot) (hc : cnt (L.set i s) = cnt L) : TabAt (w.setCell ⟨b, i, none⟩ s.enc) p b cap (L.set i s) := by
  refine ⟨h.ne, by simpa using h.len, ?_, ?_⟩
  · have := blk_other h.hp (a := ⟨b, i, none⟩) h.ne s.enc
    simpa [hc] using this
  · obtain ⟨r, hb⟩ := h.hb
    refine ⟨r, ?_⟩
    rw [blk_setCell hb]
    simp [hi, List.map_set]
end
/-- What a handle tells. -/
def at? (L : List Slot) (s g : Int) : Option Int :=
  if s < 0 then Option.none else match L[s.toNat]? with
    | some (.used g' v) => if g' = g then some v else Option.none
    | _ => Option.none
theorem at?_some {L : List Slot} {s g v : Int} (h : at? L s g = some v) : ∃ n : Nat, s = n ∧ L[n]? = some (.used g v) := by
  unfold at? at h
  split at h
  · cases h
  · split at h
    · split at h
      · rename_i h1 g' v' h2 h3
        injection h with h; subst h; subst h3
        exact ⟨s.toNat, by omega, h2⟩
      · cases h
    · cases h
theorem cnt_set {L : List Slot} {i : Nat} {s t : Slot} (h : L[i]? = some s) : cnt (L.set i t) + (if s.isUsed then 1 else 0) = cnt L + (if t.isUsed then 1 else 0) := by
  unfold cnt
  induction L generalizing i with
  | nil => simp at h
  | cons a L ih =>
    cases i with
    | zero => simp at h; subst h; simp [List.countP_cons]; omega
    | succ i => simp at h; have := ih h; simp [List.countP_cons]; omega
theorem cnt_le (L : List Slot) : cnt L ≤ L.length := List.countP_le_length
theorem cnt_pos {L : List Slot} {i : Nat} {g v : Int} (h : L[i]? = some (.used g v)) : 0 < cnt L := by
  have := cnt_set (t := .used g v) h
  have h2 := cnt_set (t := .free g) h
  simp [Slot.isUsed] at h2; omega
theorem cnt_lt {L : List Slot} {i : Nat} {g : Int} (h : L[i]? = some (.free g)) : cnt L < L.length := by
  have h2 := cnt_set (t := .used g 0) h
  have := cnt_le (L.set i (.used g 0))
  simp [Slot.isUsed] at h2 this; omega

/-! ### Type assertions -/
@[go_sem] theorem ta_used_used (v : Value) (w : World) : (Instr.typeAssert (.iface 64 v) 20 64 true).run Try.prog w = .ok (.tuple #[v, .bool true]) w := by
  simp [Instr.typeAssert, run_underlying Try.underlying64]
@[go_sem] theorem ta_used_free (v : Value) (w : World) : (Instr.typeAssert (.iface 61 v) 20 64 true).run Try.prog w = .ok (.tuple #[.agg #[.int .u64 0, .int .i64 0], .bool false]) w := by
  kernel_rfl
@[go_sem] theorem ta_free_free (v : Value) (w : World) : (Instr.typeAssert (.iface 61 v) 20 61 true).run Try.prog w = .ok (.tuple #[v, .bool true]) w := by
  simp [Instr.typeAssert, run_underlying Try.underlying61]
@[go_sem] theorem ta_free_used (v : Value) (w : World) : (Instr.typeAssert (.iface 64 v) 20 61 true).run Try.prog w = .ok (.tuple #[.agg #[.int .u64 0], .bool false]) w := by
  kernel_rfl
@[go_sem] theorem ta_used (v : Value) (w : World) : (Instr.typeAssert (.iface 64 v) 20 64 false).run Try.prog w = .ok v w := by
  simp [Instr.typeAssert, run_underlying Try.underlying64]
@[go_sem] theorem field64_1 (g v : Int) (w : World) : (Instr.field 64 (.agg #[.int .u64 g, .int .i64 v]) 1).run Try.prog w = .ok (.int .i64 v) w := by kernel_rfl
end Go.Proofs.Ytogjnclliaagbaa
