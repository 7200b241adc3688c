/- Table: what a table is in memory; frames. -/
import Derived.Test.YtogjnclliaagbaaRows
import Derived.WalkKit
import Derived.Below
import Derived.Deep.LoopGhost
import Derived.Deep.QuietTactic
import Derived.BigQuiet
import Derived.BigRegion
import Derived.Lib.Hide
namespace Go.Proofs.Ytogjnclliaagbaa
open Go.RowKit

/-- Blocks outside S are as they were. -/
structure Frm (S : Nat → Prop) (w w' : World) : Prop where
  os : w'.os = w.os
  tape : w'.tape = w.tape
  output : w'.output = w.output
  size : w.heap.size ≤ w'.heap.size
  block : ∀ k, k < w.heap.size → ¬ S k → w'.heap[k]? = w.heap[k]?

theorem Frm.refl (S : Nat → Prop) (w : World) : Frm S w w := ⟨rfl, rfl, rfl, Nat.le_refl _, fun _ _ _ => rfl⟩
theorem Frm.trans {S : Nat → Prop} {a b c : World} (h : Frm S a b) (k : Frm S b c) : Frm S a c :=
  ⟨k.os.trans h.os, k.tape.trans h.tape, k.output.trans h.output, Nat.le_trans h.size k.size,
   fun i hi hs => (k.block i (Nat.lt_of_lt_of_le hi h.size) hs).trans (h.block i hi hs)⟩
theorem Frm.mono {S T : Nat → Prop} {a b : World} (h : Frm S a b) (hs : ∀ k, k < a.heap.size → S k → T k) : Frm T a b :=
  ⟨h.os, h.tape, h.output, h.size, fun i hi ht => h.block i hi fun hh => ht (hs i hi hh)⟩
theorem Frm.alloc {S : Nat → Prop} {a w : World} (h : Frm S a w) (o : Obj) : Frm S a (w.alloc o) :=
  h.trans ⟨rfl, rfl, rfl, by simp, fun k hk _ => Below.heap_alloc _ _ _ hk⟩
theorem Frm.drew {S : Nat → Prop} {a w : World} (h : Frm S a w) : Frm S a w.drew := ⟨h.os, h.tape, h.output, h.size, h.block⟩
theorem Frm.drewN {S : Nat → Prop} {a w : World} (h : Frm S a w) (n : Nat) : Frm S a (w.drewN n) := ⟨h.os, h.tape, h.output, h.size, h.block⟩
theorem Frm.setCell {S : Nat → Prop} {a w : World} (h : Frm S a w) {p : Addr} (hp : S p.block ∨ a.heap.size ≤ p.block) (u : Value) : Frm S a (w.setCell p u) :=
  ⟨h.os, h.tape, h.output, by have := h.size; simpa [World.setCell] using this, fun k hk hs =>
    (Below.heap_setCell _ _ _ _ (by rintro rfl; rcases hp with hp | hp; exact hs hp; omega)).trans (h.block k hk hs)⟩

theorem Frm.blk {S : Nat → Prop} {w w' : World} (h : Frm S w w') {k : Nat} {o : Obj} (hb : w.heap[k]? = some o) (hs : ¬ S k) : w'.heap[k]? = some o := (h.block k (lt_of_block hb) hs).trans hb
theorem Frm.cell {S : Nat → Prop} {w w' : World} (h : Frm S w w') {k i : Nat} {v : Value} (hk : k < w.heap.size) (hs : ¬ S k) (hc : w.cell? ⟨k, i, none⟩ = some v) : w'.cell? ⟨k, i, none⟩ = some v :=
  (World.cell?_of_block (w := w) (h.block k hk hs)).trans hc
theorem Frm.frozen {S : Nat → Prop} {w w' : World} (h : Frm S w w') {k i : Nat} {x : Bool} (hk : k < w.heap.size) (hs : ¬ S k) (hc : w.frozen? ⟨k, i, none⟩ = x) : w'.frozen? ⟨k, i, none⟩ = x :=
  (World.frozen?_of_block (w := w) (h.block k hk hs)).trans hc
theorem Frm.of_none {S : Nat → Prop} {a b : World} (h : Frm (fun _ => False) a b) : Frm S a b := h.mono fun _ _ hh => hh.elim
theorem Frm.below {S : Nat → Prop} {a b : World} {B : Nat} (h : Frm S a b) (hB : B ≤ a.heap.size) (hs : ∀ k, S k → B ≤ k) : Below B a b :=
  ⟨h.os, h.tape, h.output, h.size, fun k hk => h.block k (by omega) fun hh => by have := hs k hh; omega⟩
theorem lt_of_cell {w : World} {p i : Nat} {v : Value} (h : w.cell? ⟨p, i, none⟩ = some v) : p < w.heap.size := World.block_lt_of_cell? w _ h
theorem blk_alloc {w : World} {k : Nat} {o : Obj} (h : w.heap[k]? = some o) (o' : Obj) : (w.alloc o').heap[k]? = some o := (Below.heap_alloc _ _ _ (lt_of_block h)).trans h
theorem blk_other {w : World} {k : Nat} {o : Obj} (h : w.heap[k]? = some o) {a : Addr} (hk : k ≠ a.block) (v : Value) : (w.setCell a v).heap[k]? = some o := (Below.heap_setCell _ _ _ _ hk).trans h
theorem blk_setCell {w : World} {b i : Nat} {cs : Array Value} {t : TypeId} {fr : Nat × Nat} (h : w.heap[b]? = some (.cells cs t fr)) (u : Value) : (w.setCell ⟨b, i, none⟩ u).heap[b]? = some (.cells (cs.setIfInBounds i u) t fr) := by
  have hlt := lt_of_block h
  have h' : w.heap[b] = .cells cs t fr := by simpa [Array.getElem?_eq_getElem hlt] using h
  show (w.heap.modify b _)[b]? = _
  rw [Array.getElem?_eq_getElem (by simpa using hlt), Array.getElem_modify_self, h']
  rfl

theorem Frm.grown {S : Nat → Prop} {a w w' : World} {row : Option Nat} (h : Frm S a w) (hg : w.grownBy w' row) (hr : ∀ k, row = some k → a.heap.size ≤ k) : Frm S a w' :=
  ⟨hg.os.trans h.os, hg.tape.trans h.tape, hg.output.trans h.output, Nat.le_trans h.size hg.size,
   fun k hk hs => (hg.block k (Nat.lt_of_lt_of_le hk h.size) (fun e => by have := hr k e.symm; omega)).trans (h.block k hk hs)⟩
theorem Frm.up {S : Nat → Prop} {a b : World} {B : Nat} (h : Frm S a b) (hs : ∀ k, S k → B ≤ k) : Frm (fun k => B ≤ k) a b := h.mono fun k _ hk => hs k hk
theorem Frm.down {a b : World} (h : Frm (fun k => a.heap.size ≤ k) a b) {S : Nat → Prop} : Frm S a b := h.mono fun k hk h => by omega
theorem own_base {w : World} {base : Nat} {e : TypeId} {size n : Nat} {v : Value} {xs : List Value} (h : w.ownsRow base e size v n xs) (k : Nat) (hk : v.ownBlock = some k) : base ≤ k := by
  rcases h.2 with ⟨rfl, _⟩ | ⟨g, cap, cur, rfl, hb, _⟩
  · simp [Value.ownBlock] at hk
  · have : g = k := by simpa [Value.ownBlock] using hk
    omega

/-! ### A table -/
inductive Slot where
  | free (g : Int)
  | used (g : Int) (v : Int)
def Slot.enc : Slot → Value
  | .free g => .iface 61 (.agg #[.int .u64 g])
  | .used g v => .iface 64 (.agg #[.int .u64 g, .int .i64 v])
def Slot.isUsed : Slot → Bool
  | .free _ => false
  | .used _ _ => true
def cnt (L : List Slot) : Nat := L.countP Slot.isUsed

structure TabAt (w : World) (p b cap : Nat) (L : List Slot) : Prop where
  ne : p ≠ b
  len : L.length ≤ 1000
  hp : w.heap[p]? = some (.cells #[.slice (some ⟨b, 0, none⟩) L.length cap, .int .i64 (cnt L)] 59 (0, 0))
  hb : ∃ rest, w.heap[b]? = some (.cells (L.map Slot.enc ++ rest).toArray 20 (0, 0))
section
variable {w : World} {p b cap : Nat} {L : List Slot}
theorem TabAt.cp0 (h : TabAt w p b cap L) : w.cell? ⟨p, 0, none⟩ = some (.slice (some ⟨b, 0, none⟩) L.length cap) := by simp [World.cell?, h.hp]
theorem TabAt.cp1 (h : TabAt w p b cap L) : w.cell? ⟨p, 1, none⟩ = some (.int .i64 (cnt L)) := by simp [World.cell?, h.hp]
theorem TabAt.fp (h : TabAt w p b cap L) (i : Nat) : w.frozen? ⟨p, i, none⟩ = false := by simp [World.frozen?, h.hp]
theorem TabAt.fb (h : TabAt w p b cap L) (i : Nat) : w.frozen? ⟨b, i, none⟩ = false := by obtain ⟨r, hb⟩ := h.hb; simp [World.frozen?, hb]
theorem TabAt.cb (h : TabAt w p b cap L) {i : Nat} {s : Slot} (hi : L[i]? = some s) : w.cell? ⟨b, i, none⟩ = some s.enc := by
  obtain ⟨rest, hb⟩ := h.hb
  obtain ⟨hl, rfl⟩ := List.getElem?_eq_some_iff.1 hi
  simp [World.cell?, hb, List.getElem?_append, hl]
theorem TabAt.ltp (h : TabAt w p b cap L) : p < w.heap.size := lt_of_block h.hp
theorem TabAt.ltb (h : TabAt w p b cap L) : b < w.heap.size := by obtain ⟨r, hb⟩ := h.hb; exact lt_of_block hb
theorem TabAt.frm {w' : World} {S : Nat → Prop} (h : TabAt w p b cap L) (hf : Frm S w w') (h1 : ¬ S p) (h2 : ¬ S b) : TabAt w' p b cap L :=
  ⟨h.ne, h.len, hf.blk h.hp h1, by obtain ⟨r, hb⟩ := h.hb; exact ⟨r, hf.blk hb h2⟩⟩
theorem TabAt.keep {w' : World} (h : TabAt w p b cap L) (hf : Frm (fun _ => False) w w') : TabAt w' p b cap L := h.frm hf id id
theorem TabAt.alloc (h : TabAt w p b cap L) (o : Obj) : TabAt (w.alloc o) p b cap L := h.keep ((Frm.refl _ _).alloc o)
theorem TabAt.drewN (h : TabAt w p b cap L) (n : Nat) : TabAt (w.drewN n) p b cap L := h.keep ((Frm.refl _ _).drewN n)
theorem TabAt.drew (h : TabAt w p b cap L) : TabAt w.drew p b cap L := h.keep ((Frm.refl _ _).drew)
/-- a slot and the count are written -/
theorem TabAt.put (h : TabAt w p b cap L) {i : Nat} (hi : i < L.length) (s : Slot) (c : Int) (hc : c = cnt (L.set i s)) : TabAt ((w.setCell ⟨b, i, none⟩ s.enc).setCell ⟨p, 1, none⟩ (.int .i64 c)) p b cap (L.set i s) := by
  subst hc
  refine ⟨h.ne, by simpa using h.len, ?_, ?_⟩
  · have := blk_setCell (i := 1) (blk_other h.hp (a := ⟨b, i, none⟩) h.ne s.enc) (.int .i64 (cnt (L.set i s)))
    simpa using this
  · obtain ⟨r, hb⟩ := h.hb
    refine ⟨r, blk_other (a := ⟨p, 1, none⟩) ?_ h.ne.symm _⟩
    rw [blk_setCell hb]
    simp [hi, List.map_set]
/-- a slot is written, as full or as free as it was -/
theorem TabAt.set (h : TabAt w p b cap L) {i : Nat} (hi : i < L.length) (s : Slot) (hc : cnt (L.set i s) = cnt L) : TabAt (w.setCell ⟨b, i, none⟩ s.enc) p b cap (L.set i s) := by
  refine ⟨h.ne, by simpa using h.len, ?_, ?_⟩
  · have := blk_other h.hp (a := ⟨b, i, none⟩) h.ne s.enc
    simpa [hc] using this
  · obtain ⟨r, hb⟩ := h.hb
    refine ⟨r, ?_⟩
    rw [blk_setCell hb]
    simp [hi, List.map_set]
end
/-- What a handle tells. -/
def at? (L : List Slot) (s g : Int) : Option Int :=
  if s < 0 then Option.none else match L[s.toNat]? with
    | some (.used g' v) => if g' = g then some v else Option.none
    | _ => Option.none
theorem at?_some {L : List Slot} {s g v : Int} (h : at? L s g = some v) : ∃ n : Nat, s = n ∧ L[n]? = some (.used g v) := by
  unfold at? at h
  split at h
  · cases h
  · split at h
    · split at h
      · rename_i h1 g' v' h2 h3
        injection h with h; subst h; subst h3
        exact ⟨s.toNat, by omega, h2⟩
      · cases h
    · cases h
theorem cnt_set {L : List Slot} {i : Nat} {s t : Slot} (h : L[i]? = some s) : cnt (L.set i t) + (if s.isUsed then 1 else 0) = cnt L + (if t.isUsed then 1 else 0) := by
  unfold cnt
  induction L generalizing i with
  | nil => simp at h
  | cons a L ih =>
    cases i with
    | zero => simp at h; subst h; simp [List.countP_cons]; omega
    | succ i => simp at h; have := ih h; simp [List.countP_cons]; omega
theorem cnt_le (L : List Slot) : cnt L ≤ L.length := List.countP_le_length
theorem cnt_pos {L : List Slot} {i : Nat} {g v : Int} (h : L[i]? = some (.used g v)) : 0 < cnt L := by
  have := cnt_set (t := .used g v) h
  have h2 := cnt_set (t := .free g) h
  simp [Slot.isUsed] at h2; omega
theorem cnt_lt {L : List Slot} {i : Nat} {g : Int} (h : L[i]? = some (.free g)) : cnt L < L.length := by
  have h2 := cnt_set (t := .used g 0) h
  have := cnt_le (L.set i (.used g 0))
  simp [Slot.isUsed] at h2 this; omega

theorem ret_bool {b : Bool} (h : b = true) : Ending.returned (.bool b) = .returned (.bool true) := by rw [h]

/-! ### Type assertions -/
@[go_sem] theorem ta_used_used (v : Value) (w : World) : (Instr.typeAssert (.iface 64 v) 20 64 true).run Try.prog w = .ok (.tuple #[v, .bool true]) w := by
  simp [Instr.typeAssert, run_underlying Try.underlying64]
@[go_sem] theorem ta_used_free (v : Value) (w : World) : (Instr.typeAssert (.iface 61 v) 20 64 true).run Try.prog w = .ok (.tuple #[.agg #[.int .u64 0, .int .i64 0], .bool false]) w := by
  kernel_rfl
@[go_sem] theorem ta_free_free (v : Value) (w : World) : (Instr.typeAssert (.iface 61 v) 20 61 true).run Try.prog w = .ok (.tuple #[v, .bool true]) w := by
  simp [Instr.typeAssert, run_underlying Try.underlying61]
@[go_sem] theorem ta_free_used (v : Value) (w : World) : (Instr.typeAssert (.iface 64 v) 20 61 true).run Try.prog w = .ok (.tuple #[.agg #[.int .u64 0], .bool false]) w := by
  kernel_rfl
@[go_sem] theorem ta_used (v : Value) (w : World) : (Instr.typeAssert (.iface 64 v) 20 64 false).run Try.prog w = .ok v w := by
  simp [Instr.typeAssert, run_underlying Try.underlying64]
@[go_sem] theorem field64_1 (g v : Int) (w : World) : (Instr.field 64 (.agg #[.int .u64 g, .int .i64 v]) 1).run Try.prog w = .ok (.int .i64 v) w := by kernel_rfl
end Go.Proofs.Ytogjnclliaagbaa
