/- Frames: which blocks are as they were. -/
import Derived.Test.YtadngogbnjodhaaRows
import Derived.WalkKit
import Derived.Below
import Derived.Deep.LoopGhost
import Derived.Deep.QuietTactic
import Derived.BigQuiet
import Derived.BigRegion
import Derived.Lib.Hide
import Derived.Deep.OwnRows
namespace Go.Proofs.Ytadngogbnjodhaa
open Go.RowKit

/-- Blocks outside S are as they were. -/
structure Frm (S : Nat → Prop) (w w' : World) : Prop where
  os : w'.os = w.os
  tape : w'.tape = w.tape
  output : w'.output = w.output
  size : w.heap.size ≤ w'.heap.size
  block : ∀ k, k < w.heap.size → ¬ S k → w'.heap[k]? = w.heap[k]?

theorem Frm.refl (S : Nat → Prop) (w : World) : Frm S w w := ⟨rfl, rfl, rfl, Nat.le_refl _, fun _ _ _ => rfl⟩
theorem Frm.trans {S : Nat → Prop} {a b c : World} (h : Frm S a b) (k : Frm S b c) : Frm S a c :=
  ⟨k.os.trans h.os, k.tape.trans h.tape, k.output.trans h.output, Nat.le_trans h.size k.size,
   fun i hi hs => (k.block i (Nat.lt_of_lt_of_le hi h.size) hs).trans (h.block i hi hs)⟩
theorem Frm.mono {S T : Nat → Prop} {a b : World} (h : Frm S a b) (hs : ∀ k, k < a.heap.size → S k → T k) : Frm T a b :=
  ⟨h.os, h.tape, h.output, h.size, fun i hi ht => h.block i hi fun hh => ht (hs i hi hh)⟩
theorem Frm.alloc {S : Nat → Prop} {a w : World} (h : Frm S a w) (o : Obj) : Frm S a (w.alloc o) :=
  h.trans ⟨rfl, rfl, rfl, by simp, fun k hk _ => Below.heap_alloc _ _ _ hk⟩
theorem Frm.drew {S : Nat → Prop} {a w : World} (h : Frm S a w) : Frm S a w.drew := ⟨h.os, h.tape, h.output, h.size, h.block⟩
theorem Frm.drewN {S : Nat → Prop} {a w : World} (h : Frm S a w) (n : Nat) : Frm S a (w.drewN n) := ⟨h.os, h.tape, h.output, h.size, h.block⟩
theorem Frm.setCell {S : Nat → Prop} {a w : World} (h : Frm S a w) {p : Addr} (hp : S p.block ∨ a.heap.size ≤ p.block) (u : Value) : Frm S a (w.setCell p u) :=
  ⟨h.os, h.tape, h.output, by have := h.size; simpa [World.setCell] using this, fun k hk hs =>
    (Below.heap_setCell _ _ _ _ (by rintro rfl; rcases hp with hp | hp; exact hs hp; omega)).trans (h.block k hk hs)⟩

theorem Frm.blk {S : Nat → Prop} {w w' : World} (h : Frm S w w') {k : Nat} {o : Obj} (hb : w.heap[k]? = some o) (hs : ¬ S k) : w'.heap[k]? = some o := (h.block k (lt_of_block hb) hs).trans hb
theorem Frm.cell {S : Nat → Prop} {w w' : World} (h : Frm S w w') {k i : Nat} {v : Value} (hk : k < w.heap.size) (hs : ¬ S k) (hc : w.cell? ⟨k, i, none⟩ = some v) : w'.cell? ⟨k, i, none⟩ = some v :=
  (World.cell?_of_block (w := w) (h.block k hk hs)).trans hc
theorem Frm.frozen {S : Nat → Prop} {w w' : World} (h : Frm S w w') {k i : Nat} {x : Bool} (hk : k < w.heap.size) (hs : ¬ S k) (hc : w.frozen? ⟨k, i, none⟩ = x) : w'.frozen? ⟨k, i, none⟩ = x :=
  (World.frozen?_of_block (w := w) (h.block k hk hs)).trans hc
theorem Frm.of_none {S : Nat → Prop} {a b : World} (h : Frm (fun _ => False) a b) : Frm S a b := h.mono fun _ _ hh => hh.elim
theorem Frm.below {S : Nat → Prop} {a b : World} {B : Nat} (h : Frm S a b) (hB : B ≤ a.heap.size) (hs : ∀ k, S k → B ≤ k) : Below B a b :=
  ⟨h.os, h.tape, h.output, h.size, fun k hk => h.block k (by omega) fun hh => by have := hs k hh; omega⟩
theorem lt_of_cell {w : World} {p i : Nat} {v : Value} (h : w.cell? ⟨p, i, none⟩ = some v) : p < w.heap.size := World.block_lt_of_cell? w _ h
theorem blk_alloc {w : World} {k : Nat} {o : Obj} (h : w.heap[k]? = some o) (o' : Obj) : (w.alloc o').heap[k]? = some o := (Below.heap_alloc _ _ _ (lt_of_block h)).trans h
theorem blk_other {w : World} {k : Nat} {o : Obj} (h : w.heap[k]? = some o) {a : Addr} (hk : k ≠ a.block) (v : Value) : (w.setCell a v).heap[k]? = some o := (Below.heap_setCell _ _ _ _ hk).trans h
theorem blk_setCell {w : World} {b i : Nat} {cs : Array Value} {t : TypeId} {fr : Nat × Nat} (h : w.heap[b]? = some (.cells cs t fr)) (u : Value) : (w.setCell ⟨b, i, none⟩ u).heap[b]? = some (.cells (cs.setIfInBounds i u) t fr) := by
  have hlt := lt_of_block h
  have h' : w.heap[b] = .cells cs t fr := by simpa [Array.getElem?_eq_getElem hlt] using h
  show (w.heap.modify b _)[b]? = _
  rw [Array.getElem?_eq_getElem (by simpa using hlt), Array.getElem_modify_self, h']
  rfl

theorem Frm.grown {S : Nat → Prop} {a w w' : World} {row : Option Nat} (h : Frm S a w) (hg : w.grownBy w' row) (hr : ∀ k, row = some k → a.heap.size ≤ k) : Frm S a w' :=
  ⟨hg.os.trans h.os, hg.tape.trans h.tape, hg.output.trans h.output, Nat.le_trans h.size hg.size,
   fun k hk hs => (hg.block k (Nat.lt_of_lt_of_le hk h.size) (fun e => by have := hr k e.symm; omega)).trans (h.block k hk hs)⟩
theorem Frm.up {S : Nat → Prop} {a b : World} {B : Nat} (h : Frm S a b) (hs : ∀ k, S k → B ≤ k) : Frm (fun k => B ≤ k) a b := h.mono fun k _ hk => hs k hk
theorem Frm.down {a b : World} (h : Frm (fun k => a.heap.size ≤ k) a b) {S : Nat → Prop} : Frm S a b := h.mono fun k hk h => by omega
theorem own_base {w : World} {base : Nat} {e : TypeId} {size n : Nat} {v : Value} {xs : List Value} (h : w.ownsRow base e size v n xs) (k : Nat) (hk : v.ownBlock = some k) : base ≤ k := by
  rcases h.2 with ⟨rfl, _⟩ | ⟨g, cap, cur, rfl, hb, _⟩
  · simp [Value.ownBlock] at hk
  · have : g = k := by simpa [Value.ownBlock] using hk
    omega

theorem ret_bool {b : Bool} (h : b = true) : Ending.returned (.bool b) = .returned (.bool true) := by rw [h]
theorem own_slice {w : World} {base n : Nat} {e : TypeId} {size : Nat} {v : Value} {xs : List Value} (h : w.ownsRow base e size v n xs) : ∃ A c, v = .slice A n c := by
  rcases h.2 with ⟨rfl, rfl⟩ | ⟨g, cap, cur, rfl, _⟩
  · exact ⟨none, 0, rfl⟩
  · exact ⟨_, cap, rfl⟩

/-- A block of cells, none frozen. -/
def VecAt (w : World) (q : Nat) (e : TypeId) (xs : List Value) : Prop := w.heap[q]? = some (.cells xs.toArray e (0, 0))
theorem VecAt.lt {w : World} {q : Nat} {e : TypeId} {xs : List Value} (h : VecAt w q e xs) : q < w.heap.size := lt_of_block h
theorem VecAt.cell {w : World} {q : Nat} {e : TypeId} {xs : List Value} (h : VecAt w q e xs) {i : Nat} {v : Value} (hi : xs[i]? = some v) : w.cell? ⟨q, i, none⟩ = some v := by
  unfold VecAt at h; simp [World.cell?, h, hi]
theorem VecAt.frozen {w : World} {q : Nat} {e : TypeId} {xs : List Value} (h : VecAt w q e xs) (i : Nat) : w.frozen? ⟨q, i, none⟩ = false := by
  unfold VecAt at h; simp [World.frozen?, h]
theorem VecAt.frm {S : Nat → Prop} {w w' : World} {q : Nat} {e : TypeId} {xs : List Value} (h : VecAt w q e xs) (hf : Frm S w w') (hs : ¬ S q) : VecAt w' q e xs := hf.blk h hs
theorem VecAt.keep {w w' : World} {q : Nat} {e : TypeId} {xs : List Value} (h : VecAt w q e xs) (hf : Frm (fun _ => False) w w') : VecAt w' q e xs := hf.blk h id
theorem VecAt.alloc {w : World} {q : Nat} {e : TypeId} {xs : List Value} (h : VecAt w q e xs) (o : Obj) : VecAt (w.alloc o) q e xs := blk_alloc h o
theorem VecAt.set {w : World} {q : Nat} {e : TypeId} {xs : List Value} (h : VecAt w q e xs) (i : Nat) (v : Value) : VecAt (w.setCell ⟨q, i, none⟩ v) q e (xs.set i v) := by
  have := blk_setCell (i := i) h v
  simpa [VecAt] using this
theorem VecAt.other {w : World} {q : Nat} {e : TypeId} {xs : List Value} (h : VecAt w q e xs) {a : Addr} (hne : q ≠ a.block) (v : Value) : VecAt (w.setCell a v) q e xs := blk_other h hne v
theorem VecAt.new (w : World) (e : TypeId) (xs : List Value) : VecAt (w.alloc (.cells xs.toArray e)) w.heap.size e xs := heap_alloc_new w _
/-- n values, the i-th being F i. -/
def vals (n : Nat) (F : Nat → Value) : List Value := (List.range n).map F
theorem vals_length (n : Nat) (F : Nat → Value) : (vals n F).length = n := by simp [vals]
theorem vals_get {n i : Nat} (h : i < n) (F : Nat → Value) : (vals n F)[i]? = some (F i) := by simp [vals, h]
theorem vals_congr {n : Nat} {F G : Nat → Value} (h : ∀ i, i < n → F i = G i) : vals n F = vals n G := List.map_congr_left fun i hi => h i (by simpa using hi)
theorem vals_set {n k : Nat} (s : Value) (F : Nat → Value) : (vals n F).set k s = vals n (fun i => if i = k then s else F i) := by
  apply List.ext_getElem?
  intro i
  rw [List.getElem?_set]
  by_cases hi : i < n
  · rw [vals_get hi, vals_get hi]
    by_cases h : k = i
    · subst h; simp [vals, hi]
    · have h' : ¬ i = k := fun e => h e.symm
      simp [h, h']
  · rw [List.getElem?_eq_none (l := vals n fun i => if i = k then s else F i) (by rw [vals_length]; omega), List.getElem?_eq_none (l := vals n F) (by rw [vals_length]; omega)]
    simp [vals_length]; omega
theorem vals_replicate (n : Nat) (z : Value) : List.replicate n z = vals n fun _ => z := by
  apply List.ext_getElem?
  intro i
  by_cases hi : i < n <;> simp [vals, hi]

theorem made_eq (z : Value) (n : Nat) : madeCells #[z] n = (vals n fun _ => z).toArray := by
  apply Array.ext
  · simp [madeCells, vals]
  · intro i h1 h2
    simp [madeCells, vals, Nat.mod_one]
theorem run_make_vec {P : Program} (t e : TypeId) (z : Value) (bytes : Nat) (ht : P.underlying t = some (.slice e)) (hinfo : (P.info? e).map (fun i => (i.zero, i.size, i.bytes)) = some (some z, 1, bytes)) (hz1 : z.cells = #[z])
    (n : Nat) (hbytes : bytes * n ≤ 281474976710656) (h63 : n ≤ 9223372036854775807) (w : World) :
    (Instr.makeSlice t (.int .i64 (n : Int)) (.int .i64 (n : Int))).run P w = .ok (.slice (some ⟨w.heap.size, 0, none⟩) n n) (w.alloc (.cells (vals n fun _ => z).toArray e)) := by
  rw [← made_eq]
  exact run_make_row' t e z bytes ht hinfo hz1 .i64 .i64 n hbytes h63 w
/-- A slice whose elements are of m cells each, which are told by 'enc'. -/
structure RowsAt {α : Type} (w : World) (A : Option Addr) (m : Nat) (enc : α → List Value) (l : List α) : Prop where
  len : l.length ≤ 9223372036854775807
  at_ : 0 < l.length → ∃ b off, A = some ⟨b, off, none⟩ ∧ b < w.heap.size ∧ ∀ i r, l[i]? = some r → ∀ j v, (enc r)[j]? = some v → w.cell? ⟨b, off + i * m + j, none⟩ = some v
theorem RowsAt.below {α : Type} {w w' : World} {A : Option Addr} {m : Nat} {enc : α → List Value} {l : List α} (h : RowsAt w A m enc l) (hb : Below w.heap.size w w') : RowsAt w' A m enc l :=
  ⟨h.len, fun hp => by
    obtain ⟨b, off, rfl, hlt, hc⟩ := h.at_ hp
    exact ⟨b, off, rfl, Nat.lt_of_lt_of_le hlt hb.size, fun i r hi j v hj => (hb.cell (p := ⟨b, off + i * m + j, none⟩) hlt).trans (hc i r hi j v hj)⟩⟩
theorem RowsAt.frm {α : Type} {w w' : World} {A : Option Addr} {m : Nat} {enc : α → List Value} {l : List α} (h : RowsAt w A m enc l) (hb : Frm (fun q => w.heap.size ≤ q) w w') : RowsAt w' A m enc l :=
  h.below (hb.below (Nat.le_refl _) fun _ h => h)
theorem RowsAt.via {α : Type} {S : Nat → Prop} {w w' : World} {A : Option Addr} {m : Nat} {enc : α → List Value} {l : List α} (h : RowsAt w A m enc l) (hf : Frm S w w') (hs : ∀ b off, A = some ⟨b, off, none⟩ → ¬ S b) : RowsAt w' A m enc l :=
  ⟨h.len, fun hp => by
    obtain ⟨b, off, rfl, hlt, hc⟩ := h.at_ hp
    exact ⟨b, off, rfl, Nat.lt_of_lt_of_le hlt hf.size, fun i r hi j v hj => hf.cell hlt (hs b off rfl) (hc i r hi j v hj)⟩⟩
theorem flatMap_get {α β : Type} {m : Nat} {enc : α → List β} (he : ∀ r, (enc r).length = m) : ∀ (l : List α) (i : Nat) (r : α) (j : Nat) (v : β), l[i]? = some r → (enc r)[j]? = some v → (l.flatMap enc)[i * m + j]? = some v
  | [], i, r, j, v, h, _ => by simp at h
  | a :: l, 0, r, j, v, h, hj => by
    simp at h; subst h
    have : j < (enc a).length := (List.getElem?_eq_some_iff.1 hj).1
    rw [List.flatMap_cons, List.getElem?_append_left (by simpa using this)]
    simpa using hj
  | a :: l, i + 1, r, j, v, h, hj => by
    have hl := he a
    rw [List.flatMap_cons, List.getElem?_append_right (by rw [hl, Nat.succ_mul]; omega), hl]
    have := flatMap_get he l i r j v (by simpa using h) hj
    rw [show (i + 1) * m + j - m = i * m + j by rw [Nat.succ_mul]; omega]
    exact this
/-- What is owned, as rows. -/
theorem own_rows {α : Type} {w : World} {base n m : Nat} {e : TypeId} {v : Value} {enc : α → List Value} {l : List α} (he : ∀ r, (enc r).length = m) (hn : n = l.length) (h : w.ownsRow base e m v n (l.flatMap enc)) :
    ∃ A c, v = .slice A l.length c ∧ RowsAt w A m enc l ∧ ∀ b off, A = some ⟨b, off, none⟩ → base ≤ b := by
  subst hn
  rcases h.2 with ⟨rfl, h0⟩ | ⟨g, cap, cur, rfl, hg, hh, hcap, hm, hsz, htake⟩
  · exact ⟨none, 0, by rw [h0], ⟨by omega, fun hp => by omega⟩, fun b off h => by cases h⟩
  · refine ⟨_, cap, rfl, ⟨by unfold maxLen at hm; omega, fun hp => ⟨g, 0, rfl, lt_of_block hh, fun i r hi j u hj => ?_⟩⟩, fun b off h => by injection h with h; injection h with h1; omega⟩
    have hx := flatMap_get he l i r j u hi hj
    rw [← htake] at hx
    have hc : cur[i * m + j]? = some u := by
      rw [List.getElem?_take] at hx
      split at hx
      · simpa using hx
      · cases hx
    simp [World.cell?, hh, hc]
end Go.Proofs.Ytadngogbnjodhaa
