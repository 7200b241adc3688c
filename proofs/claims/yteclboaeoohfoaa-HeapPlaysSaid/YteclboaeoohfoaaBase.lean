/- Heaps in memory. -/
import Derived.Test.YteclboaeoohfoaaGen
import Derived.Laws.OwnMore
import Derived.Deep.AppendLies
namespace Go.Proofs.Yteclboaeoohfoaa
open Go.RowKit
structure Mb where
  id : Nat
  key : Int
  deriving Inhabited, DecidableEq
def Mb.cells (m : Mb) : List Value := [.int .i64 m.id, .int .u64 m.key]
theorem mb_len (m : Mb) : m.cells.length = 2 := rfl
abbrev mcells (M : List Mb) : List Value := M.flatMap Mb.cells
def ltB (a b : Mb) : Bool := decide (a.key < b.key) || (decide (a.key = b.key) && decide (a.id < b.id))
def sw (M : List Mb) (i k : Nat) (a b : Mb) : List Mb := (M.set i b).set k a
/-- What a heap holds. -/
def Ter (p : Nat) (v vp : Value) (k : Nat) : Prop := k = p ∨ v.ownBlock = some k ∨ vp.ownBlock = some k
structure HpIs (w : World) (p n : Nat) (v vp : Value) (M : List Mb) (pl : Nat → Int) : Prop where
  str : VecAt w p 55 [v, vp]
  own : w.ownsRow 0 57 2 v M.length (mcells M)
  pla : w.ownsRow 0 3 1 vp n (vals n fun i => .int .i64 (pl i))
  hn : 1 ≤ n ∧ n ≤ 1000
  pos : ∀ (i : Nat) (m : Mb), M[i]? = some m → m.id < n ∧ pl m.id = i
  out : ∀ (j : Nat), j < n → (∀ (m : Mb), m ∈ M → m.id ≠ j) → pl j = -1
theorem own_frm {S : Nat → Prop} {w w' : World} {base n : Nat} {e : TypeId} {size : Nat} {v : Value} {xs : List Value} (h : w.ownsRow base e size v n xs) (hf : Frm S w w') (hs : ∀ k, v.ownBlock = some k → ¬ S k) : w'.ownsRow base e size v n xs := by
  refine ⟨h.1, ?_⟩
  rcases h.2 with h | ⟨k, cap, cur, rfl, hk, hh, hr⟩
  · exact .inl h
  · exact .inr ⟨k, cap, cur, rfl, hk, hf.blk hh (hs k rfl), hr⟩
theorem own_blk {w : World} {base n : Nat} {e : TypeId} {size : Nat} {v : Value} {xs : List Value} (h : w.ownsRow base e size v n xs) {k : Nat} (hk : v.ownBlock = some k) : ∃ cur, w.heap[k]? = some (.cells cur e (0, 0)) := by
  rcases h.2 with ⟨rfl, _⟩ | ⟨g, cap, cur, rfl, _, hh, _⟩
  · simp [Value.ownBlock] at hk
  · have : g = k := by simpa [Value.ownBlock] using hk
    subst this
    exact ⟨cur, hh⟩
theorem own_form {w : World} {base n : Nat} {e : TypeId} {size : Nat} {v : Value} {xs : List Value} (h : w.ownsRow base e size v n xs) (hn : 0 < n) : ∃ g cap, v = .slice (some ⟨g, 0, none⟩) n cap ∧ g < w.heap.size ∧ n ≤ cap := by
  rcases h.2 with ⟨_, h0⟩ | ⟨g, cap, cur, rfl, _, hh, hc, _⟩
  · omega
  · exact ⟨g, cap, rfl, lt_of_block hh, hc⟩
section
variable {w : World} {p n : Nat} {v vp : Value} {M : List Mb} {pl : Nat → Int}
theorem HpIs.c0 (h : HpIs w p n v vp M pl) : w.cell? ⟨p, 0, none⟩ = some v := h.str.cell rfl
theorem HpIs.c1 (h : HpIs w p n v vp M pl) : w.cell? ⟨p, 1, none⟩ = some vp := h.str.cell rfl
theorem HpIs.fp (h : HpIs w p n v vp M pl) (i : Nat) : w.frozen? ⟨p, i, none⟩ = false := h.str.frozen i
theorem HpIs.lt (h : HpIs w p n v vp M pl) : p < w.heap.size := h.str.lt
theorem HpIs.terlt (h : HpIs w p n v vp M pl) {k : Nat} (hk : Ter p v vp k) : k < w.heap.size := by
  rcases hk with rfl | hk | hk
  · exact h.lt
  · exact (h.own.lt k hk).2
  · exact (h.pla.lt k hk).2
theorem HpIs.apart (h : HpIs w p n v vp M pl) : (∀ k, v.ownBlock = some k → k ≠ p ∧ vp.ownBlock ≠ some k) ∧ (∀ k, vp.ownBlock = some k → k ≠ p) := by
  have hs := h.str
  unfold VecAt at hs
  refine ⟨fun k hk => ?_, fun k hk => ?_⟩
  · obtain ⟨cur, hc⟩ := own_blk h.own hk
    refine ⟨fun e => ?_, fun e => ?_⟩
    · subst e; rw [hs] at hc; simp at hc
    · obtain ⟨cur', hc'⟩ := own_blk h.pla e
      rw [hc] at hc'; simp at hc'
  · obtain ⟨cur, hc⟩ := own_blk h.pla hk
    intro e
    subst e; rw [hs] at hc; simp at hc
theorem HpIs.frm {S : Nat → Prop} {w' : World} (h : HpIs w p n v vp M pl) (hf : Frm S w w') (hs : ∀ k, Ter p v vp k → ¬ S k) : HpIs w' p n v vp M pl :=
  ⟨h.str.frm hf (hs p (.inl rfl)), own_frm h.own hf (fun k hk => hs k (.inr (.inl hk))), own_frm h.pla hf (fun k hk => hs k (.inr (.inr hk))), h.hn, h.pos, h.out⟩
theorem HpIs.keep {w' : World} (h : HpIs w p n v vp M pl) (hf : Frm (fun _ => False) w w') : HpIs w' p n v vp M pl := h.frm hf (fun _ _ => id)
theorem HpIs.list (h : HpIs w p n v vp M pl) : ∃ A c, v = .slice A M.length c := own_slice h.own
theorem HpIs.place (h : HpIs w p n v vp M pl) : ∃ q c, vp = .slice (some ⟨q, 0, none⟩) n c ∧ q < w.heap.size ∧ n ≤ c ∧ (∀ j, j < n → w.cell? ⟨q, j, none⟩ = some (.int .i64 (pl j))) ∧ (∀ j, w.frozen? ⟨q, j, none⟩ = false) ∧ q ≠ p := by
  obtain ⟨q, c, rfl, hq, hc⟩ := own_form h.pla (by have := h.hn; omega)
  refine ⟨q, c, rfl, hq, hc, fun j hj => ?_, fun j => h.pla.frozenAt j, h.apart.2 q rfl⟩
  rw [h.pla.cellAt j (by omega), vals_get hj]
theorem HpIs.elem (h : HpIs w p n v vp M pl) {i : Nat} {m : Mb} (hm : M[i]? = some m) : ∃ g c, v = .slice (some ⟨g, 0, none⟩) M.length c ∧ g < w.heap.size ∧ M.length ≤ c ∧ g ≠ p ∧ vp.ownBlock ≠ some g := by
  have hil := (List.getElem?_eq_some_iff.1 hm).1
  obtain ⟨g, c, rfl, hg, hc⟩ := own_form h.own (by omega)
  exact ⟨g, c, rfl, hg, hc, (h.apart.1 g rfl).1, (h.apart.1 g rfl).2⟩
theorem HpIs.ecell {g c : Nat} (h : HpIs w p n (.slice (some ⟨g, 0, none⟩) M.length c) vp M pl) {i : Nat} {m : Mb} (hm : M[i]? = some m) :
    w.cell? ⟨g, i * 2, none⟩ = some (.int .i64 m.id) ∧ w.cell? ⟨g, i * 2 + 1, none⟩ = some (.int .u64 m.key) ∧ (∀ j, w.frozen? ⟨g, j, none⟩ = false) := by
  have hil := (List.getElem?_eq_some_iff.1 hm).1
  refine ⟨?_, ?_, fun j => h.own.frozenAt j⟩
  · rw [h.own.cellAt (i * 2) (by omega)]; exact flatMap_get (m := 2) mb_len M i m 0 _ hm rfl
  · rw [h.own.cellAt (i * 2 + 1) (by omega)]; exact flatMap_get (m := 2) mb_len M i m 1 _ hm rfl
theorem HpIs.inj (h : HpIs w p n v vp M pl) {i k : Nat} {a b : Mb} (hi : M[i]? = some a) (hk : M[k]? = some b) (he : a.id = b.id) : i = k := by
  have h1 := (h.pos i a hi).2
  have h2 := (h.pos k b hk).2
  rw [he] at h1; omega
end
theorem nodup_le : ∀ (n : Nat) (l : List Nat), l.Nodup → (∀ x ∈ l, x < n) → l.length ≤ n
  | 0, l, _, h => by
    cases l with
    | nil => simp
    | cons a t => exact absurd (h a (by simp)) (by omega)
  | n + 1, l, hd, h => by
    have h1 := nodup_le n (l.erase n) (hd.erase n) (fun x hx => by
      have h2 := h x (List.mem_of_mem_erase hx)
      have h3 : x ≠ n := fun e => by subst e; exact (List.Nodup.mem_erase_iff hd).1 hx |>.1 rfl
      omega)
    by_cases hn : n ∈ l
    · rw [List.length_erase_of_mem hn] at h1; omega
    · rw [List.erase_of_not_mem hn] at h1; omega
theorem HpIs.len {w : World} {p n : Nat} {v vp : Value} {M : List Mb} {pl : Nat → Int} (h : HpIs w p n v vp M pl) : M.length ≤ n := by
  have := nodup_le n (M.map Mb.id) (by
    rw [List.nodup_iff_pairwise_ne] 
    rw [List.pairwise_iff_getElem]
    intro i j hi hj hlt e
    simp only [List.length_map] at hi hj
    simp only [List.getElem_map] at e
    have := h.inj (i := i) (k := j) (List.getElem?_eq_getElem hi) (List.getElem?_eq_getElem hj) e
    omega) (by
    intro x hx
    obtain ⟨m, hm, rfl⟩ := List.mem_map.1 hx
    obtain ⟨i, hi⟩ := List.getElem?_of_mem hm
    exact (h.pos i m hi).1)
  simpa using this
end Go.Proofs.Yteclboaeoohfoaa
