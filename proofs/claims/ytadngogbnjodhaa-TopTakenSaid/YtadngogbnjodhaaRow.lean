/- What every row needs: true comes back, and what was there is as it was. -/
import Derived.Test.YtadngogbnjodhaaGen
import Derived.Deep.Slices
import Derived.ProofKit
import Derived.OpenShut
namespace Go.Proofs.Ytadngogbnjodhaa
open Go.ChangeShapes Go.WideShapes Go.ChangeAt Go.RowKit
theorem own : ownKnob Try.prog.godebug = none := by kernel_rfl
theorem laid : laidOutB Try.prog = true := by kernel_rfl
theorem trodAll_stays {H : Type} {enc : TypeId × Value → H} {W W' : World} (hb : Below W.heap.size W W') : ∀ (ts : List TypeId) (vs : List Value) (ds : List (DataW H)) (ps : List MemPlace),
    (∀ t ∈ ts, Try.prog.readableRec t = true ∧ t < Try.prog.types.size) → DataW.TrodAll enc Try.prog W 0 (fun _ => true) true ts vs ds ps → (∀ x ∈ ps, x.block < W.heap.size) →
    DataW.TrodAll enc Try.prog W' 0 (fun b => decide (b < W.heap.size)) true ts vs ds ps
  | [], vs, ds, ps, _, h, _ => by
    obtain ⟨rfl, rfl, rfl⟩ := trodAll_nil h
    exact trodAll_mk0
  | t :: ts, vs, ds, ps, hr, h, hlt => by
    obtain ⟨v, vs', d, ds', p, p', rfl, rfl, rfl, h1, h2⟩ := trodAll_cons h
    have ht := hr t (List.mem_cons_self ..)
    exact trodAll_cons_mk (Below.trod laid ht.1 ht.2 h1 hb (fun x hx => hlt x (List.mem_append_left _ hx)))
      (trodAll_stays hb ts vs' ds' p' (fun q hq => hr q (List.mem_cons_of_mem _ hq)) h2 (fun x hx => hlt x (List.mem_append_right _ hx)))
theorem row_post {H : Type} {enc : TypeId × Value → H} {f : Func} {s : ChangeSpec} {W W' : World} {args : Array Value} {ds : List (DataW H)} {before : List MemPlace}
    (hW : DataW.Whole enc Try.prog f.params.toList s.vars false W args.toList ds [] before) (hv : s.vars = []) (hres : f.resultTypes = #[4])
    (hr0 : (f.params.toList.all fun t => Try.prog.readableRec t && decide (t < Try.prog.types.size)) = true)
    (hspec : s.fn H (ds ++ []) = { results := [.lit (.bool true)], args := ds }) (hb : Below W.heap.size W W') : s.post enc Try.prog f false true false false W args (.bool true) W' := by
  have hr : ∀ t ∈ f.params.toList, Try.prog.readableRec t = true ∧ t < Try.prog.types.size := fun t ht => by simpa using List.all_eq_true.1 hr0 t ht
  have hW' := hW
  obtain ⟨p, q, hA, hV, rfl, hfz, hnd⟩ := hW
  rw [hv] at hV
  obtain ⟨_, rfl⟩ := trodVars_none hV
  refine ⟨ds, [], p ++ [], [], p, [], hW', ?_, ?_, ?_, hb.frame _, fun h => by cases h⟩
  · rw [hspec, hres]
    exact trodAll_cons_mk (shut_bool Try.underlying4 _) trodAll_mk0
  · rw [hspec]
    exact trodAll_stays hb _ _ _ _ hr hA (fun x hx => by simpa using hW'.lt x (List.mem_append_left _ hx))
  · rw [hv]; rw [hspec]; rfl

/-- A slice of rows, opened. -/
theorem open_rows_cells {α : Type} [Inhabited α] {H : Type} {enc : TypeId × Value → H} {W : World} {sp : Nat → Bool} {t e : TypeId} {cs : List Value} {x : DataW H × List MemPlace} {fuel : Nat} (m : Nat) (encR : α → List Value)
    (ht : Try.prog.underlying t = some (.slice e)) (hm : Try.prog.cellsOf e = m) (hm0 : 0 < m)
    (hdec : ∀ n cs x, DataW.trod enc Try.prog W 0 sp true n e cs = some x → ∃ r : α, cs = encR r)
    (h : DataW.trod enc Try.prog W 0 sp true fuel t cs = some x) :
    ∃ A cap, ∃ l : List α, cs = [.slice A l.length cap] ∧ RowsAt W A m encR l ∧ l.length ≤ cap ∧ (A = none → cap = 0) := by
  rcases Go.Deep.open_slice ht h with ⟨e1, _⟩ | ⟨a, n0, c0, k, n, D, Pl, rfl, hb, hl, hcm, hk, _, hx⟩
  · exact ⟨none, 0, [], e1, ⟨by simp, fun h => by simp at h⟩, by simp, fun _ => rfl⟩
  ·
    have hlk : n0 ≤ k := by rw [hk]; split <;> omega
    obtain ⟨F, hF⟩ := Go.Deep.choose_lt (α := α) (n := n0) (p := fun i r => W.cells? 0 (a.add (i * m)) m = some (encR r)) (fun i hi => by
      obtain ⟨cs', h1, h2⟩ := hx i (by omega)
      rw [hm] at h1
      obtain ⟨r, rfl⟩ := hdec _ _ _ h2
      exact ⟨r, h1⟩)
    refine ⟨some a, c0, (List.range n0).map F, by simp, ⟨by simp only [List.length_map, List.length_range]; unfold maxLen at hcm; omega, fun hp => ?_⟩, by simpa using hl, fun h => by cases h⟩
    simp only [List.length_map, List.length_range] at hp
    have h0 := World.cells?_some (hF 0 hp)
    have hs0 : W.cell? (a.add 0) = (encR (F 0))[0]? := by
      have := h0.2.2 0 hm0
      simpa [Addr.add] using this
    have hsome : ∃ v, W.cell? (a.add 0) = some v := by
      rw [hs0]
      exact ⟨_, List.getElem?_eq_getElem (by rw [h0.2.1]; exact hm0)⟩
    obtain ⟨v0, hv0⟩ := hsome
    have ha : a.spot = none := by
      have : a.add 0 = a := by simp [Addr.add]
      rw [this] at hv0
      unfold World.cell? at hv0
      split at hv0
      · cases hsp : a.spot with
        | none => rfl
        | some _ => simp [hsp] at hv0
      · cases hv0
    obtain ⟨b, off, s⟩ := a
    simp only at ha
    subst ha
    have hadd : ∀ o j, (⟨b, o, none⟩ : Addr).add j = ⟨b, o + j, none⟩ := fun o j => by
      unfold Addr.add; split <;> simp_all
    refine ⟨b, off, rfl, by have := World.block_lt_of_cell? W _ hv0; rw [hadd] at this; exact this, fun i r hi j v hj => ?_⟩
    obtain ⟨hil, rfl⟩ := List.getElem?_eq_some_iff.1 hi
    simp only [List.length_map, List.length_range] at hil
    simp only [List.getElem_map, List.getElem_range] at hj
    have h1 := World.cells?_some (hF i hil)
    have hj' : j < m := by
      have := (List.getElem?_eq_some_iff.1 hj).1
      rw [h1.2.1] at this; exact this
    have h2 := h1.2.2 j hj'
    rw [hj, hadd, hadd] at h2
    exact h2
theorem cells_many {v : Value} {u u' : Value} {us : List Value} (h : v.cells.toList = u :: u' :: us) : v = .agg (u :: u' :: us).toArray := by
  cases v with
  | agg cs => simp [Value.cells] at h; rw [← h]
  | _ => simp [Value.cells] at h
theorem open_rows {α : Type} [Inhabited α] {H : Type} {enc : TypeId × Value → H} {W : World} {sp : Nat → Bool} {t e : TypeId} {v : Value} {d : DataW H} {ps : List MemPlace} (m : Nat) (encR : α → List Value)
    (ht : Try.prog.underlying t = some (.slice e)) (hm : Try.prog.cellsOf e = m) (hm0 : 0 < m)
    (hdec : ∀ n cs x, DataW.trod enc Try.prog W 0 sp true n e cs = some x → ∃ r : α, cs = encR r)
    (hv : ∃ a n c, v = .slice a n c) (h : DataW.Trod enc Try.prog W 0 sp true t v d ps) :
    ∃ A cap, ∃ l : List α, v = .slice A l.length cap ∧ RowsAt W A m encR l ∧ l.length ≤ cap ∧ (A = none → cap = 0) := by
  obtain ⟨a0, n0, c0, rfl⟩ := hv
  obtain ⟨fuel, h⟩ := h
  obtain ⟨A, cap, l, e1, hr⟩ := open_rows_cells m encR ht hm hm0 hdec h
  simp only [Value.cells, List.cons.injEq, and_true] at e1
  exact ⟨A, cap, l, e1, hr⟩
theorem wf_u8 {n : Int} (h : (Lit.int .u8 n).wf = true) : 0 ≤ n ∧ n ≤ 255 := by
  simp [Lit.wf, IntKind.min, IntKind.max, IntKind.signed, IntKind.bits] at h; omega
theorem wf_i64 {n : Int} (h : (Lit.int .i64 n).wf = true) : -9223372036854775808 ≤ n ∧ n ≤ 9223372036854775807 := by
  simp [Lit.wf, IntKind.min, IntKind.max, IntKind.signed, IntKind.bits] at h; omega
theorem wf_u64 {n : Int} (h : (Lit.int .u64 n).wf = true) : 0 ≤ n ∧ n ≤ 18446744073709551615 := by
  simp [Lit.wf, IntKind.min, IntKind.max, IntKind.signed, IntKind.bits] at h; omega
end Go.Proofs.Ytadngogbnjodhaa
