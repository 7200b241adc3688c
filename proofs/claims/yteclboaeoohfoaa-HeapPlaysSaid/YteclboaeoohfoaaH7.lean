/- Put: what it does to memory. -/
import Derived.Test.YteclboaeoohfoaaH6
namespace Go.Proofs.Yteclboaeoohfoaa
open Go.RowKit
theorem info57 : (Try.prog.info? 57).map (fun i => (i.zero, i.size, i.bytes)) = some (some (.agg #[.int .i64 0, .int .u64 0]), 2, 16) := by kernel_rfl
theorem info3 : (Try.prog.info? 3).map (fun i => (i.zero, i.size, i.bytes)) = some (some (.int .i64 0), 1, 8) := by kernel_rfl
theorem info_parts {o : Option TypeInfo} {z : Value} {s b : Nat} (h : o.map (fun i => (i.zero, i.size, i.bytes)) = some (some z, s, b)) : ∃ i, o = some i ∧ i.zero = some z ∧ i.size = s ∧ i.bytes = b := by
  cases o with
  | none => simp at h
  | some i => simp at h; exact ⟨i, rfl, h.1, h.2.1, h.2.2⟩
theorem app_mb {ops : Array Oper} {rest : List Oper} {o : Oper} {a : Act} {Q : Exit → Act → World → Prop} (w : World) (hgd : o.guard = none) (s x : Operand)
    (ho : o.op = .call { callee := .builtin .append, args := #[s, x], argTypes := #[52, 52] })
    (v : Value) (k : Nat) (xs : List Value) (hs : a.eval s = v) (hown : w.ownsRow 0 57 2 v k xs) (m : Mb) (B : Nat) (hx : a.eval x = .slice (some ⟨B, 0, none⟩) 1 1) (hB : w.heap[B]? = some (.cells m.cells.toArray 57 (0, 0)))
    (hk : k < 1000000)
    (h : ∀ g cap w', w'.ownsRow 0 57 2 (.slice (some ⟨g, 0, none⟩) (k + 1) cap) (k + 1) (xs ++ m.cells) → Frm (fun j => v.ownBlock = some j) w w' → (v.ownBlock = some g ∨ g = w.heap.size) → wpList Try.prog ops Q rest (a.put o.dst (.slice (some ⟨g, 0, none⟩) (k + 1) cap)) w') :
    wpList Try.prog ops Q (o :: rest) a w := by
  obtain ⟨i0, hi, hz0, hz1, hz2⟩ := info_parts info57
  refine wpList_append_lies w hgd s x 52 ho 0 57 i0 _ 2 16 Try.underlying52 hi hz0 hz1 hz2 rfl (by decide) v k xs hs hown ⟨B, 0, none⟩ 1 1 m.cells hx rfl (World.news_of_block hB) ?_ (by omega) (by unfold maxLen; omega) (by omega) (by omega) _ rfl ?_
  · intro u hu
    simp only [Mb.cells, List.mem_cons, List.not_mem_nil, or_false] at hu
    rcases hu with rfl | rfl <;> rfl
  · intro g cap w1 h1 h2 h3 _
    exact h _ _ _ h1 ⟨h2.os, h2.tape, h2.output, h2.size, fun j hj hs => h2.block j hj (fun e => hs e.symm)⟩ h3
theorem mcells_key : ∀ (L : List Mb) (k : Nat) (d : Mb) (key : Int), L[k]? = some d → (mcells L).set (k * 2 + 1) (.int .u64 key) = mcells (L.set k ⟨d.id, key⟩)
  | [], k, d, key, h => by simp at h
  | a :: L, 0, d, key, h => by simp at h; subst h; simp [mcells, Mb.cells]
  | a :: L, k + 1, d, key, h => by
    have ih := mcells_key L k d key (by simpa using h)
    simp only [mcells, List.flatMap_cons, List.set_cons_succ] at ih ⊢
    rw [List.set_append_right _ _ (by rw [mb_len]; omega), mb_len, show (k + 1) * 2 + 1 - 2 = k * 2 + 1 by omega, ih]
section
variable {w : World} {p n : Nat} {v vp : Value} {M : List Mb} {pl : Nat → Int}
theorem HpIs.pushed {w3 : World} {v' : Value} (h : HpIs w p n v vp M pl) {j : Nat} (hj : j < n) (hno : ∀ (m : Mb), m ∈ M → m.id ≠ j) (hf : Frm (fun k => vp.ownBlock = some k ∨ v.ownBlock = some k) w w3)
    (hpla : w3.ownsRow 0 3 1 vp n (vals n fun x => .int .i64 (if x = j then M.length else pl x))) (hown : w3.ownsRow 0 57 2 v' (M.length + 1) (mcells M ++ (Mb.mk j 0).cells)) :
    HpIs (w3.setCell ⟨p, 0, none⟩ v') p n v' vp (M ++ [⟨j, 0⟩]) (fun x => if x = j then M.length else pl x) := by
  have hap := h.apart
  have hs : VecAt w3 p 55 [v, vp] := h.str.frm hf (fun e => by
    rcases e with e | e
    · exact hap.2 p e rfl
    · exact (hap.1 p e).1 rfl)
  have hF := (Frm.refl (fun k => k = p) w3).setCell (p := ⟨p, 0, none⟩) (.inl rfl) v'
  refine ⟨hs.set 0 v', ?_, ?_, h.hn, ?_, ?_⟩
  · have := own_frm hown hF (fun k hk e => by
      obtain ⟨cur, hc⟩ := own_blk hown hk
      have hs' := hs
      unfold VecAt at hs'
      rw [e, hs'] at hc; simp at hc)
    simpa [mcells] using this
  · exact own_frm hpla hF (fun k hk e => hap.2 k hk e)
  · intro i m hm
    rcases Nat.lt_or_ge i M.length with hi | hi
    · rw [List.getElem?_append_left hi] at hm
      have := hno m (List.mem_of_getElem? hm)
      simp [this, h.pos i m hm]
    · rw [List.getElem?_append_right hi] at hm
      have hi0 : i - M.length = 0 := by
        have := (List.getElem?_eq_some_iff.1 hm).1
        simp at this; omega
      rw [hi0] at hm
      simp at hm
      subst hm
      simp [hj]; omega
  · intro x hx hm
    have hxj : x ≠ j := fun e => hm ⟨j, 0⟩ (by simp) e.symm
    simp only [hxj, if_false]
    exact h.out x hx fun m hmm => hm m (by simp [hmm])
theorem HpIs.keyed {g c i : Nat} {m : Mb} (h : HpIs w p n (.slice (some ⟨g, 0, none⟩) M.length c) vp M pl) (hi : M[i]? = some m) (key : Int) :
    HpIs (w.setCell ⟨g, i * 2 + 1, none⟩ (.int .u64 key)) p n (.slice (some ⟨g, 0, none⟩) M.length c) vp (M.set i ⟨m.id, key⟩) pl := by
  have hap := h.apart
  have hgp := (hap.1 g rfl).1
  have hil := (List.getElem?_eq_some_iff.1 hi).1
  have hF := (Frm.refl (fun k => k = g) w).setCell (p := ⟨g, i * 2 + 1, none⟩) (.inl rfl) (.int .u64 key)
  refine ⟨h.str.other hgp.symm _, ?_, own_frm h.pla hF (fun k hk e => (hap.1 g rfl).2 (by rw [hk, e])), h.hn, ?_, ?_⟩
  · have h1 := (h.own.stored (i * 2 + 1) (.int .u64 key)).1
    have h2 := mcells_key M i m key hi
    rw [h2] at h1
    simpa using h1
  · intro j m' hm
    rw [List.getElem?_set] at hm
    by_cases e : i = j
    · subst e
      simp [hil] at hm
      subst hm
      exact h.pos i m hi
    · simp [e] at hm
      exact h.pos j m' hm
  · intro j hj hm
    refine h.out j hj fun m' hm' => ?_
    obtain ⟨t, ht⟩ := List.getElem?_of_mem hm'
    by_cases e : i = t
    · subst e
      rw [hi] at ht
      obtain rfl := Option.some.inj ht
      exact hm ⟨m.id, key⟩ (List.mem_of_getElem? (i := i) (by simp [hil]))
    · exact hm m' (List.mem_of_getElem? (i := t) (by simp [e, ht]))
end
end Go.Proofs.Yteclboaeoohfoaa
