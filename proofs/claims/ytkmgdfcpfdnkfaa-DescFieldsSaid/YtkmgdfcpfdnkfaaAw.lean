/- awake; copies of bytes; what is told is read again. -/
import Derived.Test.YtkmgdfcpfdnkfaaB7
import Derived.Laws.AppendOwnNone
namespace Go.Proofs.Ytkmgdfcpfdnkfaa
open Go.RowKit
theorem append_copy {ops : Array Oper} {rest : List Oper} {o : Oper} {a : Act} {Q : Exit → Act → World → Prop} (w : World) (hgd : o.guard = none) (s x : Operand)
    (ho : o.op = .call { callee := .builtin .append, args := #[s, x], argTypes := #[28, 28] }) (base : Nat)
    (v : Value) (hs : a.eval s = v) (hown : OwnB w base v []) (A : Option Addr) (c : Nat) (l : List Nat) (hx : a.eval x = .slice A l.length c) (hl : Byt w A l) (hn : A = none → c = 0)
    (hk : l.length < 1000000) (hbase : base ≤ w.heap.size)
    (h : ∀ v' w', OwnB w' base v' l → Frm (fun k => v.ownBlock = some k) w w' → (∀ i, v'.ownBlock = some i → base ≤ i ∧ i < w'.heap.size) → wpList Try.prog ops Q rest (a.put o.dst v') w') : wpList Try.prog ops Q (o :: rest) a w := by
  obtain ⟨i0, hi, hz0, hz1, hz2⟩ := info_parts info5
  cases A with
  | none =>
    have hc := hn rfl
    have h0 : l = [] := by
      cases l with
      | nil => rfl
      | cons x l => obtain ⟨b, off, e, _⟩ := hl.at_.at_ (by simp); cases e
    subst h0 hc
    exact wpList_append_own_none hgd s x 28 ho base 5 i0 1 Try.underlying28 hi v 0 [] hs hown hx (h v w hown (Frm.refl _ _) (fun i e => World.ownsRow.lt hown i e))
  | some ad =>
    have hcell : ∀ j u, (bcells l)[j]? = some u → w.cell? (ad.add j) = some u := by
      intro j u hj
      simp only [bcells, List.getElem?_map, Option.map_eq_some_iff] at hj
      obtain ⟨y, hy, rfl⟩ := hj
      obtain ⟨b, off, e, _, hc⟩ := hl.cell hy
      simp only [Option.some.injEq] at e
      subst e
      have e : (⟨b, off, none⟩ : Addr).add j = ⟨b, off + j, none⟩ := by unfold Addr.add; split <;> simp_all
      rw [e]; exact hc
    refine wpList_append_own w hgd s x 28 ho base 5 i0 _ 1 1 Try.underlying28 hi hz0 hz1 hz2 rfl (by decide) v 0 [] hs hown ad l.length c (bcells l) hx (by simp [bcells]) hcell one_b (by unfold maxLen; omega) (by omega) hbase ?_
    intro v' w1 h1 h2 _
    rw [Nat.zero_add, List.nil_append] at h1
    exact h v' w1 h1 ⟨h2.os, h2.tape, h2.output, h2.size, fun j hj hs => h2.block j hj (fun e => hs e.symm)⟩ (fun i e => World.ownsRow.lt h1 i e)
theorem empty_own (w : World) (base : Nat) (h : base ≤ w.heap.size) : OwnB (w.alloc (.cells #[] 5)) base (.slice (some ⟨w.heap.size, 0, none⟩) 0 0) [] :=
  OwnB.block (l := []) h (VecAt.new w 5 (bcells [])) (by simp)
theorem part_body (d : DM) (i j : Nat) (h : j ≤ 17) : part (encB d) i j = part (bodyB d) i j := by
  unfold part encB
  by_cases hi : i ≤ 17
  · rw [List.drop_append_of_le_length (by rw [bodyB_len]; exact hi), List.take_append_of_le_length (by rw [List.length_drop, bodyB_len]; omega)]
  · rw [show j - i = 0 by omega]; simp
theorem read_back {d : DM} (h : mayB d = true) (hg : 0 ≤ d.gen) : fromB (encB d) = ⟨d, 0⟩ := by
  have hb : bytesB d = encB d := by unfold bytesB; rw [if_pos h]
  have hd : decB (encB d) = d := by
    obtain ⟨op, req, slot, gen, frm, len, status, hd, h1, h2, h3, h4, h5, h6, h7, _⟩ := may_nat h hg
    have hf := first_lt h
    have hfd : firstB d = d.op + (if d.device then 16 else 0) + (if d.done then 32 else 0) := rfl
    generalize d.device = device at *
    generalize d.done = done at *
    subst hd
    simp only at hfd
    obtain ⟨fi, hfi⟩ := Int.eq_ofNat_of_zero_le hf.1
    rw [hfi] at hfd hf
    have l0 : (encB ⟨op, req, slot, gen, frm, len, device, done, status⟩).getD 0 0 = fi := by
      simp [encB, bodyB, rowB, DM.fields, big, hfi]; omega
    have l1 : (encB ⟨op, req, slot, gen, frm, len, device, done, status⟩).getD 1 0 = status := by
      simp [encB, bodyB, rowB, DM.fields, big]; omega
    have q1 : part (encB ⟨op, req, slot, gen, frm, len, device, done, status⟩) 2 4 = big 2 req := by
      rw [part_body _ _ _ (by decide)]; simp [part, bodyB, rowB, DM.fields, big]
    have q2 : part (encB ⟨op, req, slot, gen, frm, len, device, done, status⟩) 4 6 = big 2 slot := by
      rw [part_body _ _ _ (by decide)]; simp [part, bodyB, rowB, DM.fields, big]
    have q3 : part (encB ⟨op, req, slot, gen, frm, len, device, done, status⟩) 6 10 = big 4 gen := by
      rw [part_body _ _ _ (by decide)]; simp [part, bodyB, rowB, DM.fields, big]
    have q4 : part (encB ⟨op, req, slot, gen, frm, len, device, done, status⟩) 10 12 = big 2 frm := by
      rw [part_body _ _ _ (by decide)]; simp [part, bodyB, rowB, DM.fields, big]
    have q5 : part (encB ⟨op, req, slot, gen, frm, len, device, done, status⟩) 12 16 = big 4 len := by
      rw [part_body _ _ _ (by decide)]; simp [part, bodyB, rowB, DM.fields, big]
    unfold decB
    rw [l0, l1, q1, q2, q3, q4, q5, num_big (by omega), num_big (by omega), num_big (by omega), num_big (by omega), num_big (by omega)]
    have f1 : fi % 16 = op := by cases device <;> cases done <;> simp at hfd <;> omega
    have f2 : decide (fi / 16 % 2 = 1) = device := by cases device <;> cases done <;> simp at hfd <;> simp <;> omega
    have f3 : decide (fi / 32 % 2 = 1) = done := by cases device <;> cases done <;> simp at hfd <;> simp <;> omega
    rw [f1, f2, f3]
  unfold fromB
  rw [if_pos ⟨encB_len d, by rw [hd, hb]⟩, hd]
theorem OwnB.open2 {w : World} {base : Nat} {v : Value} {l : List Nat} (h : OwnB w base v l) (hl : ∀ x ∈ l, x < 256) : ∃ A c, v = .slice A l.length c ∧ Byt w A l ∧ l.length ≤ c ∧ (A = none → c = 0) ∧
    (∀ b off, A = some ⟨b, off, none⟩ → base ≤ b ∧ b < w.heap.size) ∧ (0 < l.length → ∃ g, A = some ⟨g, 0, none⟩) := by
  obtain ⟨A, c, rfl, hb, hr⟩ := h.open hl
  refine ⟨A, c, rfl, hb, ?_, ?_, hr, ?_⟩
  · rcases h.2 with ⟨e, h0⟩ | ⟨g, cap, cur, e, _, _, hle, _⟩
    · omega
    · simp only [Value.slice.injEq] at e; omega
  · rintro rfl
    rcases h.2 with ⟨e, h0⟩ | ⟨g, cap, cur, e, _⟩
    · simp only [Value.slice.injEq] at e; omega
    · simp at e
  · intro hp
    rcases h.2 with ⟨e, h0⟩ | ⟨g, cap, cur, e, _⟩
    · omega
    · simp only [Value.slice.injEq] at e; exact ⟨g, e.1⟩
theorem byt_nil (w : World) (A : Option Addr) : Byt w A [] := ⟨⟨by simp, fun h => by simp at h⟩, by simp⟩
theorem byt_block {w : World} {q : Nat} {l : List Nat} (h : VecAt w q 5 (bcells l)) (hl : ∀ x ∈ l, x < 256) (hn : l.length ≤ 1000000) : Byt w (some ⟨q, 0, none⟩) l :=
  ⟨⟨by omega, fun _ => ⟨q, 0, rfl, h.lt, fun i r hi j v hj => by
    have : j = 0 := by have := (List.getElem?_eq_some_iff.1 hj).1; simp [enc1] at this; omega
    subst this
    simp [enc1] at hj
    subst hj
    have := h.cell (bcells_get hi)
    rw [show 0 + i * 1 + 0 = i by omega]; exact this⟩⟩, hl⟩
set_option maxRecDepth 100000 in
set_option maxHeartbeats 4000000 in
theorem awake_c (w : World) : Calls Try.prog 9 #[] w fun e w' => e = .returned (.bool true) ∧ Frm (fun _ => False) w w' := by
  have hby : bytesB ⟨3, 258, 0, 0, 0, 5, true, false, 0⟩ = [19, 0, 1, 2, 0, 0, 0, 0, 0, 0, 0, 0, 0, 0, 0, 5, 0, 0, 0, 110] := by decide
  have hen : encB ⟨3, 258, 0, 0, 0, 5, true, false, 0⟩ = [19, 0, 1, 2, 0, 0, 0, 0, 0, 0, 0, 0, 0, 0, 0, 5, 0, 0, 0, 110] := by decide
  have hfr := read_back (d := ⟨3, 258, 0, 0, 0, 5, true, false, 0⟩) (by decide) (by decide)
  have hfn : fromB [] = ⟨DM.zero, 9⟩ := by unfold fromB; rw [if_neg (by simp)]
  have T := bytes_c w ⟨3, 258, 0, 0, 0, 5, true, false, 0⟩ (by decide)
  have hlt := bytesB_lt ⟨3, 258, 0, 0, 0, 5, true, false, 0⟩
  rw [hen] at hfr
  rw [hby] at T hlt
  have hCK : ∀ W : World, Calls Try.prog 17 #[.slice (some ⟨W.heap.size, 0, none⟩) 2 2] (W.alloc (.cells #[.int .u8 1, .int .u8 2] 5)) fun e w' => e = .returned (.int .u32 5) ∧ (W.alloc (.cells #[.int .u8 1, .int .u8 2] 5)) = w' := fun W =>
    check_c _ (some ⟨W.heap.size, 0, none⟩) 2 [1, 2] (byt_block (VecAt.new W 5 (bcells [1, 2])) (by decide) (by decide)) (by decide)
  have HCK := Lib.hid hCK
  have HFN := Lib.hid hfn
  obtain ⟨L, hL⟩ : ∃ L : List Nat, L = [19, 0, 1, 2, 0, 0, 0, 0, 0, 0, 0, 0, 0, 0, 0, 5, 0, 0, 0, 110] := ⟨_, rfl⟩
  rw [← hL] at T hlt hfr
  have HN : Hid (L.length = 20) := Lib.hid (by rw [hL]; rfl)
  have H0 : Hid (L[0]? = some 19) := Lib.hid (by rw [hL]; rfl)
  have H2 : Hid (L[2]? = some 1) := Lib.hid (by rw [hL]; rfl)
  have H3 : Hid (L[3]? = some 2) := Lib.hid (by rw [hL]; rfl)
  have HFR := Lib.hid hfr
  simp only [DM.cells] at T
  have HT := Lib.hid T
  have HLT := Lib.hid hlt
  clear T hlt hfr hL hby hen hCK hfn
  go_enter Try.func9, Try.ntmps9
  go_wp2_with fail
  refine HT.out.mono ?_
  rintro e w1 ⟨v1, rfl, ho1, hf1⟩
  obtain ⟨A1, c1, hv1, hb1, hc1, _, hr1, hg1⟩ := ho1.open2 HLT.out
  have T2 := from_c w1 A1 c1 L hb1 hc1
  obtain ⟨g, rfl⟩ := hg1 (by rw [HN.out]; decide)
  rw [HN.out] at hv1 T2
  subst hv1
  rw [HFR.out] at T2
  simp only [DM.cells] at T2
  have HT2 := Lib.hid T2
  have HB1 := Lib.hid hb1
  have HF1 := Lib.hid hf1
  clear T2 ho1 hf1 hb1 hr1 hg1 HT
  go_wp2_with fail
  refine HT2.out.mono ?_
  rintro e w2 ⟨rfl, hf2⟩
  have HB2 := Lib.hid (HB1.out.keep (hf2.alloc (.cells #[.int .i64 3, .int .i64 258, .int .i64 0, .int .u64 0, .int .i64 0, .int .i64 5, .bool true, .bool false, .int .i64 0] 26)))
  have V2 := Lib.hid (VecAt.new w2 26 (DM.cells ⟨3, 258, 0, 0, 0, 5, true, false, 0⟩))
  have HF2 := Lib.hid ((HF1.out.trans hf2).alloc (.cells #[.int .i64 3, .int .i64 258, .int .i64 0, .int .u64 0, .int .i64 0, .int .i64 5, .bool true, .bool false, .int .i64 0] 26))
  have T3 := from_c (w2.alloc (.cells #[.int .i64 3, .int .i64 258, .int .i64 0, .int .u64 0, .int .i64 0, .int .i64 5, .bool true, .bool false, .int .i64 0] 26)) none 0 [] (byt_nil _ _) (by simp)
  rw [HFN.out] at T3
  simp only [DM.cells, DM.zero, List.length_nil] at T3
  have HT3 := Lib.hid T3
  clear T3 hf2 HT2 HB1 HF1
  go_wp2_with fail
  refine HT3.out.mono ?_
  rintro e w3 ⟨rfl, hf3⟩
  have HF3 := Lib.hid (HF2.out.trans hf3)
  have V3 := V2.out.frm hf3 id
  have lv3 := V3.lt
  have b3 := V3.cell (i := 1) rfl
  have HB3 := HB2.out.keep hf3
  obtain ⟨x, y, e0, lg, c0⟩ := HB3.cell H0.out
  simp only [Option.some.injEq, Addr.mk.injEq] at e0
  obtain ⟨rfl, rfl, _⟩ := e0
  obtain ⟨x, y, e0, _, c2⟩ := HB3.cell H2.out
  simp only [Option.some.injEq, Addr.mk.injEq] at e0
  obtain ⟨rfl, rfl, _⟩ := e0
  obtain ⟨x, y, e0, _, c3⟩ := HB3.cell H3.out
  simp only [Option.some.injEq, Addr.mk.injEq] at e0
  obtain ⟨rfl, rfl, _⟩ := e0
  simp only [Nat.zero_add] at c0 c2 c3
  clear V3 HB3 hf3 HT3
  have CK := HCK.out (w3.alloc (.cells #[.int .i64 0, .int .i64 0, .int .i64 0, .int .u64 0, .int .i64 0, .int .i64 0, .bool false, .bool false, .int .i64 0] 26))
  rw [World.size_alloc] at CK
  have HC := Lib.hid CK
  clear CK
  go_wp2_with fail
  refine HC.out.mono ?_
  rintro e w4 ⟨rfl, rfl⟩
  go_wp2_with fail
  go_ret
  exact ⟨rfl, (HF3.out.alloc _).alloc _⟩
end Go.Proofs.Ytkmgdfcpfdnkfaa
