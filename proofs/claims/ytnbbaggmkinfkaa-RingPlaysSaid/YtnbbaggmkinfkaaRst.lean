/- Reset. -/
import Derived.Test.YtnbbaggmkinfkaaF1
import Derived.Deep.RegionHeld3
import Derived.Deep.RegionHeldLaw
import Derived.Deep.AppendLies
import Derived.Lib.SliceRun
namespace Go.Proofs.Ytnbbaggmkinfkaa
open Go.RowKit
def lcells (L : List DM) : List Value := L.flatMap DM.cells
theorem info33 : (Try.prog.info? 33).map (fun i => (i.zero, i.size, i.bytes)) = some (some (.agg DM.zero.cells.toArray), 9, 64) := by kernel_rfl
theorem one_cells (d : DM) : ∀ u ∈ d.cells, u.oneCell' = true := by
  intro u hu
  simp only [DM.cells, List.mem_cons, List.not_mem_nil, or_false] at hu
  rcases hu with rfl | rfl | rfl | rfl | rfl | rfl | rfl | rfl | rfl <;> rfl
theorem step_desc {ops : Array Oper} {o : Oper} {a : Act} {K : Act → World → Prop} {Q : Exit → Act → World → Prop} {E : Prop} (w : World) (hgd : o.guard = none) (s x : Operand)
    (ho : o.op = .call { callee := .builtin .append, args := #[s, x], argTypes := #[51, 51] }) (base : Nat)
    (v : Value) (k : Nat) (xs : List Value) (hs : a.eval s = v) (hown : w.ownsRow base 33 9 v k xs) (d : DM) (B : Nat) (hx : a.eval x = .slice (some ⟨B, 0, none⟩) 1 1) (hB : w.heap[B]? = some (.cells d.cells.toArray 33 (0, 0)))
    (hk : k < 1000000000) (hbase : base ≤ w.heap.size)
    (h : ∀ v' w', w'.ownsRow base 33 9 v' (k + 1) (xs ++ d.cells) → Frm (fun k => v.ownBlock = some k) w w' → K (a.put o.dst v') w') :
    if Region.wanted o (yielded ops a.tmps) = true then Oper.wp Try.prog o a w K Q else E := by
  obtain ⟨i0, hi, hz0, hz1, hz2⟩ := info_parts info33
  refine step_append_lies w hgd s x 51 ho base 33 i0 _ 9 64 Try.underlying51 hi hz0 hz1 hz2 rfl (by decide) v k xs hs hown ⟨B, 0, none⟩ 1 1 d.cells hx rfl (World.news_of_block hB) (one_cells d) (by omega) (by unfold maxLen; omega) (by omega) hbase _ rfl ?_
  intro g cap w1 h1 h2 _ _
  exact h _ _ h1 ⟨h2.os, h2.tape, h2.output, h2.size, fun j hj hs => h2.block j hj (fun e => hs e.symm)⟩
theorem own_frm {S : Nat → Prop} {w w' : World} {base n m : Nat} {e : TypeId} {v : Value} {xs : List Value} (h : w.ownsRow base e m v n xs) (hf : Frm S w w') (hs : ∀ k, base ≤ k → ¬ S k) : w'.ownsRow base e m v n xs := by
  obtain ⟨h1, h2⟩ := h
  refine ⟨h1, ?_⟩
  rcases h2 with h2 | ⟨g, cap, cur, rfl, hg, hh, hr⟩
  · exact .inl h2
  · exact .inr ⟨g, cap, cur, rfl, hg, hf.blk hh (hs g hg), hr⟩
theorem setCells_frm (q : Nat) : ∀ (vs : List Value) (o : Nat) (w : World), Frm (fun k => k = q) w (w.setCells q o vs)
  | [], _, _ => Frm.refl _ _
  | v :: r, o, w => ((Frm.refl (fun k => k = q) w).setCell (.inl rfl) v).trans (setCells_frm q r (o + 1) _)
theorem setCells_vec {q : Nat} {e : TypeId} : ∀ (vs : List Value) (o : Nat) (w : World) (xs : List Value), VecAt w q e xs → o + vs.length ≤ xs.length → VecAt (w.setCells q o vs) q e (xs.take o ++ vs ++ xs.drop (o + vs.length))
  | [], o, w, xs, h, _ => by simpa [World.setCells] using h
  | v :: r, o, w, xs, h, hl => by
    simp only [List.length_cons] at hl
    have h2 := setCells_vec r (o + 1) _ _ (h.set o v) (by simp; omega)
    rw [World.setCells]
    have ho : o < xs.length := by omega
    rw [List.drop_set_of_lt (by omega)] at h2
    have e1 : (xs.set o v).take (o + 1) = xs.take o ++ [v] := by
      rw [List.take_set, List.take_succ_eq_append_getElem ho, List.set_append_right _ _ (by rw [List.length_take]; omega)]
      simp [Nat.min_eq_left (Nat.le_of_lt ho)]
    rw [e1, show o + 1 + r.length = o + (r.length + 1) by omega] at h2
    simpa using h2
theorem zero20 (w : World) : (zeroValue 20).run Try.prog w = .ok .nilIface w := by kernel_rfl
theorem RingIs.cleared {w : World} {p b n t r : Nat} {L : List DM} {P : List (Option DM)} (h : RingIs w p b n L t r P) : RingIs ((((w.setCells b 0 (List.replicate n .nilIface)).setCell ⟨p, 1, none⟩ (.int .i64 0)).setCell ⟨p, 2, none⟩ (.int .i64 0)).setCell ⟨p, 3, none⟩ (.int .i64 0)) p b n [] 0 0 (List.replicate n none) := by
  refine ⟨h.hn, by simp, by simp, ?_, ?_, by simp, by simp, ?_, by simp, h.ne⟩
  · have h1 := (setCells_frm b (List.replicate n .nilIface) 0 w).blk h.hp h.ne
    have h2 := blk_setCell (i := 3) (blk_setCell (i := 2) (blk_setCell (i := 1) h1 (.int .i64 0)) (.int .i64 0)) (.int .i64 0)
    rw [h2]; simp
  · have h1 := setCells_vec (List.replicate n .nilIface) 0 w _ h.vb (by simp [h.plen])
    have h2 := ((h1.other (a := ⟨p, 1, none⟩) h.ne.symm (.int .i64 0)).other (a := ⟨p, 2, none⟩) h.ne.symm (.int .i64 0)).other (a := ⟨p, 3, none⟩) h.ne.symm (.int .i64 0)
    have e : (P.map encP).drop n = [] := List.drop_eq_nil_of_le (by simp [h.plen])
    simpa [encP, h.plen, e] using h2
  · intro j hj _
    simp [hj]
section
variable {w : World} {p b n t r : Nat} {L : List DM} {P : List (Option DM)}
set_option maxRecDepth 100000 in
set_option maxHeartbeats 4000000 in
theorem reset_c (h : RingIs w p b n L t r P) :
    Calls Try.prog 16 #[.pointer (some ⟨p, 0, none⟩)] w fun e w' => ∃ v, e = .returned v ∧ w'.ownsRow w.heap.size 33 9 v (L.length - r) (lcells (L.drop r)) ∧ RingIs w' p b n [] 0 0 (List.replicate n none) ∧ Frm (fun k => k = p ∨ k = b) w w' := by
  obtain ⟨o1, o2, o3⟩ := h.ord
  obtain ⟨n1, n2⟩ := h.hn
  have hl := h.hl
  have c0 := h.c0
  have c1 := h.c1
  have c3 := h.c3
  obtain ⟨l1, l2⟩ := h.lt
  have HR := Lib.hid h
  clear h
  go_enter Try.func16, Try.ntmps16
  go_wp2_with fail
  go_loopw [3, 4] (fun v i wr => ∃ k : Nat, r ≤ k ∧ k ≤ L.length ∧ i = .int .i64 k ∧ wr.ownsRow w.heap.size 33 9 v (k - r) (lcells ((L.drop r).take (k - r))) ∧ Frm (fun _ => False) w wr) (fun _ i _ => L.length - (intOf i).toNat)
  case atStart => exact ⟨r, by omega, by omega, rfl, by simpa [lcells] using World.ownsRow_nil _ _ _ _, Frm.refl _ _⟩
  case round =>
    obtain ⟨k, hk0, hk, rfl, hown, hf⟩ := hrel
    have hR := HR.out.keep hf
    have d0 := hR.c0
    have d1 := hR.c1
    obtain ⟨l3, l4⟩ := hR.lt
    have hsz := hf.size
    have HRR := Lib.hid hR
    have HO := Lib.hid hown
    have HF := Lib.hid hf
    clear hR hown hf
    by_cases hlt : k < L.length
    · have hd : decide (k < L.length) = true := by simpa using hlt
      obtain ⟨d, hdd⟩ : ∃ d, L[k]? = some d := ⟨_, List.getElem?_eq_getElem hlt⟩
      have hpm := HRR.out.here k d hk0 hdd
      have HPM := Lib.hid hpm
      have hb := HRR.out.cb hpm
      clear hpm
      have hmod : k % n < n := Nat.mod_lt _ (by omega)
      have HP := Lib.hid (place_c (HRR.out.keep (Frm.refl _ _).drew) k)
      have HX : Hid ((L.drop r).take (k + 1 - r) = (L.drop r).take (k - r) ++ [d]) := by
        show _ = _
        rw [show k + 1 - r = (k - r) + 1 by omega, List.take_add_one]
        simp [show r + (k - r) = k by omega, hdd]
      generalize k % n = m at *
      have m0 : (0 : Int) ≤ (m : Int) := by omega
      have m1 : (m : Int) < (n : Int) := by omega
      obtain ⟨op, req, slot, gen, frm, len, device, done, status⟩ := d
      simp only [encP, DM.cells] at hb
      clear hdd
      go_wp2_with fail
      go_region_held_law (fun w' => w'.cell? ⟨p, 0, none⟩ = some (.slice (some ⟨b, 0, none⟩) n n) ∧ w'.cell? ⟨b, m, none⟩ = some (.iface 33 (.agg #[.int .i64 op, .int .i64 req, .int .i64 slot, .int .u64 gen, .int .i64 frm, .int .i64 len, .bool device, .bool done, .int .i64 status])))
        (first | exact ⟨d0, hb⟩ | exact ⟨d01, hb1⟩ | go_keep)
        (first | (go_at_call 26; with_reducible refine HP.out.mono ?_; rintro e w' ⟨rfl, rfl⟩)
               | (refine step_desc _ rfl (.tmp 17) (.tmp 28) rfl w.heap.size _ _ _ rfl (HO.out.alloc _) ⟨op, req, slot, gen, frm, len, device, done, status⟩ wr.heap.size rfl (heap_alloc_new _ _) (by omega) (by simp; omega) ?_; intro v' w1 hown1 hf1; have HO1 := Lib.hid hown1; have HF1 := Lib.hid hf1; have hr1 := (HRR.out.keep (((Frm.refl (fun _ => False) wr).drew).alloc _)).frm hf1 (fun e => by have := own_base HO.out _ e; omega) (fun e => by have := own_base HO.out _ e; omega); have d01 := hr1.c0; have hb1 := hr1.cb HPM.out; simp only [encP, DM.cells] at hb1; clear hr1 hown1 hf1))
      all_goals go_wp2_with fail
      all_goals
        go_roundw
        case rel =>
          refine ⟨k + 1, by omega, by omega, by go_num, ?_, (((HF.out.of_none (S := fun k => w.heap.size ≤ k)).drew.alloc _).trans (HF1.out.mono fun k _ e => own_base HO.out k e)).down⟩
          rw [HX.out, show k + 1 - r = k - r + 1 by omega]
          simpa [lcells] using HO1.out
        case measure => simp [intOf]; omega
    · have hd : decide (k < L.length) = false := by simpa using hlt
      obtain rfl : k = L.length := by omega
      have f1 := HRR.out.fp 1
      have f2 := HRR.out.fp 2
      have f3 := HRR.out.fp 3
      have hcl := Lib.run_clear_slice (P := Try.prog) wr 60 20 0 .nilIface Try.underlying60 zero20 rfl rfl b 0 n n (by omega)
        (fun j hj => by
          obtain ⟨x, hx⟩ : ∃ x, P[j]? = some x := ⟨_, List.getElem?_eq_getElem (by rw [HRR.out.plen]; exact hj)⟩
          rw [Nat.zero_add, HRR.out.cb hx]; rfl) (fun j _ => HRR.out.fb _)
      have HCL := Lib.hid HRR.out.cleared
      have hfc := setCells_frm b (List.replicate n .nilIface) 0 wr
      have g1 := hfc.frozen l3 HRR.out.ne f1
      have g2 := hfc.frozen l3 HRR.out.ne f2
      have g3 := hfc.frozen l3 HRR.out.ne f3
      have k1 := hfc.cell l3 HRR.out.ne HRR.out.c1
      have k2 := hfc.cell l3 HRR.out.ne HRR.out.c2
      have k3 := hfc.cell l3 HRR.out.ne HRR.out.c3
      have hfr : Frm (fun k => k = p ∨ k = b) wr ((((wr.setCells b 0 (List.replicate n .nilIface)).setCell ⟨p, 1, none⟩ (.int .i64 0)).setCell ⟨p, 2, none⟩ (.int .i64 0)).setCell ⟨p, 3, none⟩ (.int .i64 0)) :=
        (((hfc.mono fun k _ e => .inr e).setCell (.inl (.inl rfl)) _).setCell (.inl (.inl rfl)) _).setCell (.inl (.inl rfl)) _
      have HFR := Lib.hid (HF.out.of_none.trans hfr)
      have HOC : Hid ((((((wr.setCells b 0 (List.replicate n .nilIface)).setCell ⟨p, 1, none⟩ (.int .i64 0)).setCell ⟨p, 2, none⟩ (.int .i64 0)).setCell ⟨p, 3, none⟩ (.int .i64 0))).ownsRow w.heap.size 33 9 u3 (L.length - r) (lcells (L.drop r))) := by
        have := own_frm HO.out hfr (by omega)
        rwa [List.take_of_length_le (by simp)] at this
      clear hfc hfr
      generalize wr.setCells b 0 (List.replicate n .nilIface) = w2 at *
      go_wp2_with fail
      go_ret
      exact ⟨_, rfl, HOC.out, HCL.out, HFR.out⟩
end
end Go.Proofs.Ytnbbaggmkinfkaa
