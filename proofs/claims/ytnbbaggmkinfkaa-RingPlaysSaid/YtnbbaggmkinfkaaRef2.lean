/- The reference's Put where there is room. -/
import Derived.Test.YtnbbaggmkinfkaaRef
import Derived.Deep.RegionLaw
namespace Go.Proofs.Ytnbbaggmkinfkaa
open Go.RowKit
theorem step_desc2 {ops : Array Oper} {o : Oper} {a : Act} {K : Act → World → Prop} {Q : Exit → Act → World → Prop} {E : Prop} (w : World) (hgd : o.guard = none) (s x : Operand)
    (ho : o.op = .call { callee := .builtin .append, args := #[s, x], argTypes := #[51, 51] }) (base : Nat)
    (v : Value) (k : Nat) (xs : List Value) (hs : a.eval s = v) (hown : w.ownsRow base 33 9 v k xs) (d : DM) (B : Nat) (hx : a.eval x = .slice (some ⟨B, 0, none⟩) 1 1) (hB : w.heap[B]? = some (.cells d.cells.toArray 33 (0, 0)))
    (hk : k < 1000000000) (hbase : base ≤ w.heap.size)
    (h : ∀ g' cap w', w'.ownsRow base 33 9 (.slice (some ⟨g', 0, none⟩) (k + 1) cap) (k + 1) (xs ++ d.cells) → Frm (fun k => v.ownBlock = some k) w w' → K (a.put o.dst (.slice (some ⟨g', 0, none⟩) (k + 1) cap)) w') :
    if Region.wanted o (yielded ops a.tmps) = true then Oper.wp Try.prog o a w K Q else E := by
  obtain ⟨i0, hi, hz0, hz1, hz2⟩ := info_parts info33
  refine step_append_lies w hgd s x 51 ho base 33 i0 _ 9 64 Try.underlying51 hi hz0 hz1 hz2 rfl (by decide) v k xs hs hown ⟨B, 0, none⟩ 1 1 d.cells hx rfl (World.news_of_block hB) (one_cells d) (by omega) (by unfold maxLen; omega) (by omega) hbase _ rfl ?_
  intro g cap w1 h1 h2 _ _
  exact h _ _ _ h1 ⟨h2.os, h2.tape, h2.output, h2.size, fun j hj hs => h2.block j hj (fun e => hs e.symm)⟩
theorem ref_put {w1 : World} {g base n t r : Nat} {v v' : Value} {L : List DM} {d : DM} (ho : r ≤ t ∧ t ≤ L.length ∧ L.length ≤ r + n) (hn : 1 ≤ n ∧ n ≤ 64) (hb : g < base) (hb2 : base ≤ w1.heap.size) (hlt : L.length < r + n) (hm : L.length < 1000000)
    (hg : w1.heap[g]? = some (.cells #[.int .i64 n, v, .int .i64 t, .int .i64 r] 57 (0, 0))) (hown : w1.ownsRow base 33 9 v' (L.length + 1) (lcells L ++ d.cells)) :
    RefIs (w1.setCell ⟨g, 1, none⟩ v') g base n v' (L ++ [d]) t r := by
  refine ⟨by simp; omega, hn, by simp; omega, ?_, ?_, hb, by simpa [World.setCell] using hb2⟩
  · rw [blk_setCell (i := 1) hg]; simp
  · have := own_frm hown ((Frm.refl (fun k => k = g) w1).setCell (p := ⟨g, 1, none⟩) (.inl rfl) v') (by omega)
    simpa [lcells] using this
section
variable {w : World} {g base n t r : Nat} {v : Value} {L : List DM}
set_option maxRecDepth 100000 in
set_option maxHeartbeats 2000000 in
theorem rput_ok (h : RefIs w g base n v L t r) (d : DM) (hm : mayB d.fresh = true) (hlt : L.length < r + n) (hmax : L.length < 1000000) :
    Calls Try.prog 18 #[.pointer (some ⟨g, 0, none⟩), .agg d.cells.toArray] w fun e w' => ∃ v', e = .returned (.tuple #[.int .i64 L.length, .int .i64 0]) ∧ RefIs w' g base n v' (L ++ [d.fresh]) t r ∧ Frm (fun k => k = g ∨ v.ownBlock = some k) w w' := by
  have hmay := rmay_c (w.alloc (.cells d.fresh.cells.toArray 33)) d.fresh
  rw [hm] at hmay
  have hD := VecAt.new w 33 d.fresh.cells
  have HD := Lib.hid hD
  have hbb := h.hb
  generalize hd' : d.fresh = d' at *
  obtain ⟨op, req, slot, gen, frm, len, device, done, status⟩ := d
  obtain ⟨op', req', slot', gen', frm', len', device', done', status'⟩ := d'
  simp only [DM.fresh, DM.mk.injEq] at hd'
  obtain ⟨rfl, rfl, rfl, rfl, rfl, rfl, rfl, rfl, rfl⟩ := hd'
  simp only [DM.cells] at hmay ⊢
  have HM := Lib.hid hmay
  obtain ⟨A, c, rfl⟩ := own_slice h.own
  have HR := Lib.hid h
  have hl := h.hl
  have hn := h.hn
  have ho := h.ord
  have e4 : decide ((n : Int) ≤ (L.length : Int) - r) = false := by simp; omega
  clear hmay hm h hD
  go_enter Try.func18, Try.ntmps18
  go_wp2_with fail
  refine HM.out.mono ?_
  rintro e w' ⟨rfl, hf⟩
  have HF := Lib.hid (((Frm.refl (fun _ => False) w).alloc _).trans hf)
  have hR := HR.out.keep HF.out
  have hV := HD.out.frm hf id
  have h0 := hR.c0
  have h1 := hR.c1
  have h1f := hR.fg 1
  have h3 := hR.c3
  have hgl := hR.lt
  obtain ⟨d0, d1, d2, d3, d4, d5, d6, d7, d8⟩ := hV.box
  have HRR := Lib.hid hR
  have hne : g ≠ w.heap.size := by omega
  have hsz := HF.out.size
  clear hf hR hV
  go_wp2_with fail
  go_quiet (fail)
  go_wp2_with fail
  have k9 : ∀ m O, ((w'.drewN m).alloc O).cell? ⟨g, 1, none⟩ = some (.slice A L.length c) := fun m O => (World.cell?_alloc_past (w := w'.drewN m) O g 1 hgl).trans h1
  go_region_law (refine step_desc2 _ rfl (.tmp 31) (.tmp 33) rfl base _ _ _ rfl (HRR.out.own.alloc _) ⟨op, req, slot, gen, frm, len, true, false, 0⟩ w'.heap.size rfl (heap_alloc_new _ _) (by omega) (by simp; omega) ?_; intro g' cap w1 hown1 hf1; have HO1 := Lib.hid hown1; have hf2 : Frm _ (w'.alloc (.cells (DM.cells ⟨op, req, slot, gen, frm, len, true, false, 0⟩).toArray 33)) w1 := ⟨hf1.os, hf1.tape, hf1.output, hf1.size, hf1.block⟩; have hr1 := (HRR.out.keep ((Frm.refl (fun _ => False) w').alloc (.cells (DM.cells ⟨op, req, slot, gen, frm, len, true, false, 0⟩).toArray 33))).hg; have hr1 := hf2.blk hr1 (fun e => by have := own_base HRR.out.own _ e; omega); have HG := Lib.hid hr1; have k1 : w1.cell? ⟨g, 1, none⟩ = some (.slice A L.length c) := (by simp [World.cell?, hr1]); have kf : w1.frozen? ⟨g, 1, none⟩ = false := (by simp [World.frozen?, hr1]); have HF1 := Lib.hid hf2; clear hown1 hf1 hf2 hr1)
  all_goals
    go_wp2_with fail
    go_ret2
    refine ⟨_, by simp, ref_put ho hn hbb.1 (by have h9 := HF1.out.size; rw [World.size_alloc] at h9; omega) (by omega) (by omega) HG.out HO1.out, ?_⟩
    exact (((((HF.out.of_none).alloc _).trans (HF1.out.mono fun k _ e => .inr e)).setCell (.inl (.inl rfl)) _))
end
end Go.Proofs.Ytnbbaggmkinfkaa
