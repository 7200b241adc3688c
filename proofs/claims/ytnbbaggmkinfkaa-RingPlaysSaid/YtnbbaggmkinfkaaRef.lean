/- The reference's May; the reference ring in memory. -/
import Derived.Test.YtnbbaggmkinfkaaSame
namespace Go.Proofs.Ytnbbaggmkinfkaa
open Go.RowKit
set_option maxRecDepth 100000 in
set_option maxHeartbeats 4000000 in
theorem rmay_c (w : World) (d : DM) : Calls Try.prog 27 #[.agg d.cells.toArray] w fun e w' => e = .returned (.bool (mayB d)) ∧ Frm (fun _ => False) w w' := by
  obtain ⟨op, req, slot, gen, frm, len, device, done, status⟩ := d
  simp only [DM.cells]
  go_enter Try.func27, Try.ntmps27
  go_wp2_with fail
  all_goals
    go_ret
    refine ⟨?_, (Frm.refl _ _).alloc _⟩
    simp_all [mayB, inB]
    try (first | omega | exact Bool.or_comm _ _)
structure RefIs (w : World) (g base n : Nat) (v : Value) (L : List DM) (t r : Nat) : Prop where
  hl : L.length ≤ 1000000
  hn : 1 ≤ n ∧ n ≤ 64
  ord : r ≤ t ∧ t ≤ L.length ∧ L.length ≤ r + n
  hg : w.heap[g]? = some (.cells #[.int .i64 n, v, .int .i64 t, .int .i64 r] 57 (0, 0))
  own : w.ownsRow base 33 9 v L.length (lcells L)
  hb : g < base ∧ base ≤ w.heap.size
section
variable {w : World} {g base n t r : Nat} {v : Value} {L : List DM}
theorem RefIs.c0 (h : RefIs w g base n v L t r) : w.cell? ⟨g, 0, none⟩ = some (.int .i64 n) := by simp [World.cell?, h.hg]
theorem RefIs.c1 (h : RefIs w g base n v L t r) : w.cell? ⟨g, 1, none⟩ = some v := by simp [World.cell?, h.hg]
theorem RefIs.c2 (h : RefIs w g base n v L t r) : w.cell? ⟨g, 2, none⟩ = some (.int .i64 t) := by simp [World.cell?, h.hg]
theorem RefIs.c3 (h : RefIs w g base n v L t r) : w.cell? ⟨g, 3, none⟩ = some (.int .i64 r) := by simp [World.cell?, h.hg]
theorem RefIs.fg (h : RefIs w g base n v L t r) (i : Nat) : w.frozen? ⟨g, i, none⟩ = false := by simp [World.frozen?, h.hg]
theorem RefIs.frm {S : Nat → Prop} {w' : World} (h : RefIs w g base n v L t r) (hf : Frm S w w') (h1 : ¬ S g) (h2 : ∀ k, v.ownBlock = some k → ¬ S k) : RefIs w' g base n v L t r := by
  refine ⟨h.hl, h.hn, h.ord, hf.blk h.hg h1, ?_, h.hb.1, Nat.le_trans h.hb.2 hf.size⟩
  obtain ⟨q1, q2⟩ := h.own
  refine ⟨q1, ?_⟩
  rcases q2 with q2 | ⟨k, cap, cur, rfl, hk, hh, hr⟩
  · exact .inl q2
  · exact .inr ⟨k, cap, cur, rfl, hk, hf.blk hh (h2 k rfl), hr⟩
theorem RefIs.keep {w' : World} (h : RefIs w g base n v L t r) (hf : Frm (fun _ => False) w w') : RefIs w' g base n v L t r := h.frm hf id (fun _ _ => id)
theorem RefIs.lt (h : RefIs w g base n v L t r) : g < w.heap.size := lt_of_block h.hg
set_option maxRecDepth 100000 in
set_option maxHeartbeats 2000000 in
theorem rput_arg (w : World) (g : Nat) (d : DM) (hm : mayB d.fresh = false) :
    Calls Try.prog 18 #[.pointer (some ⟨g, 0, none⟩), .agg d.cells.toArray] w fun e w' => e = .returned (.tuple #[.int .i64 0, .int .i64 1]) ∧ Frm (fun _ => False) w w' := by
  have hmay := rmay_c (w.alloc (.cells d.fresh.cells.toArray 33)) d.fresh
  rw [hm] at hmay
  obtain ⟨op, req, slot, gen, frm, len, device, done, status⟩ := d
  simp only [DM.cells, DM.fresh] at hmay ⊢
  have HM := Lib.hid hmay
  clear hmay hm
  go_enter Try.func18, Try.ntmps18
  go_wp2_with fail
  refine HM.out.mono ?_
  rintro e w' ⟨rfl, hf⟩
  have HF := Lib.hid hf
  clear hf
  go_wp2_with fail
  go_ret2
  exact ⟨rfl, ((Frm.refl _ _).alloc _).trans HF.out⟩
set_option maxRecDepth 100000 in
set_option maxHeartbeats 2000000 in
theorem rput_full (h : RefIs w g base n v L t r) (d : DM) (hm : mayB d.fresh = true) (hfull : L.length = r + n) :
    Calls Try.prog 18 #[.pointer (some ⟨g, 0, none⟩), .agg d.cells.toArray] w fun e w' => e = .returned (.tuple #[.int .i64 0, .int .i64 4]) ∧ Frm (fun _ => False) w w' := by
  have hmay := rmay_c (w.alloc (.cells d.fresh.cells.toArray 33)) d.fresh
  rw [hm] at hmay
  obtain ⟨op, req, slot, gen, frm, len, device, done, status⟩ := d
  simp only [DM.cells, DM.fresh] at hmay ⊢
  have HM := Lib.hid hmay
  obtain ⟨A, c, rfl⟩ := own_slice h.own
  have HR := Lib.hid h
  have hl := h.hl
  have hn := h.hn
  have ho := h.ord
  have e4 : decide ((n : Int) ≤ (L.length : Int) - r) = true := by simp; omega
  clear hmay hm h hfull
  go_enter Try.func18, Try.ntmps18
  go_wp2_with fail
  refine HM.out.mono ?_
  rintro e w' ⟨rfl, hf⟩
  have HF := Lib.hid (((Frm.refl (fun _ => False) w).alloc _).trans hf)
  have hR := HR.out.keep HF.out
  have h0 := hR.c0
  have h1 := hR.c1
  have h3 := hR.c3
  clear hf hR
  go_wp2_with fail
  go_quiet (fail)
  go_wp2_with fail
  go_ret2
  exact ⟨rfl, HF.out.drewN _⟩
end
end Go.Proofs.Ytnbbaggmkinfkaa
