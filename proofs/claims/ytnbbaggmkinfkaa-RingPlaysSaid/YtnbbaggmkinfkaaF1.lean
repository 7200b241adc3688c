/- New, Put, Take, Counts. -/
import Derived.Test.YtnbbaggmkinfkaaRing
import Derived.Deep.RegionWith
namespace Go.Proofs.Ytnbbaggmkinfkaa
open Go.RowKit
section
variable {w : World} {p b n t r : Nat} {L : List DM} {P : List (Option DM)}
theorem counts_c (h : RingIs w p b n L t r P) : Calls Try.prog 14 #[.pointer (some ⟨p, 0, none⟩)] w fun e w' => e = .returned (.tuple #[.int .i64 L.length, .int .i64 t, .int .i64 r]) ∧ Frm (fun _ => False) w w' := by
  have h1 := h.c1
  have h2 := h.c2
  have h3 := h.c3
  clear h
  go_enter Try.func14, Try.ntmps14
  go_wp2
  go_quiet (fail)
  go_wp2
  go_ret3
  exact ⟨rfl, (Frm.refl _ _).drewN _⟩
def DM.fresh (d : DM) : DM := { d with device := true, done := false, status := 0 }
theorem put_arg (w : World) (p : Nat) (d : DM) (hm : mayB d.fresh = false) :
    Calls Try.prog 10 #[.pointer (some ⟨p, 0, none⟩), .agg d.cells.toArray] w fun e w' => e = .returned (.tuple #[.int .i64 0, .int .i64 1]) ∧ Frm (fun _ => False) w w' := by
  have hmay := may_c (w.alloc (.cells d.fresh.cells.toArray 33)) d.fresh
  rw [hm] at hmay
  obtain ⟨op, req, slot, gen, frm, len, device, done, status⟩ := d
  simp only [DM.cells, DM.fresh] at hmay ⊢
  have HM := Lib.hid hmay
  clear hmay hm
  go_enter Try.func10, Try.ntmps10
  go_wp2_with fail
  refine HM.out.mono ?_
  rintro e w' ⟨rfl, hf⟩
  have HF := Lib.hid hf
  clear hf
  go_wp2_with fail
  go_ret2
  exact ⟨rfl, ((Frm.refl _ _).alloc _).trans HF.out⟩
theorem put_full (h : RingIs w p b n L t r P) (d : DM) (hm : mayB d.fresh = true) (hfull : L.length = r + n) :
    Calls Try.prog 10 #[.pointer (some ⟨p, 0, none⟩), .agg d.cells.toArray] w fun e w' => e = .returned (.tuple #[.int .i64 0, .int .i64 4]) ∧ Frm (fun _ => False) w w' := by
  have hmay := may_c (w.alloc (.cells d.fresh.cells.toArray 33)) d.fresh
  rw [hm] at hmay
  obtain ⟨op, req, slot, gen, frm, len, device, done, status⟩ := d
  simp only [DM.cells, DM.fresh] at hmay ⊢
  have HM := Lib.hid hmay
  have HR := Lib.hid h
  have hl := h.hl
  have ho := h.ord
  have hn := h.hn
  have HL := Lib.hid hfull
  clear hmay hm h hfull
  go_enter Try.func10, Try.ntmps10
  go_wp2_with fail
  refine HM.out.mono ?_
  rintro e w' ⟨rfl, hf⟩
  have HF := Lib.hid (((Frm.refl (fun _ => False) w).alloc _).trans hf)
  have hR := HR.out.keep HF.out
  have h0 := hR.c0
  have h1 := hR.c1
  have h3 := hR.c3
  have e4 : (((L.length : Int) - r) == n) = true := by have := HL.out; simp; omega
  clear hf hR
  go_wp2_with fail
  go_region
  go_wp2_with fail
  go_ret2
  exact ⟨rfl, HF.out.drew⟩
set_option maxHeartbeats 1000000 in
theorem put_ok (h : RingIs w p b n L t r P) (d : DM) (hm : mayB d.fresh = true) (hlt : L.length < r + n) (hmax : L.length < 1000000) :
    Calls Try.prog 10 #[.pointer (some ⟨p, 0, none⟩), .agg d.cells.toArray] w fun e w' => e = .returned (.tuple #[.int .i64 L.length, .int .i64 0]) ∧ RingIs w' p b n (L ++ [d.fresh]) t r (P.set (L.length % n) (some d.fresh)) ∧ Frm (fun k => k = p ∨ k = b) w w' := by
  have hmay := may_c (w.alloc (.cells d.fresh.cells.toArray 33)) d.fresh
  rw [hm] at hmay
  have HM := Lib.hid hmay
  have HR := Lib.hid h
  have hl := h.hl
  obtain ⟨o1, o2, o3⟩ := h.ord
  obtain ⟨n1, n2⟩ := h.hn
  have hmod : L.length % n < n := Nat.mod_lt _ (by omega)
  have hfree := h.next_free hlt
  have HP := Lib.hid hfree
  have hD := DBox.new w d.fresh
  have HD := Lib.hid hD
  clear hmay hm h hfree hD
  generalize hd' : d.fresh = d' at *
  obtain ⟨op, req, slot, gen, frm, len, device, done, status⟩ := d
  obtain ⟨op', req', slot', gen', frm', len', device', done', status'⟩ := d'
  simp only [DM.fresh, DM.mk.injEq] at hd'
  obtain ⟨rfl, rfl, rfl, rfl, rfl, rfl, rfl, rfl, rfl⟩ := hd'
  simp only [DM.cells]
  go_enter Try.func10, Try.ntmps10
  go_wp2_with fail
  refine HM.out.mono ?_
  rintro e w' ⟨rfl, hf⟩
  have HF := Lib.hid (((Frm.refl (fun _ => False) w).alloc _).trans hf)
  have hR := HR.out.keep HF.out
  have HR' := Lib.hid hR
  have h0 := hR.c0
  have h1 := hR.c1
  have h1f := hR.fp 1
  have h3 := hR.c3
  have hb := hR.cb HP.out
  have hbf := hR.fb (L.length % n)
  have hpl := hR.lt.1
  have hbl := hR.lt.2
  have hne := hR.ne
  obtain ⟨d0, d1, d2, d3, d4, d5, d6, d7, d8⟩ := HD.out.via hf id
  have e4 : (((L.length : Int) - r) == n) = false := by simp; omega
  simp only [encP] at hb
  clear hf hR
  go_wp2_with fail
  go_region
  go_wp2_with fail
  have HP' := Lib.hid (place_c (HR'.out.keep (Frm.refl _ _).drew.drew) L.length)
  go_region_with (go_at_call 26; refine HP'.out.mono ?_; rintro e w' ⟨rfl, rfl⟩)
  all_goals
    go_wp2_with fail
    go_ret2
    refine ⟨rfl, ?_, ?_⟩
    · exact (HR'.out.put hlt hmax _ rfl).keep ((Frm.refl _ _).drew.drew)
    · exact (((HF.out.of_none (S := fun k => k = p ∨ k = b)).setCell (.inl (.inr rfl)) _).setCell (.inl (.inl rfl)) _).drew.drew
theorem take_empty (h : RingIs w p b n L t r P) (ht : t = L.length) :
    Calls Try.prog 11 #[.pointer (some ⟨p, 0, none⟩)] w fun e w' => e = .returned (.tuple #[.int .i64 0, .agg DM.zero.cells.toArray, .int .i64 5]) ∧ Frm (fun _ => False) w w' := by
  have h1 := h.c1
  have h2 := h.c2
  obtain ⟨l1, l2⟩ := h.lt
  have e1 : ((t : Int) == (L.length : Int)) = true := by simp [ht]
  clear ht h
  go_enter Try.func11, Try.ntmps11
  go_wp2_with fail
  go_region
  go_wp2_with fail
  refine bodyPost_ret (v := .tuple #[.int .i64 0, .agg DM.zero.cells.toArray, .int .i64 5]) (by simp [results, Try.results11, go_sem, DM.zero, DM.cells]) rfl ⟨rfl, ?_⟩
  exact ((Frm.refl _ _).alloc _).drew
set_option maxHeartbeats 1000000 in
theorem take_ok (h : RingIs w p b n L t r P) (d : DM) (hd : L[t]? = some d) :
    Calls Try.prog 11 #[.pointer (some ⟨p, 0, none⟩)] w fun e w' => e = .returned (.tuple #[.int .i64 t, .agg d.cells.toArray, .int .i64 0]) ∧ RingIs w' p b n L (t + 1) r P ∧ Frm (fun k => k = p ∨ k = b) w w' := by
  have hlt : t < L.length := (List.getElem?_eq_some_iff.1 hd).1
  obtain ⟨o1, o2, o3⟩ := h.ord
  obtain ⟨n1, n2⟩ := h.hn
  have hl := h.hl
  have hmod : t % n < n := Nat.mod_lt _ (by omega)
  have h0 := h.c0
  have h1 := h.c1
  have h2 := h.c2
  have h2f := h.fp 2
  have hb := h.cb (h.here t d o1 hd)
  have hne := h.ne
  obtain ⟨l1, l2⟩ := h.lt
  have e1 : ((t : Int) == (L.length : Int)) = false := by simp; omega
  have HR := Lib.hid h
  have HP' := Lib.hid (place_c ((h.take hlt).keep ((((Frm.refl (fun _ => False) _).alloc (.cells DM.zero.cells.toArray 33)).drew).drew)) t)
  have w1 : p ≠ w.heap.size := by omega
  have w2 : b ≠ w.heap.size := by omega
  obtain ⟨op, req, slot, gen, frm, len, device, done, status⟩ := d
  simp only [encP, DM.cells, DM.zero] at hb HP' ⊢
  clear h hd
  go_enter Try.func11, Try.ntmps11
  go_wp2_with fail
  go_region
  go_wp2_with fail
  go_region_with (go_at_call 26; refine HP'.out.mono ?_; rintro e w' ⟨rfl, rfl⟩)
  all_goals
    go_wp2_with fail
    refine bodyPost_ret (v := .tuple #[.int .i64 t, .agg #[.int .i64 op, .int .i64 req, .int .i64 slot, .int .u64 gen, .int .i64 frm, .int .i64 len, .bool device, .bool done, .int .i64 status], .int .i64 0]) (by simp [results, Try.results11, go_sem]) rfl ⟨rfl, ?_, ?_⟩
    · exact (HR.out.take hlt).keep ((((Frm.refl _ _).alloc _).drew).drew)
    · exact (((Frm.refl (fun k => k = p ∨ k = b) w).setCell (.inl (.inl rfl)) _).alloc _).drew.drew
end
end Go.Proofs.Ytnbbaggmkinfkaa
