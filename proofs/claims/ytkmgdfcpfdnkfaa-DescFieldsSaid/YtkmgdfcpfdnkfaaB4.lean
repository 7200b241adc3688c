/- Bytes. -/
import Derived.Test.YtkmgdfcpfdnkfaaEnc
import Derived.Deep.RegionHeld3
namespace Go.Proofs.Ytkmgdfcpfdnkfaa
open Go.RowKit
theorem rows_lit (w : World) (e : TypeId) (fs : List (Nat × Nat)) (h : fs.length ≤ 100) : RowsAt (w.alloc (.cells (fs.flatMap encF).toArray e)) (some ⟨w.heap.size, 0, none⟩) 2 encF fs := by
  refine ⟨by omega, fun _ => ⟨_, 0, rfl, by simp, fun i r hi j v hj => ?_⟩⟩
  have := flatMap_get (enc := encF) (m := 2) (fun _ => rfl) fs i r j v hi hj
  rw [Nat.zero_add]
  exact (VecAt.new w e (fs.flatMap encF)).cell this
theorem VecAt.nine {w : World} {q : Nat} {d : DM} (h : VecAt w q 26 d.cells) :
    w.cell? ⟨q, 0, none⟩ = some (.int .i64 d.op) ∧ w.cell? ⟨q, 1, none⟩ = some (.int .i64 d.req) ∧ w.cell? ⟨q, 2, none⟩ = some (.int .i64 d.slot) ∧ w.cell? ⟨q, 3, none⟩ = some (.int .u64 d.gen) ∧ w.cell? ⟨q, 4, none⟩ = some (.int .i64 d.frm) ∧
    w.cell? ⟨q, 5, none⟩ = some (.int .i64 d.len) ∧ w.cell? ⟨q, 6, none⟩ = some (.bool d.device) ∧ w.cell? ⟨q, 7, none⟩ = some (.bool d.done) ∧ w.cell? ⟨q, 8, none⟩ = some (.int .i64 d.status) :=
  ⟨h.cell rfl, h.cell rfl, h.cell rfl, h.cell rfl, h.cell rfl, h.cell rfl, h.cell rfl, h.cell rfl, h.cell rfl⟩
theorem row8 (w : World) (a1 a2 a3 a4 a5 a6 a7 : Nat) (h : a1 < 18446744073709551616 ∧ a2 < 18446744073709551616 ∧ a3 < 18446744073709551616 ∧ a4 < 18446744073709551616 ∧ a5 < 18446744073709551616 ∧ a6 < 18446744073709551616 ∧ a7 < 18446744073709551616) :
    Calls Try.prog 19 #[.slice (some ⟨w.heap.size, 0, none⟩) 8 8] (w.alloc (.cells #[.int .u64 a1, .int .i64 1, .int .u64 a2, .int .i64 1, .int .u64 a3, .int .i64 2, .int .u64 a4, .int .i64 2, .int .u64 a5, .int .i64 4, .int .u64 a6, .int .i64 2, .int .u64 a7, .int .i64 4, .int .u64 0, .int .i64 1] 51))
      fun e w' => ∃ v, e = .returned v ∧ OwnB w' w.heap.size v (rowB [(a1, 1), (a2, 1), (a3, 2), (a4, 2), (a5, 4), (a6, 2), (a7, 4), (0, 1)]) ∧ Frm (fun _ => False) w w' := by
  refine (row_c _ _ 8 [(a1, 1), (a2, 1), (a3, 2), (a4, 2), (a5, 4), (a6, 2), (a7, 4), (0, 1)] (rows_lit w 51 _ (by simp)) ?_ (by simp)).mono ?_
  · intro f hf
    simp only [List.mem_cons, List.not_mem_nil, or_false] at hf
    rcases hf with rfl | rfl | rfl | rfl | rfl | rfl | rfl | rfl <;> simp <;> omega
  · rintro e w' ⟨v, rfl, ho, hf⟩
    exact ⟨v, rfl, ho.low (by simp), ((Frm.refl _ _).alloc _).trans hf⟩
theorem row1 (w : World) (a : Nat) (h : a < 18446744073709551616) :
    Calls Try.prog 19 #[.slice (some ⟨w.heap.size, 0, none⟩) 1 1] (w.alloc (.cells #[.int .u64 a, .int .i64 3] 51))
      fun e w' => ∃ v, e = .returned v ∧ OwnB w' w.heap.size v (big 3 a) ∧ Frm (fun _ => False) w w' := by
  refine (row_c _ _ 1 [(a, 3)] (rows_lit w 51 _ (by simp)) ?_ (by simp)).mono ?_
  · intro f hf
    simp only [List.mem_cons, List.not_mem_nil, or_false] at hf
    subst hf; simp; omega
  · rintro e w' ⟨v, rfl, ho, hf⟩
    refine ⟨v, rfl, ?_, ((Frm.refl _ _).alloc _).trans hf⟩
    have := ho.low (base' := w.heap.size) (by simp)
    simpa [rowB] using this
set_option maxRecDepth 100000 in
set_option maxHeartbeats 2000000 in
theorem bytes_no (w : World) (d : DM) (hm : mayB d = false) :
    Calls Try.prog 10 #[.agg d.cells.toArray] w fun e w' => e = .returned (.slice none 0 0) ∧ Frm (fun _ => False) w w' := by
  have T := may_c (w.alloc (.cells d.cells.toArray 26)) d
  rw [hm] at T
  obtain ⟨op, req, slot, gen, frm, len, device, done, status⟩ := d
  simp only [DM.cells] at T ⊢
  have HT := Lib.hid T
  clear T hm
  go_enter Try.func10, Try.ntmps10
  go_wp2_with fail
  refine HT.out.mono ?_
  rintro e w1 ⟨rfl, hf⟩
  have HF := Lib.hid hf
  clear hf
  go_wp2_with fail
  go_ret
  exact ⟨rfl, ((Frm.refl _ _).alloc _).trans HF.out⟩
set_option maxRecDepth 100000 in
set_option maxHeartbeats 4000000 in
theorem bytes_yes (w : World) (d : DM) (hm : mayB d = true) (hg : 0 ≤ d.gen) :
    Calls Try.prog 10 #[.agg d.cells.toArray] w fun e w' => ∃ v, e = .returned v ∧ OwnB w' w.heap.size v (encB d) ∧ Frm (fun _ => False) w w' := by
  have T := may_c (w.alloc (.cells d.cells.toArray 26)) d
  have hlen := bodyB_len d
  have hfl := first_lt hm
  have HBD : Hid (encB d = bodyB d ++ big 3 (chk (bodyB d))) := Lib.hid rfl
  have hcl : chk (bodyB d) < 16777216 := Nat.mod_lt _ (by decide)
  have hlt : ∀ x ∈ bodyB d, x < 256 := rowB_lt _
  have HLT := Lib.hid hlt
  have BX := VecAt.new w 26 d.cells
  rw [hm] at T
  have HROW : Hid (∀ W : World, Calls Try.prog 19 #[.slice (some ⟨W.heap.size, 0, none⟩) 8 8] (W.alloc (.cells #[.int .u64 ((firstB d).toNat : Nat), .int .i64 1, .int .u64 (d.status.toNat : Nat), .int .i64 1, .int .u64 (d.req.toNat : Nat), .int .i64 2, .int .u64 (d.slot.toNat : Nat), .int .i64 2, .int .u64 (d.gen.toNat : Nat), .int .i64 4, .int .u64 (d.frm.toNat : Nat), .int .i64 2, .int .u64 (d.len.toNat : Nat), .int .i64 4, .int .u64 0, .int .i64 1] 51))
      fun e w' => ∃ v, e = .returned v ∧ OwnB w' W.heap.size v (bodyB d) ∧ Frm (fun _ => False) W w') := by
    obtain ⟨op, req, slot, gen, frm, len, status, hd, h1, h2, h3, h4, h5, h6, h7, _⟩ := may_nat hm hg
    intro W
    refine row8 W _ _ _ _ _ _ _ ⟨by omega, ?_, ?_, ?_, ?_, ?_, ?_⟩ <;> (rw [hd]; simp only; omega)
  have HMK : Hid (∀ W : World, Calls Try.prog 20 #[.agg d.cells.toArray] W fun e w' => e = .returned (.int .u64 ((firstB d).toNat : Nat)) ∧ Frm (fun _ => False) W w') := by
    obtain ⟨op, req, slot, gen, frm, len, status, hd, h1, h2, h3, h4, h5, h6, h7, _⟩ := may_nat hm hg
    intro W
    rw [Int.toNat_of_nonneg hfl.1]
    exact marks_c W d (by rw [hd]; simp) (by rw [hd]; simp only; omega)
  generalize hbd : bodyB d = body at *
  generalize hec : encB d = ec at *
  generalize hfb : (firstB d).toNat = fb at *
  obtain ⟨op, req, slot, gen, frm, len, status, hd, h1, h2, h3, h4, h5, h6, h7, _⟩ := may_nat hm hg
  generalize d.device = device at *
  generalize d.done = done at *
  subst hd
  simp only [Int.toNat_natCast, DM.cells] at HROW HMK BX T ⊢
  have HT := Lib.hid T
  have HBX := Lib.hid BX
  have HLEN := Lib.hid hlen
  have hlen' : body.length ≤ 4000 := by omega
  clear T BX hlen hlt hm hg hbd hec hfb hfl
  go_enter Try.func10, Try.ntmps10
  go_wp2_with fail
  refine HT.out.mono ?_
  rintro e w1 ⟨rfl, hf⟩
  have HF1 := Lib.hid (((Frm.refl (fun _ => False) w).alloc (.cells #[.int .i64 op, .int .i64 req, .int .i64 slot, .int .u64 gen, .int .i64 frm, .int .i64 len, .bool device, .bool done, .int .i64 status] 26)).trans hf)
  have V1 := HBX.out.frm hf id
  have D1 : Hid (VecAt w1.drew w.heap.size 26 (DM.cells ⟨op, req, slot, gen, frm, len, device, done, status⟩)) := Lib.hid V1
  clear hf V1 HBX HT
  go_wp2_with fail
  have k1 : IntKind.u64.wrap (status : Int) = status := by rw [IntKind.wrap_u64]; omega
  have k2 : IntKind.u64.wrap (req : Int) = req := by rw [IntKind.wrap_u64]; omega
  have k3 : IntKind.u64.wrap (slot : Int) = slot := by rw [IntKind.wrap_u64]; omega
  have k4 : IntKind.u64.wrap (frm : Int) = frm := by rw [IntKind.wrap_u64]; omega
  have k5 : IntKind.u64.wrap (len : Int) = len := by rw [IntKind.wrap_u64]; omega
  go_region_held3 (fun w' => w'.cell? ⟨w.heap.size, 0, none⟩ = some (.int .i64 op) ∧ w'.cell? ⟨w.heap.size, 1, none⟩ = some (.int .i64 req) ∧ w'.cell? ⟨w.heap.size, 2, none⟩ = some (.int .i64 slot) ∧ w'.cell? ⟨w.heap.size, 3, none⟩ = some (.int .u64 gen) ∧ w'.cell? ⟨w.heap.size, 4, none⟩ = some (.int .i64 frm) ∧
      w'.cell? ⟨w.heap.size, 5, none⟩ = some (.int .i64 len) ∧ w'.cell? ⟨w.heap.size, 6, none⟩ = some (.bool device) ∧ w'.cell? ⟨w.heap.size, 7, none⟩ = some (.bool done) ∧ w'.cell? ⟨w.heap.size, 8, none⟩ = some (.int .i64 status))
    (first | exact D1.out.nine | exact D5.out.nine | exact D6.out.nine | go_keep)
    (first
      | (go_at_call 20; (with_reducible refine (HMK.out _).mono ?_); rintro e w5 ⟨rfl, hf5⟩; have D5 := Lib.hid (D1.out.frm hf5 id); have HF5 := Lib.hid (HF1.out.drew.trans hf5); clear hf5)
      | (go_at_call 19; (with_reducible refine (HROW.out _).mono ?_); rintro e w6 ⟨v, rfl, ho6, hf6⟩; have D6 := Lib.hid (D5.out.frm hf6 id); have HF6 := Lib.hid (HF5.out.trans hf6); have HO6 := Lib.hid (ho6.low HF5.out.size); clear ho6 hf6))
  all_goals
    clear k1 k2 k3 k4 k5
    obtain ⟨A6, c6, hv6, hb6, hr6⟩ := HO6.out.open HLT.out
    subst hv6
    have HT7 := Lib.hid (check_c w6 A6 c6 body hb6 hlen')
    have HR6 := Lib.hid hr6
    clear hb6 hr6
    go_wp2_with fail
    refine HT7.out.mono ?_
    rintro e w7 ⟨rfl, rfl⟩
    go_wp2_with fail
    refine (row1 w6 (chk body) (by omega)).mono ?_
    rintro e w8 ⟨v8, rfl, ho8, hf8⟩
    obtain ⟨A8, c8, hv8, hb8, _⟩ := ho8.open (big_lt _ _)
    rw [big_length] at hv8
    subst hv8
    obtain ⟨b8, off8, hA8, _, hc8⟩ := hb8.at_.at_ (by rw [big_length]; decide)
    subst hA8
    have HY8 : Hid (∀ j y : Nat, (big 3 (chk body))[j]? = some y → w8.cell? ⟨b8, off8 + j, none⟩ = some (.int .u8 (y : Int))) := Lib.hid (fun j y hj => by
      have := hc8 j y hj 0 _ rfl
      simpa only [Nat.mul_one, Nat.add_zero] using this)
    have HO8 := Lib.hid (HO6.out.frm hf8 (fun _ _ => id))
    have HF8 := Lib.hid (HF6.out.trans hf8)
    have HN8 : Hid (body.length + (big 3 (chk body)).length < 1000000) := Lib.hid (by rw [big_length]; omega)
    have HS8 : Hid (w.heap.size ≤ w8.heap.size) := Lib.hid HF8.out.size
    clear ho8 hf8 hb8 hc8
    go_wp2_with (at_builtin; refine app_bytes _ rfl (.tmp 38) (.tmp 44) rfl w.heap.size _ body rfl HO8.out b8 off8 _ (big 3 (chk body)) 3 rfl rfl HY8.out (by decide) HN8.out HS8.out ?_; intro v9 w9 hown9 hf9 _)
    have HO9 := Lib.hid hown9
    have HF9 := Lib.hid hf9
    clear hown9 hf9
    go_wp2_with fail
    go_ret
    refine ⟨_, rfl, by rw [HBD.out]; exact HO9.out, ?_⟩
    exact ((HF8.out.of_none (S := fun k => w.heap.size ≤ k)).trans (HF9.out.mono fun i _ e => (World.ownsRow.lt HO8.out i e).1)).down
theorem bytes_c (w : World) (d : DM) (hg : 0 ≤ d.gen) :
    Calls Try.prog 10 #[.agg d.cells.toArray] w fun e w' => ∃ v, e = .returned v ∧ OwnB w' w.heap.size v (bytesB d) ∧ Frm (fun _ => False) w w' := by
  unfold bytesB
  cases hm : mayB d with
  | true => exact bytes_yes w d hm hg
  | false =>
    refine (bytes_no w d hm).mono ?_
    rintro e w' ⟨rfl, hf⟩
    exact ⟨_, rfl, OwnB.nil _ _, hf⟩
end Go.Proofs.Ytkmgdfcpfdnkfaa
