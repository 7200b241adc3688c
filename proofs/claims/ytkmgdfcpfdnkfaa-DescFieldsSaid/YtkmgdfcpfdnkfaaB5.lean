/- The reference's Bytes. -/
import Derived.Test.YtkmgdfcpfdnkfaaB4
import Derived.Deep.RegionHeldLaw
import Derived.Deep.DeepCutAuto
namespace Go.Proofs.Ytkmgdfcpfdnkfaa
open Go.RowKit
theorem step_bytes {ops : Array Oper} {o : Oper} {a : Act} {K : Act → World → Prop} {Q : Exit → Act → World → Prop} {E : Prop} (w : World) (hgd : o.guard = none) (dt : Tmp) (hd : o.dst = some dt) (s x : Operand)
    (ho : o.op = .call { callee := .builtin .append, args := #[s, x], argTypes := #[28, 28] }) (base : Nat)
    (v : Value) (xs : List Nat) (hs : a.eval s = v) (hown : OwnB w base v xs) (b c : Nat) (ys : List Nat) (m : Nat) (hx : a.eval x = .slice (some ⟨b, 0, none⟩) m c) (hm : ys.length = m)
    (hy : VecAt w b 5 (bcells ys)) (hpos : 0 < m) (hk : xs.length + ys.length < 1000000) (hbase : base ≤ w.heap.size)
    (h : ∀ v' w', OwnB w' base v' (xs ++ ys) → Frm (fun k => v.ownBlock = some k) w w' → (∀ i, v'.ownBlock = some i → v.ownBlock = some i ∨ w.heap.size = i) → K (a.put (some dt) v') w') :
    if Region.wanted o (yielded ops a.tmps) = true then Oper.wp Try.prog o a w K Q else E := by
  obtain ⟨i0, hi, hz0, hz1, hz2⟩ := info_parts info5
  subst hm
  rw [← hd] at h
  refine step_append_lies w hgd s x 28 ho base 5 i0 _ 1 1 Try.underlying28 hi hz0 hz1 hz2 rfl (by decide) v xs.length (bcells xs) hs hown ⟨b, 0, none⟩ ys.length c (bcells ys) hx (by simp [bcells]) ?_ one_b hpos (by unfold maxLen; omega) (by omega) hbase _ rfl ?_
  · intro j u hj
    have e : (⟨b, 0, none⟩ : Addr).add j = ⟨b, 0 + j, none⟩ := by unfold Addr.add; split <;> simp_all
    rw [e, Nat.zero_add]; exact hy.cell hj
  · intro g cap w1 h1 h2 h3 _
    refine h _ _ ?_ ⟨h2.os, h2.tape, h2.output, h2.size, fun j hj hs => h2.block j hj (fun e => hs e.symm)⟩ (fun i hi => by simp only [Value.ownBlock, Option.some.injEq] at hi; subst hi; rcases h3 with h3 | h3; exact .inl h3; exact .inr h3.symm)
    unfold OwnB
    rw [bcells_append, List.length_append]; exact h1
theorem zero_cell (W : World) : ∀ j y : Nat, ([0] : List Nat)[j]? = some y → (W.alloc (.cells #[.int .u8 0] 5)).cell? ⟨W.heap.size, 0 + j, none⟩ = some (.int .u8 (y : Int)) := fun j y hj => by
  rw [Nat.zero_add]; exact (VecAt.new W 5 (bcells [0])).cell (bcells_get hj)
theorem size_le {W : World} {k : Nat} (h : k ≤ W.heap.size) (o : Obj) : k ≤ (W.alloc o).heap.size := by rw [World.size_alloc]; omega
set_option maxRecDepth 100000 in
set_option maxHeartbeats 2000000 in
theorem rbytes_no (w : World) (d : DM) (hm : mayB d = false) :
    Calls Try.prog 14 #[.agg d.cells.toArray] w fun e w' => e = .returned (.slice none 0 0) ∧ Frm (fun _ => False) w w' := by
  have T := rmay_c (w.alloc (.cells d.cells.toArray 26)) d
  rw [hm] at T
  obtain ⟨op, req, slot, gen, frm, len, device, done, status⟩ := d
  simp only [DM.cells] at T ⊢
  have HT := Lib.hid T
  clear T hm
  go_enter Try.func14, Try.ntmps14
  go_wp2_with fail
  refine HT.out.mono ?_
  rintro e w1 ⟨rfl, hf⟩
  have HF := Lib.hid hf
  clear hf
  go_wp2_with fail
  go_ret
  exact ⟨rfl, ((Frm.refl _ _).alloc _).trans HF.out⟩
theorem big_at2 (x : Nat) (hx : x < 18446744073709551616) : ∀ w, Calls Try.prog 22 #[.int .u64 x, .int .i64 2] w fun e w' => e = .returned (.slice (some ⟨w.heap.size, 0, none⟩) 2 2) ∧ VecAt w' w.heap.size 5 (bcells (big 2 x)) ∧ Frm (fun _ => False) w w' := fun w => big_c w 2 x (by decide) hx
theorem big_at3 (x : Nat) (hx : x < 18446744073709551616) : ∀ w, Calls Try.prog 22 #[.int .u64 x, .int .i64 3] w fun e w' => e = .returned (.slice (some ⟨w.heap.size, 0, none⟩) 3 3) ∧ VecAt w' w.heap.size 5 (bcells (big 3 x)) ∧ Frm (fun _ => False) w w' := fun w => big_c w 3 x (by decide) hx
theorem big_at4 (x : Nat) (hx : x < 18446744073709551616) : ∀ w, Calls Try.prog 22 #[.int .u64 x, .int .i64 4] w fun e w' => e = .returned (.slice (some ⟨w.heap.size, 0, none⟩) 4 4) ∧ VecAt w' w.heap.size 5 (bcells (big 4 x)) ∧ Frm (fun _ => False) w w' := fun w => big_c w 4 x (by decide) hx
set_option maxRecDepth 100000 in
set_option maxHeartbeats 4000000 in
theorem rbytes_yes (w : World) (d : DM) (hm : mayB d = true) (hg : 0 ≤ d.gen) :
    Calls Try.prog 14 #[.agg d.cells.toArray] w fun e w' => ∃ v, e = .returned v ∧ OwnB w' w.heap.size v (encB d) ∧ Frm (fun _ => False) w w' := by
  have T := rmay_c (w.alloc (.cells d.cells.toArray 26)) d
  have HBD : Hid (encB d = bodyB d ++ big 3 (chk (bodyB d))) := Lib.hid rfl
  have HBB : Hid (bodyB d = [(firstB d).toNat, d.status.toNat] ++ big 2 d.req.toNat ++ big 2 d.slot.toNat ++ big 4 d.gen.toNat ++ big 2 d.frm.toNat ++ big 4 d.len.toNat ++ [0]) := Lib.hid (by
    have hfl := first_lt hm
    obtain ⟨op, req, slot, gen, frm, len, status, hd, h1, h2, h3, h4, h5, h6, h7, _⟩ := may_nat hm hg
    have e1 : (firstB d).toNat % 256 = (firstB d).toNat := by omega
    have e2 : d.status.toNat % 256 = d.status.toNat := by rw [hd]; simp only; omega
    simp [bodyB, rowB, DM.fields, big, e1, e2])
  have hfl := first_lt hm
  have hfd : firstB d = d.op + (if d.device then 16 else 0) + (if d.done then 32 else 0) := rfl
  have hlen := bodyB_len d
  have hcl : chk (bodyB d) < 16777216 := Nat.mod_lt _ (by decide)
  have hlt : ∀ x ∈ bodyB d, x < 256 := rowB_lt _
  have HLT := Lib.hid hlt
  have BX := VecAt.new w 26 d.cells
  rw [hm] at T
  generalize hbd : bodyB d = body at *
  generalize hec : encB d = ec at *
  generalize hfb : firstB d = fi at *
  obtain ⟨fb, rfl⟩ := Int.eq_ofNat_of_zero_le hfl.1
  obtain ⟨op, req, slot, gen, frm, len, status, hd, h1, h2, h3, h4, h5, h6, h7, _⟩ := may_nat hm hg
  generalize d.device = device at *
  generalize d.done = done at *
  subst hd
  simp only [Int.toNat_natCast, DM.cells] at HBB hfd BX T ⊢
  have HFD := Lib.hid hfd
  have HT := Lib.hid T
  have HBX := Lib.hid BX
  have HLEN := Lib.hid hlen
  have hlen' : body.length ≤ 4000 := by omega
  have B1 := Lib.hid (big_at2 req (by omega))
  have B2 := Lib.hid (big_at2 slot (by omega))
  have B3 := Lib.hid (big_at4 gen (by omega))
  have B4 := Lib.hid (big_at2 frm (by omega))
  have B5 := Lib.hid (big_at4 len (by omega))
  have B6 := Lib.hid (big_at3 (chk body) (by omega))
  obtain ⟨hfl1, hfl2⟩ := hfl
  clear T BX hlen hlt hm hg hbd hec hfb hfd
  go_enter Try.func14, Try.ntmps14
  go_wp2_with fail
  refine HT.out.mono ?_
  rintro e w1 ⟨rfl, hf⟩
  have HF1 := Lib.hid (((Frm.refl (fun _ => False) w).alloc (.cells #[.int .i64 op, .int .i64 req, .int .i64 slot, .int .u64 gen, .int .i64 frm, .int .i64 len, .bool device, .bool done, .int .i64 status] 26)).trans hf)
  have V1 := HBX.out.frm hf id
  have D1 : Hid (VecAt w1 w.heap.size 26 (DM.cells ⟨op, req, slot, gen, frm, len, device, done, status⟩)) := Lib.hid V1
  have hsz1 := V1.lt
  obtain ⟨x0, x1, x2, x3, x4, x5, x6, x7, x8⟩ := D1.out.nine
  clear hf V1 HBX HT
  simp only at x0 x1 x2 x3 x4 x5 x6 x7 x8
  go_upto_if 11 with (fail)
  go_cut [3] (fun s wx => s = .int .i64 ((op : Int) + (if device then 16 else 0)) ∧ w1 = wx)
  case first =>
    cases device
    all_goals
      go_wp2_with fail
      go_meet
      exact ⟨by simp, rfl⟩
  case rest =>
    obtain ⟨rfl, rfl⟩ := hcut
    generalize hz : (op : Int) + (if device then 16 else 0) = z at *
    have HZ := Lib.hid hz
    have hz1 : 0 ≤ z ∧ z ≤ 31 := by rw [← hz]; cases device <;> simp <;> omega
    obtain ⟨hz1, hz2⟩ := hz1
    clear hz
    go_upto_if 15 with (fail)
    go_cut [3] (fun s wx => s = .int .i64 fb ∧ w1 = wx)
    case first =>
      cases done
      all_goals
        have hzz := HFD.out
        simp at hzz
        have HQ := Lib.hid hzz
        clear hzz
        go_wp2_with fail
        go_meet
        exact ⟨by rw [HQ.out], rfl⟩
    case rest =>
      obtain ⟨rfl, rfl⟩ := hcut
      have N21 : Hid (([fb, status]).length + (big 2 req).length < 1000000) := Lib.hid (by simp [big_length])
      have N23 : Hid (([fb, status] ++ big 2 req).length + (big 2 slot).length < 1000000) := Lib.hid (by simp [big_length])
      have N31 : Hid (([fb, status] ++ big 2 req ++ big 2 slot).length + (big 4 gen).length < 1000000) := Lib.hid (by simp [big_length])
      have N33 : Hid (([fb, status] ++ big 2 req ++ big 2 slot ++ big 4 gen).length + (big 2 frm).length < 1000000) := Lib.hid (by simp [big_length])
      have N41 : Hid (([fb, status] ++ big 2 req ++ big 2 slot ++ big 4 gen ++ big 2 frm).length + (big 4 len).length < 1000000) := Lib.hid (by simp [big_length])
      have N43 : Hid (([fb, status] ++ big 2 req ++ big 2 slot ++ big 4 gen ++ big 2 frm ++ big 4 len).length + ([0] : List Nat).length < 1000000) := Lib.hid (by simp [big_length])
      have k2 : IntKind.u64.wrap (req : Int) = req := by rw [IntKind.wrap_u64]; omega
      have k3 : IntKind.u64.wrap (slot : Int) = slot := by rw [IntKind.wrap_u64]; omega
      have k4 : IntKind.u64.wrap (frm : Int) = frm := by rw [IntKind.wrap_u64]; omega
      have D20 : Hid (VecAt (w1.alloc (.cells #[.int .u8 fb, .int .u8 status] 5)).drew w.heap.size 26 (DM.cells ⟨op, req, slot, gen, frm, len, device, done, status⟩)) := Lib.hid (D1.out.alloc _)
      have O20 : Hid (OwnB (w1.alloc (.cells #[.int .u8 fb, .int .u8 status] 5)).drew (w.heap.size + 1) (.slice (some ⟨w1.heap.size, 0, none⟩) 2 2) [fb, status]) := Lib.hid (OwnB.block (l := [fb, status]) (by omega) (VecAt.new w1 5 (bcells [fb, status])) (by simp))
      have F20 : Hid (Frm (fun k => w.heap.size + 1 ≤ k) w (w1.alloc (.cells #[.int .u8 fb, .int .u8 status] 5)).drew) := Lib.hid ((HF1.out.of_none.alloc _).drew)
      have S20 : Hid (w.heap.size + 1 ≤ ((w1.alloc (.cells #[.int .u8 fb, .int .u8 status] 5)).drew).heap.size) := Lib.hid (by simp; omega)
      go_wp2_with fail
      clear x0 x1 x2 x3 x4 x5 x6 x7 x8
      go_region_held_law (fun w' => w'.cell? ⟨w.heap.size, 0, none⟩ = some (.int .i64 op) ∧ w'.cell? ⟨w.heap.size, 1, none⟩ = some (.int .i64 req) ∧ w'.cell? ⟨w.heap.size, 2, none⟩ = some (.int .i64 slot) ∧ w'.cell? ⟨w.heap.size, 3, none⟩ = some (.int .u64 gen) ∧ w'.cell? ⟨w.heap.size, 4, none⟩ = some (.int .i64 frm) ∧ w'.cell? ⟨w.heap.size, 5, none⟩ = some (.int .i64 len) ∧ w'.cell? ⟨w.heap.size, 6, none⟩ = some (.bool device) ∧ w'.cell? ⟨w.heap.size, 7, none⟩ = some (.bool done) ∧ w'.cell? ⟨w.heap.size, 8, none⟩ = some (.int .i64 status))
        (first | exact D20.out.nine | exact D21.out.nine | exact D22.out.nine | exact D23.out.nine | exact D24.out.nine | go_keep)
        (first
          | (go_at_call 22; (with_reducible refine (B1.out _).mono ?_); rintro e w21 ⟨rfl, hv, hf⟩; (try simp at hv); have D21 := Lib.hid (D20.out.frm hf id); have O21 := Lib.hid (O20.out.frm hf (fun _ _ => id)); have V21 := Lib.hid hv; have F21 := Lib.hid (F20.out.trans hf.of_none); have S21 : Hid (w.heap.size + 1 ≤ _) := Lib.hid (Nat.le_trans S20.out hf.size); clear hv hf)
          | (refine step_bytes _ rfl 29 rfl (.tmp 24) (.tmp 28) rfl (w.heap.size + 1) _ _ rfl O21.out _ _ (big 2 req) 2 rfl rfl V21.out (by decide) N21.out S21.out ?_; intro v22 w22 hown hf _; have D22 := Lib.hid (D21.out.frm hf (fun e => by have := (World.ownsRow.lt O21.out _ e).1; omega)); have F22 := Lib.hid (F21.out.trans (hf.mono fun i _ e => (World.ownsRow.lt O21.out i e).1)); have O22 := Lib.hid hown; have S22 : Hid (w.heap.size + 1 ≤ _) := Lib.hid (Nat.le_trans S21.out hf.size); clear hown hf V21)
          | (go_at_call 22; (with_reducible refine (B2.out _).mono ?_); rintro e w23 ⟨rfl, hv, hf⟩; have D23 := Lib.hid (D22.out.frm hf id); have O23 := Lib.hid (O22.out.frm hf (fun _ _ => id)); have V23 := Lib.hid hv; have F23 := Lib.hid (F22.out.trans hf.of_none); have S23 : Hid (w.heap.size + 1 ≤ _) := Lib.hid (Nat.le_trans S22.out hf.size); clear hv hf)
          | (refine step_bytes _ rfl 35 rfl (.tmp 29) (.tmp 34) rfl (w.heap.size + 1) _ _ rfl O23.out _ _ (big 2 slot) 2 rfl rfl V23.out (by decide) N23.out S23.out ?_; intro v24 w24 hown hf _; have D24 := Lib.hid (D23.out.frm hf (fun e => by have := (World.ownsRow.lt O23.out _ e).1; omega)); have F24 := Lib.hid (F23.out.trans (hf.mono fun i _ e => (World.ownsRow.lt O23.out i e).1)); have O24 := Lib.hid hown; have S24 : Hid (w.heap.size + 1 ≤ _) := Lib.hid (Nat.le_trans S23.out hf.size); clear hown hf V23))
      have D30 : Hid (VecAt w24.drew w.heap.size 26 (DM.cells ⟨op, req, slot, gen, frm, len, device, done, status⟩)) := Lib.hid (D24.out.frm (Frm.refl (fun _ => False) _).drew id)
      have O30 := Lib.hid (O24.out.frm (Frm.refl (fun _ => False) _).drew (fun _ _ => id))
      have F30 := Lib.hid F24.out.drew
      have S30 : Hid (w.heap.size + 1 ≤ w24.drew.heap.size) := Lib.hid S24.out
      clear D20 D21 D22 D23 D24 O20 O21 O22 O23 O24 F20 F21 F22 F23 F24 S20 S21 S22 S23 S24 N21 N23 k2 k3
      go_wp2_with fail
      go_region_held_law (fun w' => w'.cell? ⟨w.heap.size, 0, none⟩ = some (.int .i64 op) ∧ w'.cell? ⟨w.heap.size, 1, none⟩ = some (.int .i64 req) ∧ w'.cell? ⟨w.heap.size, 2, none⟩ = some (.int .i64 slot) ∧ w'.cell? ⟨w.heap.size, 3, none⟩ = some (.int .u64 gen) ∧ w'.cell? ⟨w.heap.size, 4, none⟩ = some (.int .i64 frm) ∧ w'.cell? ⟨w.heap.size, 5, none⟩ = some (.int .i64 len) ∧ w'.cell? ⟨w.heap.size, 6, none⟩ = some (.bool device) ∧ w'.cell? ⟨w.heap.size, 7, none⟩ = some (.bool done) ∧ w'.cell? ⟨w.heap.size, 8, none⟩ = some (.int .i64 status))
        (first | exact D30.out.nine | exact D31.out.nine | exact D32.out.nine | exact D33.out.nine | exact D34.out.nine | go_keep)
        (first
          | (go_at_call 22; (with_reducible refine (B3.out _).mono ?_); rintro e w31 ⟨rfl, hv, hf⟩; (try simp at hv); have D31 := Lib.hid (D30.out.frm hf id); have O31 := Lib.hid (O30.out.frm hf (fun _ _ => id)); have V31 := Lib.hid hv; have F31 := Lib.hid (F30.out.trans hf.of_none); have S31 : Hid (w.heap.size + 1 ≤ _) := Lib.hid (Nat.le_trans S30.out hf.size); clear hv hf)
          | (refine step_bytes _ rfl 41 rfl (.tmp 36) (.tmp 40) rfl (w.heap.size + 1) _ _ rfl O31.out _ _ (big 4 gen) 4 rfl rfl V31.out (by decide) N31.out S31.out ?_; intro v32 w32 hown hf _; have D32 := Lib.hid (D31.out.frm hf (fun e => by have := (World.ownsRow.lt O31.out _ e).1; omega)); have F32 := Lib.hid (F31.out.trans (hf.mono fun i _ e => (World.ownsRow.lt O31.out i e).1)); have O32 := Lib.hid hown; have S32 : Hid (w.heap.size + 1 ≤ _) := Lib.hid (Nat.le_trans S31.out hf.size); clear hown hf V31)
          | (go_at_call 22; (with_reducible refine (B4.out _).mono ?_); rintro e w33 ⟨rfl, hv, hf⟩; have D33 := Lib.hid (D32.out.frm hf id); have O33 := Lib.hid (O32.out.frm hf (fun _ _ => id)); have V33 := Lib.hid hv; have F33 := Lib.hid (F32.out.trans hf.of_none); have S33 : Hid (w.heap.size + 1 ≤ _) := Lib.hid (Nat.le_trans S32.out hf.size); clear hv hf)
          | (refine step_bytes _ rfl 46 rfl (.tmp 41) (.tmp 45) rfl (w.heap.size + 1) _ _ rfl O33.out _ _ (big 2 frm) 2 rfl rfl V33.out (by decide) N33.out S33.out ?_; intro v34 w34 hown hf _; have D34 := Lib.hid (D33.out.frm hf (fun e => by have := (World.ownsRow.lt O33.out _ e).1; omega)); have F34 := Lib.hid (F33.out.trans (hf.mono fun i _ e => (World.ownsRow.lt O33.out i e).1)); have O34 := Lib.hid hown; have S34 : Hid (w.heap.size + 1 ≤ _) := Lib.hid (Nat.le_trans S33.out hf.size); clear hown hf V33))
      clear D30 D31 D32 D33 O30 O31 O32 O33 F30 F31 F32 F33 S30 S31 S32 S33 N31 N33 k4
      obtain ⟨x0, x1, x2, x3, x4, x5, x6, x7, x8⟩ := D34.out.nine
      simp only at x0 x1 x2 x3 x4 x5 x6 x7 x8
      go_wp2_with fail
      refine (B5.out _).mono ?_
      rintro e w41 ⟨rfl, hv, hf⟩
      have O41 := Lib.hid (O34.out.frm hf (fun _ _ => id))
      have F41 := Lib.hid (F34.out.trans hf.of_none)
      have S41 : Hid (w.heap.size + 1 ≤ w41.heap.size) := Lib.hid (Nat.le_trans S34.out hf.size)
      have Y41 : Hid (∀ j y : Nat, (big 4 len)[j]? = some y → w41.cell? ⟨w34.heap.size, 0 + j, none⟩ = some (.int .u8 (y : Int))) := Lib.hid (fun j y hj => by rw [Nat.zero_add]; exact hv.cell (bcells_get hj))
      clear hv hf x0 x1 x2 x3 x4 x5 x6 x7 x8 D34 O34 F34 S34
      go_wp2_with (first
        | (at_builtin; refine app_bytes _ rfl (.tmp 47) (.tmp 51) rfl (w.heap.size + 1) _ _ rfl O41.out w34.heap.size 0 _ (big 4 len) 4 rfl rfl Y41.out (by decide) N41.out S41.out ?_; intro v42 w42 hown42 hf42 _; have O42 := Lib.hid hown42; have F42 := Lib.hid (F41.out.trans (hf42.mono fun i _ e => (World.ownsRow.lt O41.out i e).1)); have S42 : Hid (w.heap.size + 1 ≤ w42.heap.size) := Lib.hid (Nat.le_trans S41.out hf42.size); clear hown42 hf42)
        | (at_builtin; refine app_bytes _ rfl (.tmp 52) (.tmp 53) rfl (w.heap.size + 1) _ _ rfl (O42.out.alloc _) w42.heap.size 0 _ [0] 1 rfl rfl (zero_cell w42) (by decide) N43.out (size_le S42.out _) ?_; intro v43 w43 hown43 hf43 _; have O43 := Lib.hid hown43; have F43 := Lib.hid ((F42.out.alloc _).trans (hf43.mono fun i _ e => (World.ownsRow.lt O42.out i e).1)); have S43 : Hid (w.heap.size + 1 ≤ w43.heap.size) := Lib.hid (Nat.le_trans (size_le S42.out _) hf43.size); clear hown43 hf43))
      clear O41 F41 S41 Y41 O42 F42 S42 N41 N43
      have hb43 : OwnB w43 (w.heap.size + 1) v43 body := by rw [HBB.out]; exact O43.out
      obtain ⟨A4, c4, hv4, hy4, _⟩ := hb43.open HLT.out
      subst hv4
      have O44 := Lib.hid hb43
      have HT4 := Lib.hid (rcheck_c w43 A4 c4 body hy4 hlen')
      clear hb43 hy4 O43
      go_wp2_with fail
      refine HT4.out.mono ?_
      rintro e w44 ⟨rfl, rfl⟩
      go_wp2_with fail
      refine (B6.out _).mono ?_
      rintro e w45 ⟨rfl, hv, hf⟩
      have O45 := Lib.hid (O44.out.frm hf (fun _ _ => id))
      have F45 := Lib.hid (F43.out.trans hf.of_none)
      have S45 : Hid (w.heap.size + 1 ≤ w45.heap.size) := Lib.hid (Nat.le_trans S43.out hf.size)
      have Y45 : Hid (∀ j y : Nat, (big 3 (chk body))[j]? = some y → w45.cell? ⟨w43.heap.size, 0 + j, none⟩ = some (.int .u8 (y : Int))) := Lib.hid (fun j y hj => by rw [Nat.zero_add]; exact hv.cell (bcells_get hj))
      have N45 : Hid (body.length + (big 3 (chk body)).length < 1000000) := Lib.hid (by rw [big_length]; omega)
      clear hv hf HT4
      go_wp2_with (at_builtin; refine app_bytes _ rfl (.tmp 55) (.tmp 59) rfl (w.heap.size + 1) _ body rfl O45.out w43.heap.size 0 _ (big 3 (chk body)) 3 rfl rfl Y45.out (by decide) N45.out S45.out ?_; intro v46 w46 hown46 hf46 _; have O46 := Lib.hid hown46; have F46 := Lib.hid (F45.out.trans (hf46.mono fun i _ e => (World.ownsRow.lt O45.out i e).1)); clear hown46 hf46)
      go_ret
      exact ⟨_, rfl, by rw [HBD.out]; exact O46.out.low (Nat.le_succ _), (F46.out.mono fun k _ h => (by omega : w.heap.size ≤ k)).down⟩
theorem rbytes_c (w : World) (d : DM) (hg : 0 ≤ d.gen) :
    Calls Try.prog 14 #[.agg d.cells.toArray] w fun e w' => ∃ v, e = .returned v ∧ OwnB w' w.heap.size v (bytesB d) ∧ Frm (fun _ => False) w w' := by
  unfold bytesB
  cases hm : mayB d with
  | true => exact rbytes_yes w d hm hg
  | false =>
    refine (rbytes_no w d hm).mono ?_
    rintro e w' ⟨rfl, hf⟩
    exact ⟨_, rfl, OwnB.nil _ _, hf⟩
end Go.Proofs.Ytkmgdfcpfdnkfaa
