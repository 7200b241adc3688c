/- DescFields: the walk. -/
import Derived.Test.YtkmgdfcpfdnkfaaTurn
import Derived.Deep.RegionWith
namespace Go.Proofs.Ytkmgdfcpfdnkfaa
open Go.RowKit
theorem cells_len (d : DM) : d.cells.length = 9 := rfl
def onesL (n0 n1 n2 n3 n4 n5 : Int) : List DM := [⟨n0, 0, 0, 0, 0, 0, false, false, 0⟩, ⟨0, n1, 0, 0, 0, 0, false, false, 0⟩, ⟨0, 0, n2, 0, 0, 0, false, false, 0⟩, ⟨0, 0, 0, 0, n3, 0, false, false, 0⟩, ⟨0, 0, 0, 0, 0, n4, false, false, 0⟩, ⟨0, 0, 0, 0, 0, 0, false, true, n5⟩]
def mostL : List Int := [15, 65535, 65535, 65535, 65536, 255]
def icells (l : List Int) : List Value := l.map fun x => .int .i64 x
theorem icells_get {l : List Int} {j : Nat} {x : Int} (h : l[j]? = some x) : (icells l)[j]? = some (.int .i64 x) := by simp [icells, h]
theorem ones_may (n0 n1 n2 n3 n4 n5 n6 : Int) (k : Nat) (hk : k < 6) : ∃ d n m, (onesL n0 n1 n2 n3 n4 n5)[k]? = some d ∧ ([n0, n1, n2, n3, n4, n5, n6] : List Int)[k]? = some n ∧ mostL[k]? = some m ∧ mayB d = inB n m := by
  match k, hk with
  | 0, _ => exact ⟨_, _, _, rfl, rfl, rfl, by simp [mayB, inB]⟩
  | 1, _ => exact ⟨_, _, _, rfl, rfl, rfl, by simp [mayB, inB]⟩
  | 2, _ => exact ⟨_, _, _, rfl, rfl, rfl, by simp [mayB, inB]⟩
  | 3, _ => exact ⟨_, _, _, rfl, rfl, rfl, by simp [mayB, inB]⟩
  | 4, _ => exact ⟨_, _, _, rfl, rfl, rfl, by simp [mayB, inB]⟩
  | 5, _ => exact ⟨_, _, _, rfl, rfl, rfl, by simp [mayB, inB]⟩
structure FldAt (w wr : World) (q : Nat) (nl : List Int) (ol : List DM) (dv dn : Bool) : Prop where
  frm : Frm (fun _ => False) w wr
  vn : VecAt wr w.heap.size 40 (icells nl)
  vm : VecAt wr (w.heap.size + 1) 41 [.bool dv, .bool dn]
  vo : VecAt wr q 26 (ol.flatMap DM.cells)
  vx : VecAt wr (q + 1) 3 (icells mostL)
theorem FldAt.keep {w wr w' : World} {q : Nat} {nl : List Int} {ol : List DM} {dv dn : Bool} (h : FldAt w wr q nl ol dv dn) (hf : Frm (fun _ => False) wr w') : FldAt w w' q nl ol dv dn :=
  ⟨h.frm.trans hf, h.vn.keep hf, h.vm.keep hf, h.vo.keep hf, h.vx.keep hf⟩
set_option maxRecDepth 100000 in
set_option maxHeartbeats 8000000 in
theorem fields_c (w : World) (n0 n1 n2 n3 n4 n5 n6 gen : Int) (hg : 0 ≤ gen) (dv dn : Bool) :
    Calls Try.prog 6 #[.agg #[.int .i64 n0, .int .i64 n1, .int .i64 n2, .int .i64 n3, .int .i64 n4, .int .i64 n5, .int .i64 n6], .int .u64 gen, .agg #[.bool dv, .bool dn]] w fun e w' => e = .returned (.bool true) ∧ Frm (fun _ => False) w w' := by
  have HM := Lib.hid (ones_may n0 n1 n2 n3 n4 n5 n6)
  go_enter Try.func6, Try.ntmps6
  go_wp2_with fail
  refine (awake_c _).mono ?_
  rintro e w1 ⟨rfl, hf1⟩
  have V1 := ((VecAt.new w 40 (icells [n0, n1, n2, n3, n4, n5, n6])).alloc (.cells #[.bool dv, .bool dn] 41)).frm hf1 id
  have U1 := (VecAt.new (w.alloc (.cells (icells [n0, n1, n2, n3, n4, n5, n6]).toArray 40)) 41 [.bool dv, .bool dn]).frm hf1 id
  rw [World.size_alloc] at U1
  have HV1 := Lib.hid V1
  have HU1 := Lib.hid U1
  have HF1 := Lib.hid ((((Frm.refl (fun _ => False) w).alloc (.cells (icells [n0, n1, n2, n3, n4, n5, n6]).toArray 40)).alloc (.cells #[.bool dv, .bool dn] 41)).trans hf1)
  have s0 := V1.cell (i := 0) rfl
  have s1 := V1.cell (i := 1) rfl
  have s2 := V1.cell (i := 2) rfl
  have s3 := V1.cell (i := 3) rfl
  have s4 := V1.cell (i := 4) rfl
  have s5 := V1.cell (i := 5) rfl
  clear hf1 V1 U1
  go_wp2_with fail
  generalize hnl : [n0, n1, n2, n3, n4, n5, n6] = nl at *
  generalize hol : onesL n0 n1 n2 n3 n4 n5 = ol at *
  have HNL := Lib.hid hnl
  have HOL := Lib.hid hol
  clear hnl hol s0 s1 s2 s3 s4 s5
  go_loopw [9] (fun i wr => ∃ k : Nat, k ≤ 6 ∧ i = .int .i64 k ∧ FldAt w wr w1.heap.size nl ol dv dn) (fun i _ => 6 - (intOf i).toNat)
  case atStart =>
    refine ⟨0, by omega, rfl, (HF1.out.alloc _).alloc _, (HV1.out.alloc _).alloc _, (HU1.out.alloc _).alloc _, ?_, ?_⟩
    · rw [← HOL.out]; exact (VecAt.new w1 26 _).alloc _
    · have := VecAt.new (w1.alloc (.cells ((onesL n0 n1 n2 n3 n4 n5).flatMap DM.cells).toArray 26)) 3 (icells mostL)
      rw [World.size_alloc] at this
      exact this
  case round =>
    obtain ⟨k, hk, rfl, hA⟩ := hrel
    have HA := Lib.hid hA
    clear hA
    by_cases hlt : k < 6
    · have hd : decide ((k : Int) < 6) = true := by simp; omega
      obtain ⟨d, n, m, hd1, hn1, hm1, hmay⟩ := HM.out k hlt
      have T : Hid (∀ W, Calls Try.prog 11 #[.agg d.cells.toArray] W fun e w' => e = .returned (.bool (inB n m)) ∧ Frm (fun _ => False) W w') := Lib.hid fun W => hmay ▸ may_c W d
      have CC : Hid (∀ W, FldAt w W w1.heap.size nl ol dv dn → (∀ j v, d.cells[j]? = some v → W.cell? ⟨w1.heap.size, k * 9 + j, none⟩ = some v) ∧ W.cell? ⟨w.heap.size, k, none⟩ = some (.int .i64 n) ∧ W.cell? ⟨w1.heap.size + 1, k, none⟩ = some (.int .i64 m)) :=
        Lib.hid fun W h => ⟨fun j v hj => h.vo.cell (flatMap_get cells_len ol k d j v hd1 hj), h.vn.cell (icells_get hn1), h.vx.cell (icells_get hm1)⟩
      have e1 : (decide (0 ≤ n) = true ∧ decide (n ≤ m) = true ∧ inB n m = true) ∨ (decide (0 ≤ n) = true ∧ decide (n ≤ m) = false ∧ inB n m = false) ∨ (decide (0 ≤ n) = false ∧ inB n m = false) := by
        unfold inB
        by_cases h0 : 0 ≤ n
        · by_cases h1 : n ≤ m
          · exact .inl ⟨by simpa using h0, by simpa using h1, by simp [h0, h1]⟩
          · exact .inr (.inl ⟨by simpa using h0, by simpa using h1, by simp [h1]⟩)
        · exact .inr (.inr ⟨by simpa using h0, by simp [h0]⟩)
      clear hmay hd1 hn1 hm1
      obtain ⟨op, req, slot, gn, frm, len, device, done, status⟩ := d
      have CN : Hid (∀ W, FldAt w W w1.heap.size nl ol dv dn → (W.cell? ⟨w1.heap.size, k * 9, none⟩ = some (.int .i64 op) ∧ W.cell? ⟨w1.heap.size, k * 9 + 1, none⟩ = some (.int .i64 req) ∧ W.cell? ⟨w1.heap.size, k * 9 + 2, none⟩ = some (.int .i64 slot) ∧ W.cell? ⟨w1.heap.size, k * 9 + 3, none⟩ = some (.int .u64 gn) ∧ W.cell? ⟨w1.heap.size, k * 9 + 4, none⟩ = some (.int .i64 frm) ∧ W.cell? ⟨w1.heap.size, k * 9 + 5, none⟩ = some (.int .i64 len) ∧ W.cell? ⟨w1.heap.size, k * 9 + 6, none⟩ = some (.bool device) ∧ W.cell? ⟨w1.heap.size, k * 9 + 7, none⟩ = some (.bool done) ∧ W.cell? ⟨w1.heap.size, k * 9 + 8, none⟩ = some (.int .i64 status) ∧ W.cell? ⟨w.heap.size, k, none⟩ = some (.int .i64 n) ∧ W.cell? ⟨w1.heap.size + 1, k, none⟩ = some (.int .i64 m))) := Lib.hid fun W h => by
        obtain ⟨c, x, y⟩ := CC.out W h
        exact ⟨c 0 _ rfl, c 1 _ rfl, c 2 _ rfl, c 3 _ rfl, c 4 _ rfl, c 5 _ rfl, c 6 _ rfl, c 7 _ rfl, c 8 _ rfl, x, y⟩
      simp only [DM.cells] at T
      have A0 := Lib.hid (HA.out.keep (Frm.refl _ _).drew)
      have k0 : (0 : Int) ≤ (k : Int) := by omega
      have k6 : (k : Int) < 6 := by omega
      have k7 : (k : Int) < 7 := by omega
      clear CC
      generalize inB n m = bb at *
      rcases e1 with ⟨e1, e2, e3⟩ | ⟨e1, e2, e3⟩ | ⟨e1, e3⟩
      · subst e3
        go_wp2_with fail
        go_region_held3 (fun w' => w'.cell? ⟨w1.heap.size, k * 9, none⟩ = some (.int .i64 op) ∧ w'.cell? ⟨w1.heap.size, k * 9 + 1, none⟩ = some (.int .i64 req) ∧ w'.cell? ⟨w1.heap.size, k * 9 + 2, none⟩ = some (.int .i64 slot) ∧ w'.cell? ⟨w1.heap.size, k * 9 + 3, none⟩ = some (.int .u64 gn) ∧ w'.cell? ⟨w1.heap.size, k * 9 + 4, none⟩ = some (.int .i64 frm) ∧ w'.cell? ⟨w1.heap.size, k * 9 + 5, none⟩ = some (.int .i64 len) ∧ w'.cell? ⟨w1.heap.size, k * 9 + 6, none⟩ = some (.bool device) ∧ w'.cell? ⟨w1.heap.size, k * 9 + 7, none⟩ = some (.bool done) ∧ w'.cell? ⟨w1.heap.size, k * 9 + 8, none⟩ = some (.int .i64 status) ∧ w'.cell? ⟨w.heap.size, k, none⟩ = some (.int .i64 n) ∧ w'.cell? ⟨w1.heap.size + 1, k, none⟩ = some (.int .i64 m))
          (first | exact CN.out _ A0.out | exact CN.out _ A1.out | go_keep)
          ((go_at_call 11; (with_reducible refine (T.out _).mono ?_); rintro e w3 ⟨rfl, hf⟩; have A1 := Lib.hid (A0.out.keep hf); clear hf))
        go_wp2_with fail
        go_roundw
        case rel => exact ⟨k + 1, by omega, by go_num, A1.out⟩
        case measure => simp [intOf]; omega
      · subst e3
        go_wp2_with fail
        go_region_held3 (fun w' => w'.cell? ⟨w1.heap.size, k * 9, none⟩ = some (.int .i64 op) ∧ w'.cell? ⟨w1.heap.size, k * 9 + 1, none⟩ = some (.int .i64 req) ∧ w'.cell? ⟨w1.heap.size, k * 9 + 2, none⟩ = some (.int .i64 slot) ∧ w'.cell? ⟨w1.heap.size, k * 9 + 3, none⟩ = some (.int .u64 gn) ∧ w'.cell? ⟨w1.heap.size, k * 9 + 4, none⟩ = some (.int .i64 frm) ∧ w'.cell? ⟨w1.heap.size, k * 9 + 5, none⟩ = some (.int .i64 len) ∧ w'.cell? ⟨w1.heap.size, k * 9 + 6, none⟩ = some (.bool device) ∧ w'.cell? ⟨w1.heap.size, k * 9 + 7, none⟩ = some (.bool done) ∧ w'.cell? ⟨w1.heap.size, k * 9 + 8, none⟩ = some (.int .i64 status) ∧ w'.cell? ⟨w.heap.size, k, none⟩ = some (.int .i64 n) ∧ w'.cell? ⟨w1.heap.size + 1, k, none⟩ = some (.int .i64 m))
          (first | exact CN.out _ A0.out | exact CN.out _ A1.out | go_keep)
          ((go_at_call 11; (with_reducible refine (T.out _).mono ?_); rintro e w3 ⟨rfl, hf⟩; have A1 := Lib.hid (A0.out.keep hf); clear hf))
        go_wp2_with fail
        go_roundw
        case rel => exact ⟨k + 1, by omega, by go_num, A1.out⟩
        case measure => simp [intOf]; omega
      · subst e3
        go_wp2_with fail
        refine wp_region_held_drew (S := (fun w' => w'.cell? ⟨w1.heap.size, k * 9, none⟩ = some (.int .i64 op) ∧ w'.cell? ⟨w1.heap.size, k * 9 + 1, none⟩ = some (.int .i64 req) ∧ w'.cell? ⟨w1.heap.size, k * 9 + 2, none⟩ = some (.int .i64 slot) ∧ w'.cell? ⟨w1.heap.size, k * 9 + 3, none⟩ = some (.int .u64 gn) ∧ w'.cell? ⟨w1.heap.size, k * 9 + 4, none⟩ = some (.int .i64 frm) ∧ w'.cell? ⟨w1.heap.size, k * 9 + 5, none⟩ = some (.int .i64 len) ∧ w'.cell? ⟨w1.heap.size, k * 9 + 6, none⟩ = some (.bool device) ∧ w'.cell? ⟨w1.heap.size, k * 9 + 7, none⟩ = some (.bool done) ∧ w'.cell? ⟨w1.heap.size, k * 9 + 8, none⟩ = some (.int .i64 status) ∧ w'.cell? ⟨w.heap.size, k, none⟩ = some (.int .i64 n) ∧ w'.cell? ⟨w1.heap.size + 1, k, none⟩ = some (.int .i64 m))) (by kernel_rfl) (CN.out _ A0.out) (fun hHeld => ?_)
        refine wpAnyH_take (i := 0) (oi := { dst := some 40, op := Op.move (Operand.tmp 7), type := 42, pos := "outright.go:17", after := #[], guard := none }) (v := ?v0) rfl (by kernel_rfl) (by kernel_rfl) (by kernel_rfl) (fun _ _ _ h => h) (Or.inl ⟨by rfl, ?hy0⟩) (by assumption) ?rest0
        case hy0 => (intro w hSw; (try dsimp only at hSw); go_simp); (try with_reducible rfl)
        (try simp only [Act.put]); (try simp only [List.setIfInBounds_toArray]); (try simp only [List.set_cons_succ]); (try simp only [List.set_cons_zero])
        refine wpAnyH_take (i := 1) (oi := { dst := some 41, op := Op.move (Operand.tmp 9), type := 3, pos := "outright.go:17", after := #[], guard := none }) (v := ?v1) rfl (by kernel_rfl) (by kernel_rfl) (by kernel_rfl) (fun _ _ _ h => h) (Or.inl ⟨by rfl, ?hy1⟩) (by assumption) ?rest1
        case hy1 => (intro w hSw; (try dsimp only at hSw); go_simp); (try with_reducible rfl)
        (try simp only [Act.put]); (try simp only [List.setIfInBounds_toArray]); (try simp only [List.set_cons_succ]); (try simp only [List.set_cons_zero])
        refine wpAnyH_take (i := 2) (oi := { dst := some 42, op := Op.indexAddr 42 (Operand.tmp 40) (Operand.tmp 41), type := 0, pos := "outright.go:17", after := #[{ on := 0, ground := Ground.data }, { on := 1, ground := Ground.data }], guard := none }) (v := ?v2) rfl (by kernel_rfl) (by kernel_rfl) (by kernel_rfl) (fun _ _ _ h => h) (Or.inl ⟨by rfl, ?hy2⟩) (by assumption) ?rest2
        case hy2 => (intro w hSw; (try dsimp only at hSw); go_simp); (try with_reducible rfl)
        (try simp only [Act.put]); (try simp only [List.setIfInBounds_toArray]); (try simp only [List.set_cons_succ]); (try simp only [List.set_cons_zero])
        refine wpAnyH_take (i := 3) (oi := { dst := some 43, op := Op.load 26 (Operand.tmp 42), type := 26, pos := "outright.go:17", after := #[{ on := 2, ground := Ground.data }], guard := none }) (v := ?v3) rfl (by kernel_rfl) (by kernel_rfl) (by kernel_rfl) (fun _ _ _ h => h) (Or.inl ⟨by rfl, ?hy3⟩) (by assumption) ?rest3
        case hy3 => (intro w hSw; (try dsimp only at hSw); go_simp); (try with_reducible rfl)
        (try simp only [Act.put]); (try simp only [List.setIfInBounds_toArray]); (try simp only [List.set_cons_succ]); (try simp only [List.set_cons_zero])
        refine wpAnyH_take (i := 5) (oi := { dst := some 45, op := Op.move (Operand.tmp 9), type := 3, pos := "outright.go:17", after := #[], guard := none }) (v := ?v5) rfl (by kernel_rfl) (by kernel_rfl) (by kernel_rfl) (fun _ _ _ h => h) (Or.inl ⟨by rfl, ?hy5⟩) (by assumption) ?rest5
        case hy5 => (intro w hSw; (try dsimp only at hSw); go_simp); (try with_reducible rfl)
        (try simp only [Act.put]); (try simp only [List.setIfInBounds_toArray]); (try simp only [List.set_cons_succ]); (try simp only [List.set_cons_zero])
        refine wpAnyH_take (i := 6) (oi := { dst := some 46, op := Op.indexAddr 40 (Operand.tmp 3) (Operand.tmp 45), type := 0, pos := "outright.go:17", after := #[{ on := 5, ground := Ground.data }], guard := none }) (v := ?v6) rfl (by kernel_rfl) (by kernel_rfl) (by kernel_rfl) (fun _ _ _ h => h) (Or.inl ⟨by rfl, ?hy6⟩) (by assumption) ?rest6
        case hy6 => (intro w hSw; (try dsimp only at hSw); go_simp); (try with_reducible rfl)
        (try simp only [Act.put]); (try simp only [List.setIfInBounds_toArray]); (try simp only [List.set_cons_succ]); (try simp only [List.set_cons_zero])
        refine wpAnyH_take (i := 7) (oi := { dst := some 47, op := Op.load 3 (Operand.tmp 46), type := 3, pos := "outright.go:17", after := #[{ on := 6, ground := Ground.data }], guard := none }) (v := ?v7) rfl (by kernel_rfl) (by kernel_rfl) (by kernel_rfl) (fun _ _ _ h => h) (Or.inl ⟨by rfl, ?hy7⟩) (by assumption) ?rest7
        case hy7 => (intro w hSw; (try dsimp only at hSw); go_simp); (try with_reducible rfl)
        (try simp only [Act.put]); (try simp only [List.setIfInBounds_toArray]); (try simp only [List.set_cons_succ]); (try simp only [List.set_cons_zero])
        refine wpAnyH_take (i := 8) (oi := { dst := some 48, op := Op.binOp BinOp.geq 3 (Operand.tmp 47) (Operand.const (Value.int IntKind.i64 0)) 3, type := 4, pos := "outright.go:17", after := #[{ on := 7, ground := Ground.data }], guard := none }) (v := ?v8) rfl (by kernel_rfl) (by kernel_rfl) (by kernel_rfl) (fun _ _ _ h => h) (Or.inl ⟨by rfl, ?hy8⟩) (by assumption) ?rest8
        case hy8 => (intro w hSw; (try dsimp only at hSw); go_simp); (try with_reducible rfl)
        (try simp only [Act.put]); (try simp only [List.setIfInBounds_toArray]); (try simp only [List.set_cons_succ]); (try simp only [List.set_cons_zero])
        refine wpAnyH_ready (rs := [4]) (by kernel_rfl) (by simp) ?_
        refine AllReadyH.cons (o := { dst := some 44, op := Op.call { callee := Callee.value (Operand.func 11), args := #[Operand.tmp 43], argTypes := #[26] }, type := 4, pos := "outright.go:17", after := #[{ on := 3, ground := Ground.data }], guard := none }) rfl (fun K hK => ?_) AllReadyH.nil
        go_simp
        refine (T.out _).mono ?_; rintro e w3 ⟨rfl, hf⟩; have A1 := Lib.hid (A0.out.keep hf); clear hf
        try go_wp2_with fail
        refine Shut.out hK _ _ (CN.out _ A1.out) (fun hHeld => ?_)
        clear hK K
        (try simp only [Act.put]); (try simp only [List.setIfInBounds_toArray]); (try simp only [List.set_cons_succ]); (try simp only [List.set_cons_zero])
        refine wpAnyH_take (i := 9) (oi := { dst := some 49, op := Op.move (Operand.tmp 48), type := 4, pos := "outright.go:17", after := #[{ on := 8, ground := Ground.data }, { on := 4, ground := Ground.chain }], guard := none }) (v := ?v9) rfl (by kernel_rfl) (by kernel_rfl) (by kernel_rfl) (fun _ _ _ h => h) (Or.inl ⟨by rfl, ?hy9⟩) (by assumption) ?rest9
        case hy9 => (intro w hSw; (try dsimp only at hSw); go_simp); (try with_reducible rfl)
        (try simp only [Act.put]); (try simp only [List.setIfInBounds_toArray]); (try simp only [List.set_cons_succ]); (try simp only [List.set_cons_zero])
        refine wpAnyH_take (i := 10) (oi := { dst := some 50, op := Op.move (Operand.tmp 9), type := 3, pos := "outright.go:17", after := #[{ on := 9, ground := Ground.guard }], guard := some (9, true) }) (v := undef) rfl (by kernel_rfl) (by kernel_rfl) (by kernel_rfl) (fun _ _ _ h => h) (Or.inr ⟨by rfl, rfl⟩) (by assumption) ?_
        (try simp only [Act.put]); (try simp only [List.setIfInBounds_toArray]); (try simp only [List.set_cons_succ]); (try simp only [List.set_cons_zero])
        refine wpAnyH_take (i := 13) (oi := { dst := some 53, op := Op.move (Operand.tmp 8), type := 43, pos := "outright.go:17", after := #[{ on := 9, ground := Ground.guard }], guard := some (9, true) }) (v := undef) rfl (by kernel_rfl) (by kernel_rfl) (by kernel_rfl) (fun _ _ _ h => h) (Or.inr ⟨by rfl, rfl⟩) (by assumption) ?_
        (try simp only [Act.put]); (try simp only [List.setIfInBounds_toArray]); (try simp only [List.set_cons_succ]); (try simp only [List.set_cons_zero])
        refine wpAnyH_take (i := 14) (oi := { dst := some 54, op := Op.move (Operand.tmp 9), type := 3, pos := "outright.go:17", after := #[{ on := 9, ground := Ground.guard }], guard := some (9, true) }) (v := undef) rfl (by kernel_rfl) (by kernel_rfl) (by kernel_rfl) (fun _ _ _ h => h) (Or.inr ⟨by rfl, rfl⟩) (by assumption) ?_
        (try simp only [Act.put]); (try simp only [List.setIfInBounds_toArray]); (try simp only [List.set_cons_succ]); (try simp only [List.set_cons_zero])
        refine wpAnyH_take (i := 11) (oi := { dst := some 51, op := Op.indexAddr 40 (Operand.tmp 3) (Operand.tmp 50), type := 0, pos := "outright.go:17", after := #[{ on := 10, ground := Ground.data }, { on := 9, ground := Ground.guard }], guard := some (9, true) }) (v := undef) rfl (by kernel_rfl) (by kernel_rfl) (by kernel_rfl) (fun _ _ _ h => h) (Or.inr ⟨by rfl, rfl⟩) (by assumption) ?_
        (try simp only [Act.put]); (try simp only [List.setIfInBounds_toArray]); (try simp only [List.set_cons_succ]); (try simp only [List.set_cons_zero])
        refine wpAnyH_take (i := 12) (oi := { dst := some 52, op := Op.load 3 (Operand.tmp 51), type := 3, pos := "outright.go:17", after := #[{ on := 11, ground := Ground.data }, { on := 9, ground := Ground.guard }], guard := some (9, true) }) (v := undef) rfl (by kernel_rfl) (by kernel_rfl) (by kernel_rfl) (fun _ _ _ h => h) (Or.inr ⟨by rfl, rfl⟩) (by assumption) ?_
        (try simp only [Act.put]); (try simp only [List.setIfInBounds_toArray]); (try simp only [List.set_cons_succ]); (try simp only [List.set_cons_zero])
        refine wpAnyH_take (i := 15) (oi := { dst := some 55, op := Op.indexAddr 43 (Operand.tmp 53) (Operand.tmp 54), type := 0, pos := "outright.go:17", after := #[{ on := 13, ground := Ground.data }, { on := 14, ground := Ground.data }, { on := 9, ground := Ground.guard }], guard := some (9, true) }) (v := undef) rfl (by kernel_rfl) (by kernel_rfl) (by kernel_rfl) (fun _ _ _ h => h) (Or.inr ⟨by rfl, rfl⟩) (by assumption) ?_
        (try simp only [Act.put]); (try simp only [List.setIfInBounds_toArray]); (try simp only [List.set_cons_succ]); (try simp only [List.set_cons_zero])
        refine wpAnyH_take (i := 16) (oi := { dst := some 56, op := Op.load 3 (Operand.tmp 55), type := 3, pos := "outright.go:17", after := #[{ on := 15, ground := Ground.data }, { on := 9, ground := Ground.guard }], guard := some (9, true) }) (v := undef) rfl (by kernel_rfl) (by kernel_rfl) (by kernel_rfl) (fun _ _ _ h => h) (Or.inr ⟨by rfl, rfl⟩) (by assumption) ?_
        (try simp only [Act.put]); (try simp only [List.setIfInBounds_toArray]); (try simp only [List.set_cons_succ]); (try simp only [List.set_cons_zero])
        refine wpAnyH_take (i := 17) (oi := { dst := some 57, op := Op.binOp BinOp.leq 3 (Operand.tmp 52) (Operand.tmp 56) 3, type := 4, pos := "outright.go:17", after := #[{ on := 12, ground := Ground.data }, { on := 16, ground := Ground.data }, { on := 9, ground := Ground.guard }], guard := some (9, true) }) (v := undef) rfl (by kernel_rfl) (by kernel_rfl) (by kernel_rfl) (fun _ _ _ h => h) (Or.inr ⟨by rfl, rfl⟩) (by assumption) ?_
        (try simp only [Act.put]); (try simp only [List.setIfInBounds_toArray]); (try simp only [List.set_cons_succ]); (try simp only [List.set_cons_zero])
        refine wpAnyH_take (i := 18) (oi := _) (v := ?v18) rfl (by kernel_rfl) (by kernel_rfl) (by kernel_rfl) (fun _ _ _ h => h) (Or.inl ⟨by rfl, ?hy18⟩) (by assumption) ?rest18
        case hy18 => (intro w hSw; (try dsimp only at hSw); go_simp); (try with_reducible rfl)
        (try simp only [Act.put]); (try simp only [List.setIfInBounds_toArray]); (try simp only [List.set_cons_succ]); (try simp only [List.set_cons_zero])
        refine wpAnyH_take (i := 19) (oi := _) (v := ?v19) rfl (by kernel_rfl) (by kernel_rfl) (by kernel_rfl) (fun _ _ _ h => h) (Or.inl ⟨by rfl, ?hy19⟩) (by assumption) ?rest19
        case hy19 => (intro w hSw; (try dsimp only at hSw); go_simp); (try with_reducible rfl)
        (try simp only [Act.put]); (try simp only [List.setIfInBounds_toArray]); (try simp only [List.set_cons_succ]); (try simp only [List.set_cons_zero])
        refine wpAnyH_done (by kernel_rfl) ?_ _
        go_wp2_with fail
        go_roundw
        case rel => exact ⟨k + 1, by omega, by go_num, A1.out⟩
        case measure => simp [intOf]; omega
    · have hd : decide ((k : Int) < 6) = false := by simp; omega
      have T1 : Hid (∀ W, Calls Try.prog 11 #[.agg #[.int .i64 0, .int .i64 0, .int .i64 0, .int .u64 gen, .int .i64 0, .int .i64 0, .bool false, .bool false, .int .i64 0]] W fun e w' => e = .returned (.bool (decide (gen < 4294967296))) ∧ Frm (fun _ => False) W w') := Lib.hid fun W => by
        have := may_c W ⟨0, 0, 0, gen, 0, 0, false, false, 0⟩
        rwa [show mayB ⟨0, 0, 0, gen, 0, 0, false, false, 0⟩ = decide (gen < 4294967296) by simp [mayB, inB]; omega] at this
      have T2 : Hid (∀ W, Calls Try.prog 11 #[.agg #[.int .i64 0, .int .i64 0, .int .i64 0, .int .u64 0, .int .i64 0, .int .i64 0, .bool false, .bool false, .int .i64 n6]] W fun e w' => e = .returned (.bool (n6 == 0)) ∧ Frm (fun _ => False) W w') := Lib.hid fun W => by
        have := may_c W ⟨0, 0, 0, 0, 0, 0, false, false, n6⟩
        rwa [show mayB ⟨0, 0, 0, 0, 0, 0, false, false, n6⟩ = (n6 == 0) by rw [Bool.eq_iff_iff]; simp [mayB, inB]; omega] at this
      have C6 : Hid (∀ W, FldAt w W w1.heap.size nl ol dv dn → W.cell? ⟨w.heap.size, 6, none⟩ = some (.int .i64 n6)) := Lib.hid fun W h => h.vn.cell (icells_get (by rw [← HNL.out]; rfl))
      generalize hgg : decide (gen < 4294967296) = g at *
      generalize hnn : (n6 == 0) = z at *
      have A0 := Lib.hid (HA.out.keep (Frm.refl _ _).drew)
      go_upto_region 10 with (fail)
      go_cut [76] (fun s wx => s = .bool false ∧ FldAt w wx w1.heap.size nl ol dv dn)
      case first =>
        cases g <;> cases z
        all_goals
          go_region_held3 (fun w' => w'.cell? ⟨w.heap.size, 6, none⟩ = some (.int .i64 n6))
            (first | exact C6.out _ A0.out | exact C6.out _ A1.out | exact C6.out _ A2.out | go_keep)
            (first
              | (go_at_call 11; (with_reducible refine (T1.out _).mono ?_); rintro e w3 ⟨rfl, hf⟩; have A1 := Lib.hid (A0.out.keep hf); clear hf)
              | (go_at_call 11; (with_reducible refine (T2.out _).mono ?_); rintro e w4 ⟨rfl, hf⟩; have A2 := Lib.hid (A1.out.keep hf); clear hf))
          go_wp2_with fail
          go_meet
          exact ⟨rfl, A2.out⟩
      case rest =>
        obtain ⟨rfl, hB⟩ := hcut
        have m0 := hB.vm.cell (i := 0) rfl
        have m1 := hB.vm.cell (i := 1) rfl
        have HB := Lib.hid hB
        have T3 := bytes_yes wc ⟨0, 0, 0, 0, 0, 0, dv, dn, 0⟩ (by simp [mayB, inB]) (Int.le_refl 0)
        have hrb := read_back (d := ⟨0, 0, 0, 0, 0, 0, dv, dn, 0⟩) (by simp [mayB, inB]) (Int.le_refl 0)
        have hfb : (encB ⟨0, 0, 0, 0, 0, 0, dv, dn, 0⟩)[0]? = some ((if dv then 16 else 0) + (if dn then 32 else 0)) := by cases dv <;> cases dn <;> rfl
        have hlt := encB_lt ⟨0, 0, 0, 0, 0, 0, dv, dn, 0⟩
        have hl20 := encB_len ⟨0, 0, 0, 0, 0, 0, dv, dn, 0⟩
        generalize encB ⟨0, 0, 0, 0, 0, 0, dv, dn, 0⟩ = L at *
        simp only [DM.cells] at T3
        have HT3 := Lib.hid T3
        have HRB := Lib.hid hrb
        have HFB := Lib.hid hfb
        have HLT := Lib.hid hlt
        have H20 := Lib.hid hl20
        clear T3 hrb hfb hlt hl20 hB hgg hnn C6 T1 T2 A0 HA
        go_wp2_with fail
        refine HT3.out.mono ?_
        rintro e w5 ⟨v5, rfl, ho5, hf5⟩
        obtain ⟨A5, c5, hv5, hb5, hc5, _, _, hg5⟩ := ho5.open2 HLT.out
        obtain ⟨q, rfl⟩ := hg5 (by rw [H20.out]; decide)
        have T4 := from_c w5 _ c5 L hb5 hc5
        rw [H20.out] at hv5 T4
        subst hv5
        rw [HRB.out] at T4
        simp only [DM.cells] at T4
        have HT4 := Lib.hid T4
        have B5 := Lib.hid (HB.out.keep hf5)
        have O5 := Lib.hid ho5
        clear T4 hf5 ho5 hb5 hc5 hg5 HT3 HB m0 m1
        go_wp2_with fail
        refine HT4.out.mono ?_
        rintro e w6 ⟨rfl, hf6⟩
        have B6 := Lib.hid ((B5.out.keep hf6).keep ((Frm.refl _ _).alloc (.cells #[.int .i64 0, .int .i64 0, .int .i64 0, .int .u64 0, .int .i64 0, .int .i64 0, .bool dv, .bool dn, .int .i64 0] 26)))
        have V6 := Lib.hid (VecAt.new w6 26 (DM.cells ⟨0, 0, 0, 0, 0, 0, dv, dn, 0⟩))
        have O6 := Lib.hid ((O5.out.frm hf6 (fun _ _ => id)).alloc (.cells #[.int .i64 0, .int .i64 0, .int .i64 0, .int .u64 0, .int .i64 0, .int .i64 0, .bool dv, .bool dn, .int .i64 0] 26))
        have m0 := B6.out.vm.cell (i := 0) rfl
        have m1 := B6.out.vm.cell (i := 1) rfl
        have x5 := V6.out.cell (i := 6) rfl
        have x6 := V6.out.cell (i := 7) rfl
        have b0 := (O6.out.cell H20.out HFB.out).1
        clear hf6
        cases dv <;> cases dn
        all_goals
          simp only at b0 m0 m1 x5 x6
          simp at b0
          go_wp2_with fail
          go_quiet (fail)
          go_wp2_with fail
          go_ret
          exact ⟨rfl, B6.out.frm.drewN _⟩
end Go.Proofs.Ytkmgdfcpfdnkfaa
