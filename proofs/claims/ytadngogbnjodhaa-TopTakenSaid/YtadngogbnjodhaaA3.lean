/- The queue: at most task 0 stands in it, in the row of its urgency. -/
import Derived.Test.YtadngogbnjodhaaA2
import Derived.Deep.RegionLaw
import Derived.Lib.SliceRun
namespace Go.Proofs.Ytadngogbnjodhaa
open Go.RowKit
theorem own_frm {S : Nat → Prop} {w w' : World} {base n : Nat} {e : TypeId} {size : Nat} {v : Value} {xs : List Value} (h : w.ownsRow base e size v n xs) (hf : Frm S w w') (hs : ∀ k, v.ownBlock = some k → ¬ S k) : w'.ownsRow base e size v n xs := by
  refine ⟨h.1, ?_⟩
  rcases h.2 with h | ⟨k, cap, cur, rfl, hk, hh, hr⟩
  · exact .inl h
  · exact .inr ⟨k, cap, cur, rfl, hk, hf.blk hh (hs k rfl), hr⟩
theorem own_blk {w : World} {base n : Nat} {e : TypeId} {size : Nat} {v : Value} {xs : List Value} (h : w.ownsRow base e size v n xs) {k : Nat} (hk : v.ownBlock = some k) : ∃ cur, w.heap[k]? = some (.cells cur e (0, 0)) := by
  rcases h.2 with ⟨rfl, _⟩ | ⟨g, cap, cur, rfl, _, hh, _⟩
  · simp [Value.ownBlock] at hk
  · have : g = k := by simpa [Value.ownBlock] using hk
    subst this
    exact ⟨cur, hh⟩
theorem own_form {w : World} {base n : Nat} {e : TypeId} {size : Nat} {v : Value} {xs : List Value} (h : w.ownsRow base e size v n xs) (hn : 0 < n) : ∃ g cap, v = .slice (some ⟨g, 0, none⟩) n cap ∧ g < w.heap.size ∧ n ≤ cap := by
  rcases h.2 with ⟨_, h0⟩ | ⟨g, cap, cur, rfl, _, hh, hc, _⟩
  · omega
  · exact ⟨g, cap, rfl, lt_of_block hh, hc⟩
def cntB : Bool → Nat
  | true => 1
  | false => 0
def xsB : Bool → List Value
  | true => [.int .i64 0]
  | false => []
structure QAt (w : World) (q P : Nat) (v : Value) (full : Bool) : Prop where
  str : VecAt w q 76 (vals 101 fun j => if j = P then v else .slice none 0 0)
  own : w.ownsRow 0 3 1 v (cntB full) (xsB full)
  hP : P < 101
section
variable {w : World} {q P : Nat} {v : Value} {full : Bool}
theorem QAt.cell (h : QAt w q P v full) {j : Nat} (hj : j < 101) : w.cell? ⟨q, j, none⟩ = some (if j = P then v else .slice none 0 0) := h.str.cell (vals_get hj _)
theorem QAt.ne (h : QAt w q P v full) : v.ownBlock ≠ some q := by
  intro e
  obtain ⟨cur, hc⟩ := own_blk h.own e
  have := h.str
  unfold VecAt at this
  rw [this] at hc; simp at hc
theorem QAt.frm {S : Nat → Prop} {w' : World} (h : QAt w q P v full) (hf : Frm S w w') (h1 : ¬ S q) (h2 : ∀ k, v.ownBlock = some k → ¬ S k) : QAt w' q P v full := ⟨h.str.frm hf h1, own_frm h.own hf h2, h.hP⟩
theorem QAt.keep {w' : World} (h : QAt w q P v full) (hf : Frm (fun _ => False) w w') : QAt w' q P v full := h.frm hf id (fun _ _ => id)
theorem QAt.put {v' : Value} {f : Bool} (hs : VecAt w q 76 (vals 101 fun j => if j = P then v else .slice none 0 0)) (ho : w.ownsRow 0 3 1 v' (cntB f) (xsB f)) (hP : P < 101) : QAt (w.setCell ⟨q, P, none⟩ v') q P v' f := by
  refine ⟨?_, own_frm ho ((Frm.refl (fun k => k = q) w).setCell (p := ⟨q, P, none⟩) (.inl rfl) v') (fun k hk e => ?_), hP⟩
  · have := hs.set P v'
    rw [vals_set] at this
    refine cast ?_ this
    congr 1
    exact vals_congr fun j _ => by split <;> rfl
  · subst e
    obtain ⟨cur, hc⟩ := own_blk ho hk
    unfold VecAt at hs
    rw [hs] at hc; simp at hc
theorem index_n (w : World) (A : Option Addr) (c : Nat) (x : Value) : Calls Try.prog 48 #[.slice A 0 c, x] w fun e w' => e = .returned (.int .i64 (-1)) ∧ w' = w := by
  go_enter Try.func48, Try.ntmps48
  go_wp2_with fail
  go_loopw [8] (fun i wr => i = .int .i64 0 ∧ wr = w) (fun _ _ => 0)
  case atStart => exact ⟨rfl, rfl⟩
  case round =>
    obtain ⟨rfl, rfl⟩ := hrel
    go_wp2_with fail
    go_ret
    exact ⟨rfl, rfl⟩
theorem index_1 (w : World) (g c : Nat) (h : w.cell? ⟨g, 0, none⟩ = some (.int .i64 0)) : Calls Try.prog 48 #[.slice (some ⟨g, 0, none⟩) 1 c, .int .i64 0] w fun e w' => e = .returned (.int .i64 0) ∧ w' = w := by
  go_enter Try.func48, Try.ntmps48
  go_wp2_with fail
  go_loopw [8] (fun i wr => i = .int .i64 0 ∧ wr = w) (fun _ _ => 0)
  case atStart => exact ⟨rfl, rfl⟩
  case round =>
    obtain ⟨rfl, rfl⟩ := hrel
    go_wp2_with fail
    go_ret
    exact ⟨rfl, rfl⟩
theorem contains_n (w : World) (A : Option Addr) (c : Nat) (x : Value) : Calls Try.prog 42 #[.slice A 0 c, x] w fun e w' => e = .returned (.bool false) ∧ w' = w := by
  go_enter Try.func42, Try.ntmps42
  go_wp2_with fail
  with_reducible refine (index_n w A c x).mono ?_
  rintro e w1 ⟨rfl, rfl⟩
  go_wp2_with fail
  go_ret
  exact ⟨rfl, rfl⟩
theorem contains_1 (w : World) (g c : Nat) (h : w.cell? ⟨g, 0, none⟩ = some (.int .i64 0)) : Calls Try.prog 42 #[.slice (some ⟨g, 0, none⟩) 1 c, .int .i64 0] w fun e w' => e = .returned (.bool true) ∧ w' = w := by
  have H := Lib.hid (index_1 w g c h)
  clear h
  go_enter Try.func42, Try.ntmps42
  go_wp2_with fail
  with_reducible refine H.out.mono ?_
  rintro e w1 ⟨rfl, rfl⟩
  go_wp2_with fail
  go_ret
  exact ⟨rfl, rfl⟩
theorem QAt.row (h : QAt w q P v full) : Calls Try.prog 42 #[v, .int .i64 0] w fun e w' => e = .returned (.bool full) ∧ w' = w := by
  cases full with
  | false =>
    obtain ⟨A, c, rfl⟩ := own_slice h.own
    exact contains_n w A c _
  | true =>
    obtain ⟨g, c, rfl, hg, hc⟩ := own_form h.own (by decide)
    refine contains_1 w g c ?_
    have := h.own.cellAt 0 (by decide)
    rw [this]; rfl
theorem prio_c (h : QAt w q P v full) : Calls Try.prog 31 #[.pointer (some ⟨q, 0, none⟩), .int .i64 0] w fun e w' => e = .returned (.tuple #[.int .i64 (if full = true then (P : Int) else 0), .bool full]) ∧ w' = w := by
  have hP := h.hP
  have HR := Lib.hid h.row
  have HC := Lib.hid (fun j hj => h.cell (j := j) hj)
  clear h
  go_enter Try.func31, Try.ntmps31
  go_wp2_with fail
  go_loopw [7] (fun i wr => ∃ k : Nat, k ≤ 101 ∧ i = .int .i64 k ∧ wr = w ∧ (full = true → k ≤ P)) (fun i _ => 101 - (intOf i).toNat)
  case atStart => exact ⟨0, by omega, rfl, rfl, fun _ => by omega⟩
  case round =>
    obtain ⟨k, hk, rfl, rfl, hkP⟩ := hrel
    by_cases hlt : k < 101
    · have e1 : decide ((k : Int) < 101) = true := by simp; omega
      have x0 := HC.out k hlt
      have hlt2 : (k : Int) < 101 := by omega
      by_cases hkp : k = P
      · subst hkp
        rw [if_pos rfl] at x0
        cases full
        · clear hkP
          go_wp2_with fail
          with_reducible refine HR.out.mono ?_
          rintro e w1 ⟨rfl, rfl⟩
          go_wp2_with fail
          go_roundw
          case rel => exact ⟨k + 1, by omega, by go_num, trivial, fun h => by cases h⟩
          case measure => simp [intOf]; omega
        · clear hkP
          go_wp2_with fail
          with_reducible refine HR.out.mono ?_
          rintro e w1 ⟨rfl, rfl⟩
          go_wp2_with fail
          go_ret2
          exact ⟨rfl, rfl⟩
      · rw [if_neg hkp] at x0
        have HKP : Hid (full = true → k + 1 ≤ P) := Lib.hid (fun h => by have := hkP h; omega)
        clear hkP
        go_wp2_with fail
        with_reducible refine (contains_n wr none 0 _).mono ?_
        rintro e w1 ⟨rfl, rfl⟩
        go_wp2_with fail
        go_roundw
        case rel => exact ⟨k + 1, by omega, by go_num, trivial, HKP.out⟩
        case measure => simp [intOf]; omega
    · have e1 : decide ((k : Int) < 101) = false := by simp; omega
      obtain rfl : k = 101 := by omega
      cases full
      · go_wp2_with fail
        go_ret2
        exact ⟨rfl, rfl⟩
      · have := hkP rfl
        omega
theorem first_c (h : QAt w q P v full) : Calls Try.prog 34 #[.pointer (some ⟨q, 0, none⟩)] w fun e w' => e = .returned (.tuple #[.int .i64 0, .int .i64 (if full = true then (P : Int) else 0), .int .i64 (if full = true then 0 else 5)]) ∧ w' = w := by
  have hP := h.hP
  have HC := Lib.hid (fun j hj => h.cell (j := j) hj)
  have HO := Lib.hid h.own
  clear h
  go_enter Try.func34, Try.ntmps34
  go_wp2_with fail
  go_loopw [6] (fun i wr => ∃ k : Nat, k ≤ 101 ∧ i = .int .i64 k ∧ wr = w ∧ (full = true → k ≤ P)) (fun i _ => 101 - (intOf i).toNat)
  case atStart => exact ⟨0, by omega, rfl, rfl, fun _ => by omega⟩
  case round =>
    obtain ⟨k, hk, rfl, rfl, hkP⟩ := hrel
    by_cases hlt : k < 101
    · have e1 : decide ((k : Int) < 101) = true := by simp; omega
      have x0 := HC.out k hlt
      have hlt2 : (k : Int) < 101 := by omega
      by_cases hkp : k = P
      · subst hkp
        rw [if_pos rfl] at x0
        cases full
        · obtain ⟨A, c, rfl⟩ := own_slice HO.out
          simp only [cntB] at x0
          clear hkP
          go_wp2_with fail
          go_roundw
          case rel => exact ⟨k + 1, by omega, by go_num, trivial, fun h => by cases h⟩
          case measure => simp [intOf]; omega
        · obtain ⟨g, c, rfl, hg, hc⟩ := own_form HO.out (by decide)
          have x1 := HO.out.cellAt 0 (by decide)
          simp only [cntB] at x0
          simp [xsB] at x1
          clear hkP
          go_wp2_with fail
          go_ret3
          exact ⟨rfl, rfl⟩
      · rw [if_neg hkp] at x0
        have HKP : Hid (full = true → k + 1 ≤ P) := Lib.hid (fun h => by have := hkP h; omega)
        clear hkP
        go_wp2_with fail
        go_roundw
        case rel => exact ⟨k + 1, by omega, by go_num, trivial, HKP.out⟩
        case measure => simp [intOf]; omega
    · have e1 : decide ((k : Int) < 101) = false := by simp; omega
      obtain rfl : k = 101 := by omega
      cases full
      · go_wp2_with fail
        go_ret3
        exact ⟨rfl, rfl⟩
      · have := hkP rfl
        omega
theorem qmay_c (w : World) {P : Nat} (hP : P < 101) : Calls Try.prog 30 #[.int .i64 0, .int .i64 P] w fun e w' => e = .returned (.bool true) ∧ w' = w := by
  have e1 : decide ((P : Int) < 101) = true := by simp; omega
  go_enter Try.func30, Try.ntmps30
  go_wp2_with fail
  go_ret
  exact ⟨rfl, rfl⟩
theorem info76 : (Try.prog.info? 76).map (fun i => i.zero) = some (some (.agg (vals 101 fun _ => .slice none 0 0).toArray)) := by kernel_rfl
theorem zero76 (w : World) : (zeroValue 76).run Try.prog w = .ok (.agg (vals 101 fun _ => .slice none 0 0).toArray) w := by
  have h := info76
  cases hi : Try.prog.info? 76 with
  | none => rw [hi] at h; cases h
  | some i =>
    rw [hi] at h
    simp only [Option.map_some, Option.some.injEq] at h
    simp [zeroValue, typeInfo, hi, h]
set_option maxRecDepth 100000 in
theorem qnew_c (w : World) (hP : P < 101) : Calls Try.prog 14 #[] w fun e w' => e = .returned (.pointer (some ⟨w.heap.size, 0, none⟩)) ∧ QAt w' w.heap.size P (.slice none 0 0) false ∧ Frm (fun _ => False) w w' := by
  have hz := zero76
  generalize hL : vals 101 (fun _ => Value.slice none 0 0) = L at hz
  have HL := Lib.hid hL
  clear hL
  go_enter Try.func14, Try.ntmps14
  go_wp2_with fail
  go_ret
  refine ⟨rfl, ⟨?_, World.ownsRow_nil _ _ _ _, hP⟩, (Frm.refl _ _).alloc _⟩
  have h := VecAt.new w 76 L
  rw [← HL.out] at h ⊢
  refine cast ?_ h
  congr 1
  exact vals_congr fun j _ => by split <;> rfl
theorem info3 : (Try.prog.info? 3).map (fun i => (i.zero, i.size, i.bytes)) = some (some (.int .i64 0), 1, 8) := by kernel_rfl
theorem info_parts {o : Option TypeInfo} {z : Value} {s b : Nat} (h : o.map (fun i => (i.zero, i.size, i.bytes)) = some (some z, s, b)) : ∃ i, o = some i ∧ i.zero = some z ∧ i.size = s ∧ i.bytes = b := by
  cases o with
  | none => cases h
  | some i => simp at h; exact ⟨i, rfl, h.1, h.2.1, h.2.2⟩
theorem step_int {ops : Array Oper} {o : Oper} {a : Act} {K : Act → World → Prop} {Q : Exit → Act → World → Prop} {E : Prop} (w : World) (dt : Tmp) (hd : o.dst = some dt) (hgd : o.guard = none) (s x : Operand)
    (ho : o.op = .call { callee := .builtin .append, args := #[s, x], argTypes := #[39, 39] })
    (v : Value) (k : Nat) (xs : List Value) (hs : a.eval s = v) (hown : w.ownsRow 0 3 1 v k xs) (m : Int) (B : Nat) (hx : a.eval x = .slice (some ⟨B, 0, none⟩) 1 1) (hB : w.heap[B]? = some (.cells #[.int .i64 m] 3 (0, 0)))
    (hk : k < 1000000000)
    (h : ∀ g' cap w', w'.ownsRow 0 3 1 (.slice (some ⟨g', 0, none⟩) (k + 1) cap) (k + 1) (xs ++ [.int .i64 m]) → Frm (fun k => v.ownBlock = some k) w w' → (v.ownBlock = some g' ∨ w.heap.size ≤ g') → K (a.put (some dt) (.slice (some ⟨g', 0, none⟩) (k + 1) cap)) w') :
    if Region.wanted o (yielded ops a.tmps) = true then Oper.wp Try.prog o a w K Q else E := by
  obtain ⟨i0, hi, hz0, hz1, hz2⟩ := info_parts info3
  refine step_append_lies w hgd s x 39 ho 0 3 i0 _ 1 8 Try.underlying39 hi hz0 hz1 hz2 rfl (by decide) v k xs hs hown ⟨B, 0, none⟩ 1 1 [.int .i64 m] hx rfl (World.news_of_block hB) (by intro u hu; simp at hu; subst hu; rfl) (by omega) (by unfold maxLen; omega) (by omega) (by omega) _ rfl ?_
  intro g cap w1 h1 h2 h3 _
  rw [hd]
  exact h _ _ _ h1 ⟨h2.os, h2.tape, h2.output, h2.size, fun j hj hs => h2.block j hj (fun e => hs e.symm)⟩ (h3.imp id (fun e => by omega))
set_option maxRecDepth 100000 in
set_option maxHeartbeats 1000000 in
theorem come_c (h : QAt w q P v false) : Calls Try.prog 20 #[.pointer (some ⟨q, 0, none⟩), .int .i64 0, .int .i64 P] w fun e w' => e = .returned (.int .i64 0) ∧ (∃ v', QAt w' q P v' true ∧ ∀ k, v'.ownBlock = some k → v.ownBlock = some k ∨ w.heap.size ≤ k) ∧ Frm (fun k => k = q ∨ v.ownBlock = some k) w w' := by
  have hP := h.hP
  have HP := Lib.hid (prio_c h)
  have c0 := h.cell hP
  rw [if_pos rfl] at c0
  obtain ⟨A, c, rfl⟩ := own_slice h.own
  have HH := Lib.hid h
  have qf := h.str.frozen P
  have hlt := h.str.lt
  have hP2 : (P : Int) < 101 := by omega
  have hne := h.ne
  clear h
  go_enter Try.func20, Try.ntmps20
  go_wp2_with fail
  with_reducible refine (qmay_c w hP).mono ?_
  rintro e w1 ⟨rfl, rfl⟩
  go_wp2_with fail
  with_reducible refine HP.out.mono ?_
  rintro e w2 ⟨rfl, rfl⟩
  clear HP
  go_wp2_with fail
  have k9 : ∀ O, (w2.alloc O).cell? ⟨q, P, none⟩ = some (.slice A (cntB false) c) := fun O => (World.cell?_alloc_past (w := w2) O q P hlt).trans c0
  go_region_law (refine step_int _ 30 rfl rfl (.tmp 27) (.tmp 29) rfl (.slice A (cntB false) c) (cntB false) (xsB false) rfl (HH.out.own.alloc _) 0 w2.heap.size rfl (heap_alloc_new _ _) (by decide) ?_; intro g' cap w3 hown hf1 hg1; have HO := Lib.hid hown; have HG := Lib.hid hg1; clear hg1; have hf : Frm (fun k => (Value.slice A (cntB false) c).ownBlock = some k) (w2.alloc (.cells #[.int .i64 0] 3)) w3 := ⟨hf1.os, hf1.tape, hf1.output, hf1.size, hf1.block⟩; have HF := Lib.hid hf; have k1 := hf.cell (by rw [World.size_alloc]; omega) (fun e => hne e) (k9 (.cells #[.int .i64 0] 3)); have kf := ((HH.out.str.alloc (.cells #[.int .i64 0] 3)).frm hf (fun e => hne e)).frozen P; clear hown hf hf1)
  all_goals
    go_wp2_with fail
    go_ret
    refine ⟨rfl, ⟨_, QAt.put ((HH.out.str.alloc (.cells #[.int .i64 0] 3)).frm HF.out (fun e => hne e)) HO.out hP, fun k hk => ?_⟩, ?_⟩
    · obtain rfl : g' = k := by simpa [Value.ownBlock] using hk
      refine HG.out.imp id fun e => ?_
      have e' : (w2.alloc (.cells #[.int .i64 0] 3)).heap.size ≤ g' := e
      rw [World.size_alloc] at e'; omega
    exact (((Frm.refl _ w2).alloc (.cells #[.int .i64 0] 3)).trans (HF.out.mono fun k _ e => .inr e)).setCell (p := ⟨q, P, none⟩) (.inl (.inl rfl)) _
def clos (B : Nat) : Value := .func (.func 45) #[] #[.pointer (some ⟨B, 0, none⟩)]
theorem clos_c (w : World) (x y : Int) (B : Nat) (hB : w.cell? ⟨B, 0, none⟩ = some (.int .i64 y)) : Calls Try.prog 45 #[.int .i64 x, .pointer (some ⟨B, 0, none⟩)] w fun e w' => e = .returned (.bool (x == y)) ∧ w' = w := by
  go_enter Try.func45, Try.ntmps45
  go_wp2_with fail
  go_ret
  exact ⟨rfl, rfl⟩
theorem indexF_c (w : World) (g c B : Nat) (h : w.cell? ⟨g, 0, none⟩ = some (.int .i64 0)) (hB : w.cell? ⟨B, 0, none⟩ = some (.int .i64 0)) :
    Calls Try.prog 49 #[.slice (some ⟨g, 0, none⟩) 1 c, clos B] w fun e w' => e = .returned (.int .i64 0) ∧ w' = w := by
  unfold clos
  go_enter Try.func49, Try.ntmps49
  go_wp2_with fail
  go_loopw [8] (fun i wr => i = .int .i64 0 ∧ wr = w) (fun _ _ => 0)
  case atStart => exact ⟨rfl, rfl⟩
  case round =>
    obtain ⟨rfl, rfl⟩ := hrel
    go_wp2_with fail
    with_reducible refine (clos_c wr 0 0 B hB).mono ?_
    rintro e w1 ⟨rfl, rfl⟩
    go_wp2_with fail
    go_ret
    exact ⟨rfl, rfl⟩
set_option maxRecDepth 10000 in
theorem delete_c (w : World) (g c B : Nat) (h : w.cell? ⟨g, 0, none⟩ = some (.int .i64 0)) (hf : w.frozen? ⟨g, 0, none⟩ = false) (hB : w.cell? ⟨B, 0, none⟩ = some (.int .i64 0)) (hc : 1 ≤ c) :
    Calls Try.prog 44 #[.slice (some ⟨g, 0, none⟩) 1 c, clos B] w fun e w' => e = .returned (.slice (some ⟨g, 0, none⟩) 0 c) ∧ w' = w.setCell ⟨g, 0, none⟩ (.int .i64 0) := by
  have HI := Lib.hid (indexF_c w g c B h hB)
  obtain ⟨i0, hi, hz0, hz1, hz2⟩ := info_parts info3
  have hc1 : ∀ j, j < 1 → (w.cell? ⟨g, 0 + j, none⟩).isSome = true := fun j hj => by
    obtain rfl : j = 0 := by omega
    simp [h]
  have hf1 : ∀ j, j < 1 → w.frozen? ⟨g, 0 + j, none⟩ = false := fun j hj => by
    obtain rfl : j = 0 := by omega
    simp [hf]
  have hcl : ∀ ty, (Builtin.clear_ #[39] ty #[.slice (some ⟨g, 0, none⟩) 1 c]).run Try.prog w = .ok (.tuple #[]) (w.setCell ⟨g, 0, none⟩ (.int .i64 0)) :=
    fun ty => Lib.run_clear_slice w 39 3 ty (.int .i64 0) Try.underlying39 (fun w => by simp [zeroValue, typeInfo, hi, hz0]) rfl rfl g 0 1 c (by omega) hc1 hf1
  clear hi hz0 hz1 hz2 i0 hc1 hf1
  unfold clos at HI ⊢
  go_enter Try.func44, Try.ntmps44
  go_wp2_with fail
  with_reducible refine HI.out.mono ?_
  rintro e w1 ⟨rfl, rfl⟩
  go_wp2_with fail
  go_loopw [5, 6] (fun j i wr => j = .int .i64 0 ∧ i = .int .i64 1 ∧ wr = w1) (fun _ _ _ => 0)
  case atStart => exact ⟨rfl, rfl, rfl⟩
  case round =>
    obtain ⟨rfl, rfl, rfl⟩ := hrel
    go_wp2_with fail
    go_ret
    exact ⟨rfl, rfl⟩
theorem own_zero {w : World} {g c : Nat} {xs : List Value} (h : w.ownsRow 0 3 1 (.slice (some ⟨g, 0, none⟩) 1 c) 1 xs) : w.ownsRow 0 3 1 (.slice (some ⟨g, 0, none⟩) 0 c) 0 [] := by
  refine ⟨rfl, ?_⟩
  rcases h.2 with ⟨e, _⟩ | ⟨g', cap, cur, e, hg, hh, hc, hm, hs, ht⟩
  · cases e
  · obtain ⟨rfl, rfl⟩ : g = g' ∧ c = cap := by simpa using e
    exact .inr ⟨g, c, cur, rfl, hg, hh, by omega, hm, hs, by simp⟩
set_option maxRecDepth 100000 in
set_option maxHeartbeats 1000000 in
theorem go_c (h : QAt w q P v true) : Calls Try.prog 35 #[.pointer (some ⟨q, 0, none⟩), .int .i64 0] w fun e w' => e = .returned (.int .i64 0) ∧ (∃ v', QAt w' q P v' false ∧ ∀ k, v'.ownBlock = some k → v.ownBlock = some k) ∧ Frm (fun k => k = q ∨ v.ownBlock = some k) w w' := by
  have hP := h.hP
  obtain ⟨g, c, rfl, hg, hc⟩ := own_form h.own (by decide)
  have hne := h.ne
  have HP := Lib.hid (prio_c (h.keep ((Frm.refl _ w).alloc (.cells #[.int .i64 0] 3))))
  have H0 := h
  have c0 := (h.str.alloc (.cells #[.int .i64 0] 3)).cell (vals_get hP _)
  rw [if_pos rfl] at c0
  have qf := (h.str.alloc (.cells #[.int .i64 0] 3)).frozen P
  have hlt := h.str.lt
  have hP2 : (P : Int) < 101 := by omega
  have HH := Lib.hid h
  simp only [cntB] at c0
  have x0 := h.own.cellAt 0 (by decide)
  simp [xsB] at x0
  have HD := Lib.hid (delete_c (w.alloc (.cells #[.int .i64 0] 3)).drew g c w.heap.size ((World.cell?_alloc_past (w := w) (.cells #[.int .i64 0] 3) g 0 hg).trans x0) ((own_frm h.own ((Frm.refl (fun _ => False) w).alloc (.cells #[.int .i64 0] 3)) (fun _ _ => id)).frozenAt 0) (by show ((w.alloc (.cells #[.int .i64 0] 3)).cell? ⟨w.heap.size, 0, none⟩ = _); simp) hc)
  have hgq : ¬ q = g := fun e => hne (by rw [e]; rfl)
  have hlt2 : q < (w.alloc (.cells #[.int .i64 0] 3)).heap.size := by rw [World.size_alloc]; omega
  clear h H0 x0
  unfold clos at HD
  go_enter Try.func35, Try.ntmps35
  go_wp2_with fail
  with_reducible refine HP.out.mono ?_
  rintro e w2 ⟨rfl, rfl⟩
  clear HP
  go_wp2_with fail
  go_region_with (go_at_call 44; (with_reducible refine HD.out.mono ?_); rintro e w3 ⟨rfl, hw3⟩; have hf : Frm (fun k => k = g) (w.alloc (.cells #[.int .i64 0] 3)).drew w3 := (by rw [hw3]; exact (Frm.refl (fun k => k = g) _).setCell (p := ⟨g, 0, none⟩) (.inl rfl) _); have k1 := hf.cell hlt2 hgq c0; have kf := hf.frozen hlt2 hgq qf; have HF := Lib.hid hf; have HW := Lib.hid hw3; clear hf hw3)
  all_goals
    go_wp2_with fail
    go_ret
    have HS := HH.out.str.alloc (.cells #[.int .i64 0] 3)
    have HO := own_zero ((own_frm HH.out.own ((Frm.refl (fun _ => False) w).alloc (.cells #[.int .i64 0] 3)).drew (fun _ _ => id)).stored 0 (.int .i64 0)).1
    rw [← HW.out] at HO
    refine ⟨rfl, ⟨_, QAt.put (HS.frm (S := fun k => k = g) ⟨HF.out.os, HF.out.tape, HF.out.output, HF.out.size, HF.out.block⟩ hgq) HO hP, fun k hk => hk⟩, ?_⟩
    have h1 : Frm (fun k => k = q ∨ (Value.slice (some ⟨g, 0, none⟩) (cntB true) c).ownBlock = some k) (w.alloc (.cells #[.int .i64 0] 3)).drew w3 := HF.out.mono fun k _ e => .inr (by rw [e]; rfl)
    exact ((((Frm.refl _ w).alloc (.cells #[.int .i64 0] 3)).drew).trans h1).setCell (p := ⟨q, P, none⟩) (.inl (.inl rfl)) _
end
end Go.Proofs.Ytadngogbnjodhaa
