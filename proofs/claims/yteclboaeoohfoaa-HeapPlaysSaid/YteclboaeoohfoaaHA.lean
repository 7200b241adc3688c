/- New. -/
import Derived.Test.YteclboaeoohfoaaH9
namespace Go.Proofs.Yteclboaeoohfoaa
open Go.RowKit
theorem app_int {ops : Array Oper} {rest : List Oper} {o : Oper} {a : Act} {Q : Exit → Act → World → Prop} (w : World) (hgd : o.guard = none) (s x : Operand)
    (ho : o.op = .call { callee := .builtin .append, args := #[s, x], argTypes := #[53, 53] }) (base : Nat)
    (v : Value) (k : Nat) (xs : List Value) (hs : a.eval s = v) (hown : w.ownsRow base 3 1 v k xs) (m : Int) (B : Nat) (hx : a.eval x = .slice (some ⟨B, 0, none⟩) 1 1) (hB : w.heap[B]? = some (.cells #[.int .i64 m] 3 (0, 0)))
    (hk : k < 1000000) (hbase : base ≤ w.heap.size)
    (h : ∀ g cap w', w'.ownsRow base 3 1 (.slice (some ⟨g, 0, none⟩) (k + 1) cap) (k + 1) (xs ++ [.int .i64 m]) → Frm (fun j => v.ownBlock = some j) w w' → wpList Try.prog ops Q rest (a.put o.dst (.slice (some ⟨g, 0, none⟩) (k + 1) cap)) w') :
    wpList Try.prog ops Q (o :: rest) a w := by
  obtain ⟨i0, hi, hz0, hz1, hz2⟩ := info_parts info3
  refine wpList_append_lies w hgd s x 53 ho base 3 i0 _ 1 8 Try.underlying53 hi hz0 hz1 hz2 rfl (by decide) v k xs hs hown ⟨B, 0, none⟩ 1 1 [.int .i64 m] hx rfl (World.news_of_block hB) ?_ (by omega) (by unfold maxLen; omega) (by omega) hbase _ rfl ?_
  · intro u hu
    simp only [List.mem_cons, List.not_mem_nil, or_false] at hu
    subst hu; rfl
  · intro g cap w1 h1 h2 h3 _
    exact h _ _ _ h1 ⟨h2.os, h2.tape, h2.output, h2.size, fun j hj hs => h2.block j hj (fun e => hs e.symm)⟩
theorem new_bad (w : World) (s : Int) (hb : s < 1 ∨ 1000 < s) :
    Calls Try.prog 10 #[.int .i64 s] w fun e w' => e = .returned (.tuple #[.pointer none, .int .i64 1]) ∧ w = w' := by
  by_cases h1 : s < 1
  · have d1 : decide (s < 1) = true := by simpa using h1
    go_enter Try.func10, Try.ntmps10
    go_wp2_with fail
    go_ret2
    exact ⟨rfl, rfl⟩
  · have d1 : decide (s < 1) = false := by simpa using h1
    have d2 : decide (1000 < s) = true := by simp; omega
    go_enter Try.func10, Try.ntmps10
    go_wp2_with fail
    go_ret2
    exact ⟨rfl, rfl⟩
theorem vals_snoc (n : Nat) (F : Nat → Value) : vals (n + 1) F = vals n F ++ [F n] := by simp [vals, List.range_succ]
theorem own_any {w : World} {base n : Nat} {e : TypeId} {size : Nat} {v : Value} {xs : List Value} (h : w.ownsRow base e size v n xs) : w.ownsRow 0 e size v n xs := by
  refine ⟨h.1, ?_⟩
  rcases h.2 with h | ⟨k, cap, cur, rfl, hk, hr⟩
  · exact .inl h
  · exact .inr ⟨k, cap, cur, rfl, by omega, hr⟩
def NewAt (w wr : World) (k : Nat) : Prop := ∃ vp, VecAt wr w.heap.size 55 [.slice none 0 0, vp] ∧ wr.ownsRow w.heap.size 3 1 vp k (vals k fun _ => .int .i64 (-1)) ∧ Frm (fun _ => False) w wr
set_option maxRecDepth 100000 in
set_option maxHeartbeats 1000000 in
theorem new_ok (w : World) (n : Nat) (hn : 1 ≤ n ∧ n ≤ 1000) :
    Calls Try.prog 10 #[.int .i64 n] w fun e w' => e = .returned (.tuple #[.pointer (some ⟨w.heap.size, 0, none⟩), .int .i64 0]) ∧
      (∃ vp, HpIs w' w.heap.size n (.slice none 0 0) vp [] (fun _ => -1) ∧ ∀ k, vp.ownBlock = some k → w.heap.size ≤ k) ∧ Frm (fun _ => False) w w' := by
  have d1 : decide ((n : Int) < 1) = false := by simp; omega
  have d2 : decide (1000 < (n : Int)) = false := by simp; omega
  go_enter Try.func10, Try.ntmps10
  go_wp2_with fail
  go_loopw [14] (fun s wr => ∃ k : Nat, s = .int .i64 k ∧ k ≤ n ∧ Hid (NewAt w wr k)) (fun s _ => n - (intOf s).toNat)
  case atStart => exact ⟨0, rfl, by omega, Lib.hid ⟨.slice none 0 0, VecAt.new w 55 [.slice none 0 0, .slice none 0 0], World.ownsRow_nil _ _ _ _, (Frm.refl _ _).alloc _⟩⟩
  case round =>
    obtain ⟨k, rfl, hk, HX⟩ := hrel
    have hx := HX.out
    obtain ⟨vp, hv, ho, hf⟩ := hx
    have c1 := hv.cell (i := 1) (v := vp) rfl
    have f1 := hv.frozen 1
    have hlt := hv.lt
    have HV := Lib.hid hv
    have HO := Lib.hid ho
    have HF := Lib.hid hf
    obtain ⟨A, c, rfl⟩ := own_slice ho
    clear hv ho hf
    by_cases hkn : k < n
    · have d3 : decide ((k : Int) < (n : Int)) = true := by simpa using hkn
      have HB := Lib.hid (heap_alloc_new wr (.cells #[.int .i64 (-1)] 3))
      have HN : Hid (¬ (Value.slice A k c).ownBlock = some w.heap.size) := Lib.hid (fun e => by
        obtain ⟨cur, hc⟩ := own_blk HO.out e
        have hs := HV.out
        unfold VecAt at hs
        rw [hs] at hc; simp at hc)
      have HC := Lib.hid ((HV.out.alloc (.cells #[.int .i64 (-1)] 3)).cell (i := 1) rfl)
      have HL := Lib.hid ((HV.out.alloc (.cells #[.int .i64 (-1)] 3)).lt)
      have HZ := Lib.hid ((HV.out.alloc (.cells #[.int .i64 (-1)] 3)).frozen 1)
      have HBS : Hid (w.heap.size ≤ (wr.alloc (.cells #[.int .i64 (-1)] 3)).heap.size) := Lib.hid (by have := HL.out; omega)
      have HFA := Lib.hid ((Frm.refl (fun _ => False) wr).alloc (.cells #[.int .i64 (-1)] 3))
      go_wp2_with (at_builtin; refine app_int _ rfl (.tmp 20) (.tmp 21) rfl w.heap.size (.slice A k c) k (vals k fun _ => .int .i64 (-1)) rfl (HO.out.alloc _) (-1) wr.heap.size rfl HB.out (by omega) HBS.out ?_; intro g1 c1 w4 hown4 hf4; have H4 := Lib.hid hown4; have F4 := Lib.hid hf4; have k4 := hf4.cell HL.out HN.out HC.out; have k5 := hf4.frozen HL.out HN.out HZ.out; clear hown4 hf4)
      go_roundw
      · refine ⟨k + 1, by simp, by omega, Lib.hid ⟨.slice (some ⟨g1, 0, none⟩) (k + 1) c1, ?_, ?_, ?_⟩⟩
        · exact ((HV.out.alloc _).frm F4.out HN.out).set 1 _
        · have h5 := own_frm H4.out ((Frm.refl (fun z => z = w.heap.size) w4).setCell (p := ⟨w.heap.size, 1, none⟩) (.inl rfl) (.slice (some ⟨g1, 0, none⟩) (k + 1) c1)) (fun z hz e => by
            obtain ⟨cur, hc⟩ := own_blk H4.out hz
            have hs := (HV.out.alloc (.cells #[.int .i64 (-1)] 3)).frm F4.out HN.out
            unfold VecAt at hs
            rw [e, hs] at hc; simp at hc)
          rw [vals_snoc]
          exact h5
        · exact (HF.out.later (HFA.out.of_none.trans F4.out) (fun z e => .inr (own_base HO.out z e))).setCell (p := ⟨w.heap.size, 1, none⟩) (.inr (Nat.le_refl _)) _
      · simp [intOf]; omega
    · have e : k = n := by omega
      subst e
      have d3 : decide ((k : Int) < (k : Int)) = false := by simp
      go_wp2_with fail
      go_ret2
      refine ⟨rfl, ⟨_, ⟨HV.out, World.ownsRow_nil _ _ _ _, own_any HO.out, hn, fun i m hm => by simp at hm, fun _ _ _ => rfl⟩, fun z e => own_base HO.out z e⟩, HF.out⟩
end Go.Proofs.Yteclboaeoohfoaa
