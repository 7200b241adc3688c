/- The reference's table: New. -/
import Derived.Test.YtogjnclliaagbaaR2
namespace Go.Proofs.Ytogjnclliaagbaa
open Go.RowKit
theorem info3' : (Try.prog.info? 3).map (fun i => (i.zero, i.size, i.bytes)) = some (some (.int .i64 0), 1, 8) := by kernel_rfl
theorem info4' : (Try.prog.info? 4).map (fun i => (i.zero, i.size, i.bytes)) = some (some (.bool false), 1, 1) := by kernel_rfl
theorem info29' : (Try.prog.info? 29).map (fun i => (i.zero, i.size, i.bytes)) = some (some (.int .u64 0), 1, 8) := by kernel_rfl
/-- What lies there before the generations are laid. -/
structure RefPre (w : World) (r g u v n k : Nat) : Prop where
  hr : w.heap[r]? = some (.cells #[.slice (some ⟨g, 0, none⟩) n n, .slice (some ⟨u, 0, none⟩) n n, .slice (some ⟨v, 0, none⟩) n n] 69 (0, 0))
  vg : VecAt w g 29 (vals n fun i => .int .u64 (if i < k then 1 else 0))
  vu : VecAt w u 4 (vals n fun _ => .bool false)
  vv : VecAt w v 3 (vals n fun _ => .int .i64 0)
  ne : r ≠ g ∧ r ≠ u ∧ r ≠ v ∧ g ≠ u ∧ g ≠ v ∧ u ≠ v
theorem heap_0 (w : World) (o1 o2 o3 o4 : Obj) : ((((w.alloc o1).alloc o2).alloc o3).alloc o4).heap[w.heap.size]? = some o1 :=
  blk_alloc (blk_alloc (blk_alloc (heap_alloc_new w o1) o2) o3) o4
theorem heap_1 (w : World) (o1 o2 o3 o4 : Obj) : ((((w.alloc o1).alloc o2).alloc o3).alloc o4).heap[w.heap.size + 1]? = some o2 := by
  have := heap_alloc_new (w.alloc o1) o2
  rw [World.size_alloc] at this
  exact blk_alloc (blk_alloc this o3) o4
theorem heap_2 (w : World) (o1 o2 o3 o4 : Obj) : ((((w.alloc o1).alloc o2).alloc o3).alloc o4).heap[w.heap.size + 1 + 1]? = some o3 := by
  have := heap_alloc_new ((w.alloc o1).alloc o2) o3
  rw [World.size_alloc, World.size_alloc] at this
  exact blk_alloc this o4
theorem heap_3 (w : World) (o1 o2 o3 o4 : Obj) : ((((w.alloc o1).alloc o2).alloc o3).alloc o4).heap[w.heap.size + 1 + 1 + 1]? = some o4 := by
  have := heap_alloc_new (((w.alloc o1).alloc o2).alloc o3) o4
  rwa [World.size_alloc, World.size_alloc, World.size_alloc] at this
theorem zero_gens (n : Nat) : (vals n fun _ => Value.int .u64 0) = vals n fun i => .int .u64 (if i < 0 then 1 else 0) := vals_congr fun i _ => by simp
theorem gens_set (n k : Nat) : (vals n fun i => Value.int .u64 (if i < k then 1 else 0)).set k (.int .u64 1) = vals n fun i => .int .u64 (if i < k + 1 then 1 else 0) := by
  rw [vals_set]
  apply vals_congr
  intro i _
  by_cases h : i = k
  · subst h; simp
  · by_cases h2 : i < k
    · simp [h, h2]; omega
    · simp [h, h2]; omega
theorem RefPre.full {w : World} {r g u v n : Nat} (hn : n ≤ 1000) (h : RefPre w r g u v n n) : RefAt w r g u v (fresh n) (List.replicate n 0) := by
  refine ⟨by simpa [fresh] using hn, by simp [fresh], by simpa [fresh] using h.hr, ?_, ?_, ?_, ?_, h.ne⟩
  · have e : gvals (fresh n) = vals n fun i => .int .u64 (if i < n then 1 else 0) := by
      apply List.ext_getElem?
      intro i
      by_cases hi : i < n <;> simp [gvals, fresh, vals, hi, Slot.gen]
    rw [e]; exact h.vg
  · have e : uvals (fresh n) = vals n fun _ => .bool false := by
      apply List.ext_getElem?
      intro i
      by_cases hi : i < n <;> simp [uvals, fresh, vals, hi, Slot.isUsed]
    rw [e]; exact h.vu
  · have e : (List.replicate n (0 : Int)).map (fun x => Value.int .i64 x) = vals n fun _ => .int .i64 0 := by
      apply List.ext_getElem?
      intro i
      by_cases hi : i < n <;> simp [vals, hi]
    rw [e]; exact h.vv
  · intro i a x hx
    have hi : i < n := by have := (List.getElem?_eq_some_iff.1 hx).1; rwa [fresh_length] at this
    rw [fresh_get hi] at hx; cases hx
set_option maxHeartbeats 2000000 in
theorem rnew_c (w : World) (n : Nat) (hn : n ≤ 1000) :
    Calls Try.prog 18 #[.int .i64 n] w fun e w' => ∃ r g u v V, e = .returned (.pointer (some ⟨r, 0, none⟩)) ∧ RefAt w' r g u v (fresh n) V ∧ (w.heap.size ≤ r ∧ w.heap.size ≤ g ∧ w.heap.size ≤ u ∧ w.heap.size ≤ v) ∧ Frm (fun _ => False) w w' := by
  have hm3 := run_make_vec (P := Try.prog) 41 3 (.int .i64 0) 8 Try.underlying41 info3' rfl n (by omega) (by omega)
  have hm4 := run_make_vec (P := Try.prog) 50 4 (.bool false) 1 Try.underlying50 info4' rfl n (by omega) (by omega)
  have hm29 := run_make_vec (P := Try.prog) 67 29 (.int .u64 0) 8 Try.underlying67 info29' rfl n (by omega) (by omega)
  go_enter Try.func18, Try.ntmps18
  go_wp2
  go_region
  all_goals
    go_wp2_with fail
    go_loopw [4] (fun i wr => ∃ k : Nat, k ≤ n ∧ i = .int .i64 k ∧ ∃ g u v, RefPre wr (w.heap.size + 1 + 1 + 1) g u v n k ∧ (w.heap.size ≤ g ∧ w.heap.size ≤ u ∧ w.heap.size ≤ v) ∧ Frm (fun _ => False) w wr) (fun i _ => n - (intOf i).toNat)
    case atStart =>
      refine ⟨0, by omega, rfl, _, _, _, ⟨heap_3 _ _ _ _ _, ?_, ?_, ?_, ?_⟩, ?_, (((((Frm.refl _ _).alloc _).alloc _).alloc _).alloc _).drew⟩
      · rw [← zero_gens]; first | exact heap_0 _ _ _ _ _ | exact heap_1 _ _ _ _ _ | exact heap_2 _ _ _ _ _
      · first | exact heap_0 _ _ _ _ _ | exact heap_1 _ _ _ _ _ | exact heap_2 _ _ _ _ _
      · first | exact heap_0 _ _ _ _ _ | exact heap_1 _ _ _ _ _ | exact heap_2 _ _ _ _ _
      · omega
      · omega
    case round =>
      obtain ⟨k, hk, rfl, g, u, v, hpre, hbs, hf⟩ := hrel
      have HP := Lib.hid hpre
      have HF := Lib.hid hf
      have h0 : wr.cell? ⟨w.heap.size + 1 + 1 + 1, 0, none⟩ = some (.slice (some ⟨g, 0, none⟩) n n) := by simp [World.cell?, hpre.hr]
      by_cases hlt : k < n
      · have hd : decide (k < n) = true := by simpa using hlt
        have hc := hpre.vg.cell (vals_get hlt _)
        have hcf := hpre.vg.frozen k
        clear hpre hf
        go_wp2_with fail
        go_roundw
        case rel =>
          obtain ⟨n1, n2, n3, n4, n5, n6⟩ := HP.out.ne
          refine ⟨k + 1, by omega, by go_num, g, u, v, ⟨blk_other HP.out.hr (a := ⟨g, k, none⟩) n1 _, ?_, HP.out.vu.other (a := ⟨g, k, none⟩) n4.symm _, HP.out.vv.other (a := ⟨g, k, none⟩) n5.symm _, HP.out.ne⟩, hbs, HF.out.setCell (.inr hbs.1) _⟩
          rw [← gens_set]; exact HP.out.vg.set k _
        case measure => simp [intOf]; omega
      · have hd : decide (k < n) = false := by simpa using hlt
        obtain rfl : k = n := by omega
        clear hpre hf
        go_wp2_with fail
        go_ret
        exact ⟨_, g, u, v, _, rfl, HP.out.full hn, ⟨by omega, hbs⟩, HF.out⟩
end Go.Proofs.Ytogjnclliaagbaa
