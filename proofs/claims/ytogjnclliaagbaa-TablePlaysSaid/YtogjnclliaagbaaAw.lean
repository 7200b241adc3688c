/- awake. -/
import Derived.Test.YtogjnclliaagbaaT1
import Derived.Test.YtogjnclliaagbaaT2
import Derived.Test.YtogjnclliaagbaaT3
namespace Go.Proofs.Ytogjnclliaagbaa
open Go.RowKit
theorem awake_c (w : World) : Calls Try.prog 10 #[] w fun e w' => e = .returned (.bool true) ∧ Frm (fun _ => False) w w' := by
  go_enter Try.func10, Try.ntmps10
  go_wp2_with fail
  refine (new_ok w 2 (by omega) (by omega)).mono ?_
  rintro e w1 ⟨b, cap, rfl, ht1, hb, hf1⟩
  have hp1 := ht1.ltp
  have HT1 : Hid (TabAt w1 w.heap.size b cap [.free 1, .free 1]) := ht1
  have HF1 := Lib.hid hf1
  clear ht1 hf1
  go_wp2_with fail
  refine (put_free HT1.out 7 1 0 rfl (by omega)).mono ?_
  rintro e w2 ⟨rfl, ht2, hf2⟩
  have HT2 : Hid (TabAt w2 w.heap.size b cap [.used 1 7, .free 1]) := ht2
  have HF2 := Lib.hid hf2
  have hp2 := ht2.ltp
  have hb2 := ht2.ltb
  clear ht2 hf2
  go_wp2_with fail
  refine (drop_some (HT2.out.alloc _) 0 1 7 rfl).mono ?_
  rintro e w3 ⟨rfl, ht3, hf3⟩
  have HT3 : Hid (TabAt w3 w.heap.size b cap [.free 2, .free 1]) := ht3
  have HF3 := Lib.hid hf3
  have hp3 := ht3.ltp
  have hb3 := ht3.ltb
  have a30 : w3.cell? ⟨w2.heap.size, 0, none⟩ = some (.int .i64 0) := hf3.cell (by simp) (by omega) (by simp)
  have a31 : w3.cell? ⟨w2.heap.size, 1, none⟩ = some (.int .u64 1) := hf3.cell (by simp) (by omega) (by simp)
  have s3 : w2.heap.size < w3.heap.size := lt_of_cell a30
  clear ht3 hf3
  go_wp2_with fail
  refine (put_free HT3.out 8 2 0 rfl (by omega)).mono ?_
  rintro e w4 ⟨rfl, ht4, hf4⟩
  have HT4 : Hid (TabAt w4 w.heap.size b cap [.used 2 8, .free 1]) := ht4
  have HF4 := Lib.hid hf4
  have hp4 := ht4.ltp
  have hb4 := ht4.ltb
  have a40 : w4.cell? ⟨w2.heap.size, 0, none⟩ = some (.int .i64 0) := hf4.cell (by omega) (by omega) a30
  have a41 : w4.cell? ⟨w2.heap.size, 1, none⟩ = some (.int .u64 1) := hf4.cell (by omega) (by omega) a31
  have s4 : w2.heap.size < w4.heap.size := lt_of_cell a40
  clear ht4 hf4
  go_wp2_with fail
  refine (get_none (HT4.out.alloc _) 0 1 (by simp [at?])).mono ?_
  rintro e w5 ⟨rfl, hf5⟩
  have HT5 := Lib.hid ((HT4.out.alloc (.cells #[.int .i64 0, .int .u64 2] 31)).keep hf5)
  have HF5 := Lib.hid hf5
  have a50 : w5.cell? ⟨w2.heap.size, 0, none⟩ = some (.int .i64 0) := hf5.cell (by simp; omega) id (by rw [World.cell?_alloc_past _ _ _ (by omega)]; exact a40)
  have a51 : w5.cell? ⟨w2.heap.size, 1, none⟩ = some (.int .u64 1) := hf5.cell (by simp; omega) id (by rw [World.cell?_alloc_past _ _ _ (by omega)]; exact a41)
  have c50 : w5.cell? ⟨w4.heap.size, 0, none⟩ = some (.int .i64 0) := hf5.cell (by simp) id (by simp)
  have c51 : w5.cell? ⟨w4.heap.size, 1, none⟩ = some (.int .u64 2) := hf5.cell (by simp) id (by simp)
  clear hf5
  go_wp2_with fail
  refine (get_some HT5.out 0 2 8 (by simp [at?])).mono ?_
  rintro e w6 ⟨rfl, hf6⟩
  have HT6 := Lib.hid (HT5.out.keep hf6)
  have HF6 := Lib.hid hf6
  have l5 := lt_of_cell a50
  have l5' := lt_of_cell c50
  have a60 : w6.cell? ⟨w2.heap.size, 0, none⟩ = some (.int .i64 0) := hf6.cell l5 id a50
  have a61 : w6.cell? ⟨w2.heap.size, 1, none⟩ = some (.int .u64 1) := hf6.cell l5 id a51
  have c60 : w6.cell? ⟨w4.heap.size, 0, none⟩ = some (.int .i64 0) := hf6.cell l5' id c50
  have c61 : w6.cell? ⟨w4.heap.size, 1, none⟩ = some (.int .u64 2) := hf6.cell l5' id c51
  clear hf6 a30 a31 a40 a41 a50 a51 c50 c51
  go_wp2_with ((go_at_call 16; refine (count_c HT6.out).mono ?_; rintro e w7 ⟨rfl, rfl⟩))
  go_ret
  refine ⟨rfl, ?_⟩
  have u : ∀ k, k = w.heap.size ∨ k = b → w.heap.size ≤ k := by omega
  exact Frm.down ((((((((HF1.out.of_none).trans (HF2.out.up u)).alloc _).trans (HF3.out.up u)).trans (HF4.out.up u)).alloc _).trans HF5.out.of_none).trans HF6.out.of_none)
end Go.Proofs.Ytogjnclliaagbaa
