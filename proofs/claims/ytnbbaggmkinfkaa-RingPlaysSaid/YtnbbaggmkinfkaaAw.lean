/- awake. -/
import Derived.Test.YtnbbaggmkinfkaaF1
import Derived.Test.YtnbbaggmkinfkaaF2
import Derived.Test.YtnbbaggmkinfkaaF3
namespace Go.Proofs.Ytnbbaggmkinfkaa
open Go.RowKit
def D (q : Int) : DM := { DM.zero with req := q }
set_option maxRecDepth 100000 in
set_option maxHeartbeats 4000000 in
theorem awake_c (w : World) : Calls Try.prog 8 #[] w fun e w' => e = .returned (.bool true) ∧ Frm (fun _ => False) w w' := by
  go_enter Try.func8, Try.ntmps8
  go_wp2_with fail
  refine (new_ok w 2 (by omega) (by omega)).mono ?_
  rintro e w1 ⟨rfl, hr1, hf1⟩
  have H1 := Lib.hid hr1
  have F1 := Lib.hid (hf1.of_none (S := fun k => w.heap.size ≤ k))
  clear hr1 hf1
  go_wp2_with fail
  refine (put_ok H1.out (D 7) (by rfl) (by simp) (by simp)).mono ?_
  rintro e w2 ⟨rfl, hr2, hf2⟩
  have H2 : Hid (RingIs w2 (w.heap.size + 1) w.heap.size 2 [(D 7).fresh] 0 0 [some (D 7).fresh, none]) := hr2
  have F2 := Lib.hid (F1.out.trans (hf2.up (B := w.heap.size) (by omega)))
  clear hr2 hf2 H1 F1
  go_wp2_with fail
  refine (put_ok H2.out (D 8) (by rfl) (by simp) (by simp)).mono ?_
  rintro e w3 ⟨rfl, hr3, hf3⟩
  have H3 : Hid (RingIs w3 (w.heap.size + 1) w.heap.size 2 [(D 7).fresh, (D 8).fresh] 0 0 [some (D 7).fresh, some (D 8).fresh]) := hr3
  have F3 := Lib.hid (F2.out.trans (hf3.up (B := w.heap.size) (by omega)))
  clear hr3 hf3 H2 F2
  go_wp2_with fail
  refine (put_full H3.out DM.zero (by rfl) (by simp)).mono ?_
  rintro e w4 ⟨rfl, hf4⟩
  have H4 := Lib.hid (H3.out.keep hf4)
  have F4 := Lib.hid (F3.out.trans hf4.of_none)
  clear hf4 H3 F3
  go_wp2_with fail
  have tk := take_ok H4.out ⟨0, 7, 0, 0, 0, 0, true, false, 0⟩ rfl
  simp only [DM.cells] at tk
  refine tk.mono ?_
  clear tk
  rintro e w5 ⟨rfl, hr5, hf5⟩
  have l5 := hr5.lt
  have F5 := Lib.hid ((F4.out.trans (hf5.up (B := w.heap.size) (by omega))).alloc (.cells (D 7).fresh.cells.toArray 33))
  have H5 := Lib.hid (hr5.alloc (.cells (D 7).fresh.cells.toArray 33))
  have B5 := DBox.new w5 (D 7).fresh
  clear hf5 hr5 H4 F4
  go_wp2_with fail
  have tk := reap_not H5.out (by simp [DM.fresh])
  simp only [DM.cells, DM.zero] at tk
  refine tk.mono ?_
  clear tk
  rintro e w6 ⟨rfl, hf6⟩
  have F6 := Lib.hid ((F5.out.trans hf6.of_none).alloc (.cells DM.zero.cells.toArray 33))
  have H6 := Lib.hid ((H5.out.keep hf6).alloc (.cells DM.zero.cells.toArray 33))
  have B6 := (B5.via hf6 id).via ((Frm.refl (fun _ => False) _).alloc (.cells DM.zero.cells.toArray 33)) id
  clear hf6 H5 F5 B5
  go_wp2_with fail
  refine (finish_in H6.out 0 5 (by omega) (by omega) (by omega) (D 7).fresh rfl).mono ?_
  rintro e w7 ⟨rfl, hr7, hf7⟩
  have H7 : Hid (RingIs w7 (w.heap.size + 1) w.heap.size 2 [(D 7).fresh.finished 5, (D 8).fresh] 1 0 [some ((D 7).fresh.finished 5), some (D 8).fresh]) := hr7
  have F7 := Lib.hid (F6.out.trans (hf7.up (B := w.heap.size) (by omega)))
  have B7 := B6.via hf7 (by omega)
  clear hf7 hr7 H6 F6 B6
  go_wp2_with fail
  have tk := reap_ok H7.out ⟨0, 7, 0, 0, 0, 0, false, true, 5⟩ rfl rfl
  simp only [DM.cells] at tk
  refine tk.mono ?_
  clear tk
  rintro e w8 ⟨rfl, hr8, hf8⟩
  have F8 := Lib.hid ((F7.out.trans (hf8.up (B := w.heap.size) (by omega))).alloc (.cells ((D 7).fresh.finished 5).cells.toArray 33))
  have H8 : Hid (RingIs _ (w.heap.size + 1) w.heap.size 2 [(D 7).fresh.finished 5, (D 8).fresh] 1 1 [none, some (D 8).fresh]) := hr8.alloc (.cells ((D 7).fresh.finished 5).cells.toArray 33)
  have BB := DBox.new w8 ((D 7).fresh.finished 5)
  have B8 := (B7.via hf8 (by omega)).via ((Frm.refl (fun _ => False) _).alloc (.cells ((D 7).fresh.finished 5).cells.toArray 33)) id
  clear hf8 hr8 H7 F7 B7
  obtain ⟨d0, d1, d2, d3, d4, d5, d6, d7, d8⟩ := B8
  obtain ⟨x0, x1, x2, x3, x4, x5, x6, x7, x8⟩ := BB
  simp only [D, DM.fresh, DM.finished, DM.cells, DM.zero] at d1 d6 x7 x8
  go_wp2_with (go_at_call 12; refine (finish_state H8.out 1 0 (by omega) (by omega)).mono ?_; rintro e w7 ⟨rfl, rfl⟩)
  go_ret
  exact ⟨rfl, F8.out.down⟩
end Go.Proofs.Ytnbbaggmkinfkaa
