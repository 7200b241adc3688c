/- A heap of one's own; awake. -/
import Derived.Test.YteclboaeoohfoaaHD
namespace Go.Proofs.Yteclboaeoohfoaa
open Go.RowKit
structure At (w wr : World) (p n : Nat) (K : Nat → Option Int) : Prop where
  heap : HeapR wr (fun k => w.heap.size ≤ k) p n K
  frm : Frm (fun _ => False) w wr
section
variable {w wr : World} {p n : Nat} {K : Nat → Option Int}
theorem At.keep {w' : World} (h : At w wr p n K) (hf : Frm (fun _ => False) wr w') : At w w' p n K := ⟨h.heap.keep hf (fun _ _ => id), h.frm.trans hf⟩
theorem At.step {w' : World} {T' : Nat → Prop} {K' : Nat → Option Int} (h : At w wr p n K) (h' : HeapR w' T' p n K') (hg : Grow (fun k => w.heap.size ≤ k) T' wr w') : At w w' p n K' := by
  refine ⟨h'.mono fun k _ hk => ?_, (h.frm.of_none.trans hg.2).down⟩
  have := h.frm.size
  rcases (hg.1 k hk).2 with e | e <;> omega
theorem put_a (h : At w wr p n K) (id key : Int) :
    Calls Try.prog 12 #[.pointer (some ⟨p, 0, none⟩), .int .i64 id, .int .u64 key] wr fun e w' => e = .returned (.int .i64 (putC n id)) ∧ At w w' p n (putK n K id key) :=
  (put_k h.heap id key).mono fun _ _ ⟨he, _, h1, h2⟩ => ⟨he, h.step h1 h2⟩
theorem drop_a (h : At w wr p n K) (id : Int) :
    Calls Try.prog 14 #[.pointer (some ⟨p, 0, none⟩), .int .i64 id] wr fun e w' => e = .returned (.int .i64 (dropC K id)) ∧ At w w' p n (dropK K id) :=
  (drop_k h.heap id).mono fun _ _ ⟨he, _, h1, h2⟩ => ⟨he, h.step h1 h2⟩
theorem new_a (w : World) (s : Int) (n : Nat) (hs : s = n) (hn : 1 ≤ n ∧ n ≤ 1000) :
    Calls Try.prog 10 #[.int .i64 s] w fun e w' => e = .returned (.tuple #[.pointer (some ⟨w.heap.size, 0, none⟩), .int .i64 0]) ∧ At w w' w.heap.size n (fun _ => none) := by
  subst hs
  refine (new_k w n hn).mono ?_
  rintro e w' ⟨he, T', h1, h2, h3⟩
  refine ⟨he, h1.mono fun k _ hk => ?_, h3⟩
  rcases (h2 k hk).2 with e | e
  · exact e.elim
  · exact e
theorem key_s (h : At w wr p n K) {id x : Int} (hk : getK K id = some x) : Calls Try.prog 19 #[.pointer (some ⟨p, 0, none⟩), .int .i64 id] wr fun e w' =>
    e = .returned (.tuple #[.int .u64 x, .int .i64 0]) ∧ At w w' p n K := by
  have := key_k h.heap id
  rw [hk] at this
  exact this.mono fun _ _ ⟨he, hf⟩ => ⟨he, h.keep hf⟩
theorem key_n (h : At w wr p n K) {id : Int} (hk : getK K id = none) : Calls Try.prog 19 #[.pointer (some ⟨p, 0, none⟩), .int .i64 id] wr fun e w' =>
    e = .returned (.tuple #[.int .u64 0, .int .i64 6]) ∧ At w w' p n K := by
  have := key_k h.heap id
  rw [hk] at this
  exact this.mono fun _ _ ⟨he, hf⟩ => ⟨he, h.keep hf⟩
theorem len_a (h : At w wr p n K) : Calls Try.prog 20 #[.pointer (some ⟨p, 0, none⟩)] wr fun e w' => e = .returned (.int .i64 (countK n K)) ∧ At w w' p n K :=
  (len_k h.heap).mono fun _ _ ⟨he, hw⟩ => ⟨he, hw ▸ h⟩
theorem fst_n (h : At w wr p n K) (hn : ∀ j, K j = none) : Calls Try.prog 18 #[.pointer (some ⟨p, 0, none⟩)] wr fun e w' =>
    e = .returned (.tuple #[.int .i64 0, .int .u64 0, .int .i64 5]) ∧ At w w' p n K :=
  (first_n h.heap hn).mono fun _ _ ⟨he, hf⟩ => ⟨he, h.keep hf⟩
theorem fst_s (h : At w wr p n K) {j : Nat} {x : Int} (hn : FirstIs K j x) : Calls Try.prog 18 #[.pointer (some ⟨p, 0, none⟩)] wr fun e w' =>
    e = .returned (.tuple #[.int .i64 j, .int .u64 x, .int .i64 0]) ∧ At w w' p n K :=
  (first_s h.heap hn).mono fun _ _ ⟨he, hf⟩ => ⟨he, h.keep hf⟩
theorem tk_n (h : At w wr p n K) (hn : ∀ j, K j = none) : Calls Try.prog 16 #[.pointer (some ⟨p, 0, none⟩)] wr fun e w' =>
    e = .returned (.tuple #[.int .i64 0, .int .u64 0, .int .i64 5]) ∧ At w w' p n K :=
  (take_n h.heap hn).mono fun _ _ ⟨he, hf⟩ => ⟨he, h.keep hf⟩
theorem tk_s (h : At w wr p n K) {j : Nat} {x : Int} (hn : FirstIs K j x) : Calls Try.prog 16 #[.pointer (some ⟨p, 0, none⟩)] wr fun e w' =>
    e = .returned (.tuple #[.int .i64 j, .int .u64 x, .int .i64 0]) ∧ At w w' p n (dropK K j) :=
  (take_s h.heap hn).mono fun _ _ ⟨he, _, h1, h2⟩ => ⟨he, h.step h1 h2⟩
end
theorem putK_in {n : Nat} {K : Nat → Option Int} {id key : Int} (h : 0 ≤ id ∧ id < n) (j : Nat) : putK n K id key j = if (j : Int) = id then some key else K j := by
  rw [putK, if_pos (by simpa [isB] using h)]
def kA : Nat → Option Int := putK 9 (putK 9 (putK 9 (fun _ => none) 5 9) 3 9) 7 1
theorem kA_is (j : Nat) : kA j = if (j : Int) = 7 then some 1 else if (j : Int) = 3 then some 9 else if (j : Int) = 5 then some 9 else none := by
  unfold kA
  rw [putK_in (by omega), putK_in (by omega), putK_in (by omega)]
theorem kA_first : FirstIs kA 7 1 := by
  refine ⟨by rw [kA_is]; rfl, fun j x h => ?_⟩
  rw [kA_is] at h
  split at h
  · injection h with h; omega
  · split at h
    · injection h with h; omega
    · split at h
      · injection h with h; omega
      · cases h
theorem kB_first : FirstIs (dropK kA 7) 3 9 := by
  refine ⟨by rw [dropK, if_neg (by omega), kA_is]; rfl, fun j x h => ?_⟩
  rw [dropK] at h
  split at h
  · cases h
  · rw [kA_is] at h
    split at h
    · omega
    · split at h
      · injection h with h; omega
      · split at h
        · injection h with h; omega
        · cases h
theorem kC_count : countK 9 (dropK (dropK kA 7) 3) = 1 := by decide +kernel
theorem kC_none : getK (dropK (dropK kA 7) 3) 7 = none := by decide +kernel
set_option maxRecDepth 100000 in
set_option maxHeartbeats 1000000 in
theorem awake_c (w : World) : Calls Try.prog 9 #[] w fun e w' => e = .returned (.bool true) ∧ Frm (fun _ => False) w w' := by
  go_enter Try.func9, Try.ntmps9
  go_wp2_with fail
  with_reducible refine (new_a w 9 9 rfl (by omega)).mono ?_
  rintro e w1 ⟨rfl, h1⟩
  have H1 := Lib.hid h1
  clear h1
  go_wp2_with fail
  with_reducible refine (put_a H1.out 5 9).mono ?_
  rintro e w2 ⟨rfl, h2⟩
  have H2 := Lib.hid h2
  clear h2 H1
  go_wp2_with fail
  with_reducible refine (put_a H2.out 3 9).mono ?_
  rintro e w3 ⟨rfl, h3⟩
  have H3 := Lib.hid h3
  clear h3 H2
  go_wp2_with fail
  with_reducible refine (put_a H3.out 7 1).mono ?_
  rintro e w4 ⟨rfl, h4⟩
  have H4 : Hid (At w w4 w.heap.size 9 kA) := Lib.hid h4
  clear h4 H3
  go_wp2_with fail
  with_reducible refine (tk_s H4.out kA_first).mono ?_
  rintro e w5 ⟨rfl, h5⟩
  have H5 := Lib.hid h5
  clear h5 H4
  go_wp2_with fail
  with_reducible refine (tk_s H5.out kB_first).mono ?_
  rintro e w6 ⟨rfl, h6⟩
  have H6 := Lib.hid h6
  clear h6 H5
  go_wp2_with fail
  with_reducible refine (key_n H6.out kC_none).mono ?_
  rintro e w7 ⟨rfl, h7⟩
  have H7 := Lib.hid h7
  clear h7 H6
  go_wp2_with fail
  have hl := len_a H7.out
  rw [show ((7 : Nat) : Int) = 7 by rfl, show ((3 : Nat) : Int) = 3 by rfl, kC_count] at hl
  with_reducible refine hl.mono ?_
  rintro e w8 ⟨rfl, h8⟩
  have H8 := Lib.hid h8
  clear h8 H7 hl
  go_wp2_with fail
  with_reducible refine (put_a H8.out 9 1).mono ?_
  rintro e w9 ⟨rfl, h9⟩
  rw [show putC 9 9 = 1 by rfl]
  have H9 := Lib.hid h9.frm
  clear h9 H8
  go_wp2_with fail
  go_ret
  exact ⟨rfl, H9.out⟩
end Go.Proofs.Yteclboaeoohfoaa
