/- New. -/
import Derived.Test.YtogjnclliaagbaaBase
namespace Go.Proofs.Ytogjnclliaagbaa
open Go.RowKit
theorem new_bad (w : World) (s : Int) (hs : s < 1 ∨ 1000 < s) :
    Calls Try.prog 11 #[.int .i64 s] w fun e w' => e = .returned (.tuple #[.pointer none, .int .i64 1]) ∧ w = w' := by
  rcases hs with hs | hs
  · have hd : decide (s < 1) = true := by simpa using hs
    go_enter Try.func11, Try.ntmps11
    go_wp2
    go_ret2
    exact ⟨rfl, rfl⟩
  · have hd : decide (s < 1) = false := by simp; omega
    have hd2 : decide (1000 < s) = true := by simpa using hs
    go_enter Try.func11, Try.ntmps11
    go_wp2
    go_ret2
    exact ⟨rfl, rfl⟩
theorem info20 : (Try.prog.info? 20).map (fun i => (i.zero, i.size, i.bytes)) = some (some .nilIface, 1, 16) := by kernel_rfl
def fresh (n : Nat) : List Slot := List.replicate n (.free 1)
def freshv (n : Nat) : List Value := List.replicate n (.iface 61 (.agg #[.int .u64 1]))
theorem freshv_succ (n : Nat) : freshv (n + 1) = freshv n ++ [.iface 61 (.agg #[.int .u64 1])] := List.replicate_succ'
theorem cnt_fresh (n : Nat) : cnt (fresh n) = 0 := by simp [cnt, fresh, List.countP_replicate, Slot.isUsed]
theorem new_ok (w : World) (n : Nat) (h1 : 1 ≤ n) (h2 : n ≤ 1000) :
    Calls Try.prog 11 #[.int .i64 n] w fun e w' => ∃ b cap, e = .returned (.tuple #[.pointer (some ⟨w.heap.size, 0, none⟩), .int .i64 0]) ∧
      TabAt w' w.heap.size b cap (fresh n) ∧ w.heap.size < b ∧ Frm (fun _ => False) w w' := by
  have hd : decide ((n : Int) < 1) = false := by simp; omega
  have hd2 : decide (1000 < (n : Int)) = false := by simp; omega
  obtain ⟨i0, hi, hz0, hz1, hz2⟩ := info_parts info20
  go_enter Try.func11, Try.ntmps11
  go_wp2
  go_loopw [14] (fun i wr => ∃ k : Nat, k ≤ n ∧ i = .int .i64 k ∧ ∃ v, wr.heap[w.heap.size]? = some (.cells #[v, .int .i64 0] 59 (0, 0)) ∧ wr.ownsRow (w.heap.size + 1) 20 1 v k (freshv k) ∧ Frm (fun _ => False) w wr) (fun i _ => n - (intOf i).toNat)
  case atStart => exact ⟨0, Nat.zero_le _, rfl, .slice none 0 0, heap_alloc_new _ _, World.ownsRow_nil _ _ _ _, (Frm.refl _ _).alloc _⟩
  case round =>
    obtain ⟨k, hk, rfl, v, hp, hown, hf⟩ := hrel
    by_cases hlt : k < n
    · have hc : wr.cell? ⟨w.heap.size, 0, none⟩ = some v := by simp [World.cell?, hp]
      have hc1 : wr.frozen? ⟨w.heap.size, 0, none⟩ = false := by simp [World.frozen?, hp]
      have hps := lt_of_block hp
      have HP := Lib.hid hp
      have HO := Lib.hid hown
      have HF := Lib.hid hf
      clear hp hown hf
      go_wp2_with (at_builtin; refine wpList_append_own _ rfl _ _ 57 rfl (w.heap.size + 1) 20 i0 .nilIface 1 16 Try.underlying57 hi hz0 hz1 hz2 rfl (by decide) _ _ _ rfl (HO.out.alloc _) ⟨wr.heap.size, 0, none⟩ 1 1 [.iface 61 (.agg #[.int .u64 1])] rfl rfl ?c1 ?c2 ?c3 ?c4 ?c5 ?_)
      case c1 =>
        intro j u hj
        match j, hj with
        | 0, hj => simp at hj; subst hj; simp [Addr.add]
        | j + 1, hj => simp at hj
      case c2 => intro u hu; simp at hu; subst hu; rfl
      case c3 => unfold maxLen; omega
      case c4 => omega
      case c5 => simp; omega
      intro v' w1 hown' hgrow _
      obtain ⟨A, c, rfl⟩ := own_slice hown'
      have hb0 := own_base HO.out
      have hp1 : w1.heap[w.heap.size]? = some (.cells #[v, .int .i64 0] 59 (0, 0)) := by
        rw [hgrow.block _ (by simp; omega) (fun e => by have := hb0 _ e.symm; omega)]
        exact blk_alloc HP.out _
      have hfr := (HF.out.alloc (.cells #[.iface 61 (.agg #[.int .u64 1])] 20)).grown hgrow (fun q hq => by have := hb0 q hq; omega)
      have hcc : w1.cell? ⟨w.heap.size, 0, none⟩ = some v := by simp [World.cell?, hp1]
      have hcf : w1.frozen? ⟨w.heap.size, 0, none⟩ = false := by simp [World.frozen?, hp1]
      have HP1 := Lib.hid hp1
      have HO1 := Lib.hid hown'
      have HF1 := Lib.hid hfr
      clear hp1 hown' hfr hgrow
      go_wp2
      go_roundw
      case rel =>
        refine ⟨k + 1, by omega, by go_num, .slice A (k + 1) c, ?_, ?_, HF1.out.setCell (.inr (Nat.le_refl _)) _⟩
        · simpa using blk_setCell (i := 0) HP1.out (.slice A (k + 1) c)
        · rw [freshv_succ]
          exact ownsRow_setCell_below HO1.out (by simp) _
      case measure => simp [intOf]; omega
    · have hd3 : decide (k < n) = false := by simpa using hlt
      obtain rfl : k = n := by omega
      have HP := Lib.hid hp
      have HO := Lib.hid hown
      have HF := Lib.hid hf
      clear hp hown hf
      go_wp2
      go_ret2
      rcases HO.out.2 with ⟨_, h0⟩ | ⟨g, cap, cur, rfl, hg, hh, hcap, hm, hsz, htake⟩
      · omega
      · refine ⟨g, cap, rfl, ⟨by omega, by simpa [fresh] using h2, ?_, ?_⟩, by omega, HF.out⟩
        · rw [HP.out, cnt_fresh]; simp [fresh]
        · refine ⟨cur.toList.drop k, ?_⟩
          rw [hh]
          have : (fresh k).map Slot.enc = cur.toList.take k := by
            simp only [Nat.mul_one] at htake
            rw [htake]; simp [fresh, freshv, Slot.enc]
          rw [this, List.take_append_drop]
theorem new_okI (w : World) (s : Int) (h1 : 1 ≤ s) (h2 : s ≤ 1000) :
    Calls Try.prog 11 #[.int .i64 s] w fun e w' => ∃ b cap, e = .returned (.tuple #[.pointer (some ⟨w.heap.size, 0, none⟩), .int .i64 0]) ∧
      TabAt w' w.heap.size b cap (fresh s.toNat) ∧ w.heap.size < b ∧ Frm (fun _ => False) w w' := by
  obtain ⟨n, rfl⟩ := Int.eq_ofNat_of_zero_le (show 0 ≤ s by omega)
  exact new_ok w n (by omega) (by omega)
end Go.Proofs.Ytogjnclliaagbaa
