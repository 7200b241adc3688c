/- The reference's table: Put, All, Same, New. -/
import Derived.Test.YtogjnclliaagbaaR1
import Derived.Test.YtogjnclliaagbaaHands
namespace Go.Proofs.Ytogjnclliaagbaa
open Go.RowKit
section
variable {w : World} {r g u v : Nat} {L : List Slot} {V : List Int}
theorem rput_full (h : RefAt w r g u v L V) (x : Int) (hall : ∀ j : Nat, j < L.length → ∃ g x, L[j]? = some (.used g x)) :
    Calls Try.prog 19 #[.pointer (some ⟨r, 0, none⟩), .int .i64 x] w fun e w' => e = .returned (.tuple #[.agg #[.int .i64 0, .int .u64 0], .int .i64 4]) ∧ Frm (fun _ => False) w w' := by
  have h1 := h.c1
  obtain ⟨l1, l2, l3, l4⟩ := h.lt
  have hlen := h.len
  have HA := Lib.hid hall
  have HT := Lib.hid h
  clear hall h
  go_enter Try.func19, Try.ntmps19
  go_wp2
  go_loop [6] (fun i => ∃ k : Nat, k ≤ L.length ∧ i = .int .i64 k) (fun i => L.length - (intOf i).toNat)
  case atStart => exact ⟨0, Nat.zero_le _, rfl⟩
  case round =>
    obtain ⟨k, hk, rfl⟩ := hrel
    by_cases hlt : k < L.length
    · have hd : decide (k < L.length) = true := by simpa using hlt
      obtain ⟨a, y, hx⟩ := HA.out k hlt
      have hu := HT.out.cu hx
      simp only [Slot.isUsed] at hu
      clear hx
      go_wp2
      go_round
      case rel => exact ⟨k + 1, by omega, by go_num⟩
      case measure => simp [intOf]; omega
    · have hd : decide (k < L.length) = false := by simpa using hlt
      go_wp2
      refine bodyPost_ret (v := .tuple #[.agg #[.int .i64 0, .int .u64 0], .int .i64 4]) (by simp [results, Try.results19, go_sem]) rfl ⟨rfl, ?_⟩
      exact (Frm.refl _ _).alloc _
theorem rput_free (h : RefAt w r g u v L V) (x a : Int) (n : Nat) (hn : L[n]? = some (.free a)) (hall : ∀ j : Nat, j < n → ∃ g x, L[j]? = some (.used g x)) :
    Calls Try.prog 19 #[.pointer (some ⟨r, 0, none⟩), .int .i64 x] w fun e w' => e = .returned (.tuple #[.agg #[.int .i64 n, .int .u64 a], .int .i64 0]) ∧ RefAt w' r g u v (L.set n (.used a x)) (V.set n x) ∧ Frm (fun k => k = g ∨ k = u ∨ k = v) w w' := by
  have h0 := h.c0
  have h1 := h.c1
  have h2 := h.c2
  obtain ⟨l1, l2, l3, l4⟩ := h.lt
  obtain ⟨n1, n2, n3, n4, n5, n6⟩ := h.ne
  have hlen := h.len
  have hnl : n < L.length := (List.getElem?_eq_some_iff.1 hn).1
  have HA := Lib.hid hall
  have HT := Lib.hid h
  have HN := Lib.hid hn
  clear hall h hn
  go_enter Try.func19, Try.ntmps19
  go_wp2
  go_loop [6] (fun i => ∃ k : Nat, k ≤ n ∧ i = .int .i64 k) (fun i => L.length - (intOf i).toNat)
  case atStart => exact ⟨0, Nat.zero_le _, rfl⟩
  case round =>
    obtain ⟨k, hk, rfl⟩ := hrel
    have hlt2 : k < L.length := by omega
    have hd : decide (k < L.length) = true := by simpa using hlt2
    by_cases hlt : k < n
    · obtain ⟨a, y, hx⟩ := HA.out k hlt
      have hu := HT.out.cu hx
      simp only [Slot.isUsed] at hu
      clear hx
      go_wp2
      go_round
      case rel => exact ⟨k + 1, by omega, by go_num⟩
      case measure => simp [intOf]; omega
    · obtain rfl : k = n := by omega
      have hu := HT.out.cu HN.out
      have hg := HT.out.cg HN.out
      simp only [Slot.isUsed, Slot.gen] at hu hg
      have huf := HT.out.vu.frozen k
      obtain ⟨y, _, hv⟩ := HT.out.cv hnl
      have hvf := HT.out.vv.frozen k
      go_wp2
      refine bodyPost_ret (v := .tuple #[.agg #[.int .i64 k, .int .u64 a], .int .i64 0]) (by simp [results, Try.results19, go_sem]) rfl ⟨rfl, ?_, ?_⟩
      · exact (HT.out.filled HN.out x).alloc _
      · exact (((Frm.refl (fun k => k = g ∨ k = u ∨ k = v) w).setCell (.inl (.inr (.inl rfl))) _).setCell (.inl (.inr (.inr rfl))) _).alloc _
theorem rput_c (h : RefAt w r g u v L V) (x : Int) : Calls Try.prog 19 #[.pointer (some ⟨r, 0, none⟩), .int .i64 x] w fun e w' =>
    ∃ s a c L' V', e = .returned (.tuple #[.agg #[.int .i64 s, .int .u64 a], .int .i64 c]) ∧ RefAt w' r g u v L' V' ∧ PutR L x s a c L' ∧ Frm (fun k => k = g ∨ k = u ∨ k = v) w w' := by
  rcases first_free L with ⟨n, a, hn, hall⟩ | hall
  · exact (rput_free h x a n hn hall).mono fun e w' ⟨he, ht, hf⟩ => ⟨n, a, 0, _, _, he, ht, .inl ⟨n, rfl, rfl, hn, hall, rfl⟩, hf⟩
  · exact (rput_full h x hall).mono fun e w' ⟨he, hf⟩ => ⟨0, 0, 4, L, V, he, h.keep hf, .inr ⟨rfl, rfl, rfl, rfl, hall⟩, hf.of_none⟩
theorem rall_c (h : RefAt w r g u v L V) :
    Calls Try.prog 23 #[.pointer (some ⟨r, 0, none⟩)] w fun e w' => ∃ A c, e = .returned (.slice A (hands L L.length).length c) ∧ RowsAt w' A 2 henc (hands L L.length) ∧ Frm (fun _ => False) w w' := by
  have h1 := h.c1
  have h0 := h.c0
  obtain ⟨l1, l2, l3, l4⟩ := h.lt
  have hlen := h.len
  have HT := Lib.hid h
  obtain ⟨i0, hi, hz0, hz1, hz2⟩ := info_parts info31
  clear h
  go_enter Try.func23, Try.ntmps23
  go_wp2
  go_loopw [3, 4] (fun v i wr => ∃ k : Nat, k ≤ L.length ∧ i = .int .i64 k ∧ wr.ownsRow w.heap.size 31 2 v (hands L k).length (hcells (hands L k)) ∧ Frm (fun _ => False) w wr) (fun _ i _ => L.length - (intOf i).toNat)
  case atStart => exact ⟨0, Nat.zero_le _, rfl, World.ownsRow_nil _ _ _ _, Frm.refl _ _⟩
  case round =>
    obtain ⟨k, hk, rfl, hown, hf⟩ := hrel
    have ht := HT.out.keep hf
    have h1 := ht.c1
    have h0 := ht.c0
    by_cases hlt : k < L.length
    · have hd : decide (k < L.length) = true := by simpa using hlt
      obtain ⟨x, hx⟩ : ∃ x, L[k]? = some x := ⟨_, List.getElem?_eq_getElem (by omega)⟩
      have hu := ht.cu hx
      have hg := ht.cg hx
      cases x with
      | free a =>
        have e : hands L (k + 1) = hands L k := by simp [hands, hx]
        simp only [Slot.isUsed] at hu
        have E := Lib.hid e
        have HO := Lib.hid hown
        clear hx ht e hown hg
        go_wp2
        go_roundw
        case rel => exact ⟨k + 1, by omega, by go_num, by rw [E.out]; exact HO.out, hf⟩
        case measure => simp [intOf]; omega
      | used a x =>
        have e : hands L (k + 1) = hands L k ++ [((k : Int), a)] := by simp [hands, hx]
        simp only [Slot.isUsed, Slot.gen] at hu hg
        have E := Lib.hid e
        have HO := Lib.hid hown
        clear hx ht e hown
        have hhl := hands_le L k
        have hsz := hf.size
        go_wp2_with (at_builtin; refine wpList_append_own _ rfl _ _ 46 rfl w.heap.size 31 i0 (.agg #[.int .i64 0, .int .u64 0]) 2 16 Try.underlying46 hi hz0 hz1 hz2 rfl (by decide) _ _ _ rfl (HO.out.alloc _) ⟨wr.heap.size, 0, none⟩ 1 1 [.int .i64 k, .int .u64 a] rfl rfl ?c1 ?c2 ?c3 ?c4 ?c5 ?_)
        case c1 =>
          intro j u hj
          match j, hj with
          | 0, hj => simp at hj; subst hj; simp [Addr.add, World.cell?_alloc_at]
          | 1, hj => simp at hj; subst hj; simp [Addr.add, World.cell?_alloc_at]
          | j + 2, hj => simp at hj
        case c2 => intro u hu; simp at hu; rcases hu with rfl | rfl <;> rfl
        case c3 => unfold maxLen; omega
        case c4 => omega
        case c5 => simp; omega
        intro v' w1 hown' hgrow _
        have hfr := (hf.alloc _).grown hgrow (own_base HO.out)
        have HF := Lib.hid hfr
        have HO' := Lib.hid hown'
        clear hfr hown' hgrow
        go_wp2
        go_roundw
        case rel => exact ⟨k + 1, by omega, by go_num, by rw [E.out]; simpa [hcells] using HO'.out, HF.out⟩
        case measure => simp [intOf]; omega
    · have hd : decide (k < L.length) = false := by simpa using hlt
      obtain rfl : k = L.length := by omega
      rw [hcells_eq] at hown
      obtain ⟨A, c, rfl, hrow, _⟩ := own_rows henc_length rfl hown
      have HO := Lib.hid hrow
      clear hown hrow ht
      go_wp2
      go_ret
      exact ⟨A, c, rfl, HO.out, hf⟩
theorem rsame_c (w : World) (A B : Option Addr) (cA cB : Nat) (H : List (Int × Int)) (ha : RowsAt w A 2 henc H) (hb : RowsAt w B 2 henc H) :
    Calls Try.prog 24 #[.slice A H.length cA, .slice B H.length cB] w fun e w' => e = .returned (.bool true) ∧ Frm (fun _ => False) w w' := by
  have hlen := ha.len
  have HA := Lib.hid ha
  have HB := Lib.hid hb
  clear ha hb
  have e0 : ((H.length : Int) != (H.length : Int)) = false := by simp
  go_enter Try.func24, Try.ntmps24
  go_wp2
  go_loopw [5] (fun i wr => ∃ k : Nat, k ≤ H.length ∧ i = .int .i64 k ∧ Frm (fun _ => False) w wr) (fun i _ => H.length - (intOf i).toNat)
  case atStart => exact ⟨0, Nat.zero_le _, rfl, Frm.refl _ _⟩
  case round =>
    obtain ⟨k, hk, rfl, hf⟩ := hrel
    by_cases hlt : k < H.length
    · have hd : decide (k < H.length) = true := by simpa using hlt
      obtain ⟨b1, o1, rfl, hb1, hc1⟩ := (HA.out.via hf (fun _ _ _ => id)).at_ (by omega)
      obtain ⟨b2, o2, rfl, hb2, hc2⟩ := (HB.out.via hf (fun _ _ _ => id)).at_ (by omega)
      obtain ⟨⟨s, a⟩, hx⟩ : ∃ x, H[k]? = some x := ⟨_, List.getElem?_eq_getElem (by omega)⟩
      have x0 := hc1 k (s, a) hx 0 _ rfl
      have x1 := hc1 k (s, a) hx 1 _ rfl
      have y0 := hc2 k (s, a) hx 0 _ rfl
      have y1 := hc2 k (s, a) hx 1 _ rfl
      simp only [Nat.add_zero] at x0 x1 y0 y1
      clear hc1 hc2 hx
      go_wp2
      go_region
      go_wp2
      go_roundw
      case rel => exact ⟨k + 1, by omega, by go_num, hf.drew⟩
      case measure => simp [intOf]; omega
    · have hd : decide (k < H.length) = false := by simpa using hlt
      go_wp2
      go_ret
      exact ⟨rfl, hf⟩
end
end Go.Proofs.Ytogjnclliaagbaa
