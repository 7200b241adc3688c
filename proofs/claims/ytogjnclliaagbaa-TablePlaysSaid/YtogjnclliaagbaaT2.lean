/- Put, All, New. -/
import Derived.Test.YtogjnclliaagbaaBase
namespace Go.Proofs.Ytogjnclliaagbaa
open Go.RowKit
section
variable {w : World} {p b cap : Nat} {L : List Slot}
theorem put_full (h : TabAt w p b cap L) (v : Int) (hall : ∀ j, j < L.length → ∃ g x, L[j]? = some (.used g x)) :
    Calls Try.prog 12 #[.pointer (some ⟨p, 0, none⟩), .int .i64 v] w fun e w' => e = .returned (.tuple #[.agg #[.int .i64 0, .int .u64 0], .int .i64 4]) ∧ Frm (fun _ => False) w w' := by
  have h1 := h.cp0
  have hpl := h.ltp
  have hlen := h.len
  have HA := Lib.hid hall
  have HT := Lib.hid h
  clear hall h
  go_enter Try.func12, Try.ntmps12
  go_wp2
  go_loopw [15] (fun i wr => ∃ k : Nat, k ≤ L.length ∧ i = .int .i64 k ∧ Frm (fun _ => False) (w.alloc (.cells #[.int .i64 0, .int .u64 0] 31)) wr) (fun i _ => L.length - (intOf i).toNat)
  case atStart => exact ⟨0, Nat.zero_le _, rfl, Frm.refl _ _⟩
  case round =>
    obtain ⟨k, hk, rfl, hf⟩ := hrel
    by_cases hlt : k < L.length
    · obtain ⟨g, x, hx⟩ := HA.out k hlt
      have ht := (HT.out.alloc (.cells #[.int .i64 0, .int .u64 0] 31)).keep hf
      have h2 := ht.cb hx
      simp only [Slot.enc] at h2
      clear hx ht h1
      go_wp2
      go_roundw
      case rel => exact ⟨k + 1, by omega, by go_num, hf.alloc _⟩
      case measure => simp [intOf]; omega
    · have hd : decide (k < L.length) = false := by simpa using hlt
      have h3 : wr.cell? ⟨w.heap.size, 0, none⟩ = some (.int .i64 0) := hf.cell (by simp) id (by simp)
      have h4 : wr.cell? ⟨w.heap.size, 1, none⟩ = some (.int .u64 0) := hf.cell (by simp) id (by simp)
      have hz3 : wr.frozen? ⟨w.heap.size, 0, none⟩ = false := hf.frozen (by simp) id (by simp)
      have hz4 : wr.frozen? ⟨w.heap.size, 1, none⟩ = false := hf.frozen (by simp) id (by simp)
      go_wp2
      refine bodyPost_ret (v := .tuple #[.agg #[.int .i64 0, .int .u64 0], .int .i64 4]) (by simp [results, Try.results12, go_sem, h3, h4]) rfl ⟨rfl, ?_⟩
      exact (((((Frm.refl _ _).alloc _).trans hf)).setCell (.inr (Nat.le_refl _)) _).setCell (.inr (Nat.le_refl _)) _
theorem put_free (h : TabAt w p b cap L) (v g : Int) (n : Nat) (hn : L[n]? = some (.free g)) (hall : ∀ j, j < n → ∃ g x, L[j]? = some (.used g x)) :
    Calls Try.prog 12 #[.pointer (some ⟨p, 0, none⟩), .int .i64 v] w fun e w' => e = .returned (.tuple #[.agg #[.int .i64 n, .int .u64 g], .int .i64 0]) ∧
      TabAt w' p b cap (L.set n (.used g v)) ∧ Frm (fun k => k = p ∨ k = b) w w' := by
  have h1 := h.cp0
  have hpl := h.ltp
  have hlen := h.len
  have hnl : n < L.length := (List.getElem?_eq_some_iff.1 hn).1
  have hne := h.ne
  have hc1 := cnt_lt hn
  have HA := Lib.hid hall
  have HT := Lib.hid h
  have HN := Lib.hid hn
  clear hall h hn
  go_enter Try.func12, Try.ntmps12
  go_wp2
  go_loopw [15] (fun i wr => ∃ k : Nat, k ≤ n ∧ i = .int .i64 k ∧ Frm (fun _ => False) (w.alloc (.cells #[.int .i64 0, .int .u64 0] 31)) wr) (fun i _ => L.length - (intOf i).toNat)
  case atStart => exact ⟨0, Nat.zero_le _, rfl, Frm.refl _ _⟩
  case round =>
    obtain ⟨k, hk, rfl, hf⟩ := hrel
    have ht := (HT.out.alloc (.cells #[.int .i64 0, .int .u64 0] 31)).keep hf
    by_cases hlt : k < n
    · obtain ⟨g, x, hx⟩ := HA.out k hlt
      have h2 := ht.cb hx
      have hlt2 : k < L.length := by omega
      simp only [Slot.enc] at h2
      clear hx ht h1
      go_wp2
      go_roundw
      case rel => exact ⟨k + 1, by omega, by go_num, hf.alloc _⟩
      case measure => simp [intOf]; omega
    · obtain rfl : k = n := by omega
      have h2 := ht.cb HN.out
      have h2f := ht.fb k
      have h1 := ht.cp0
      have h1c := ht.cp1
      have h1f := ht.fp 1
      have hpl := ht.ltp
      have hbl := ht.ltb
      have h3 : wr.cell? ⟨w.heap.size, 0, none⟩ = some (.int .i64 0) := hf.cell (by simp) id (by simp)
      have h4 : wr.cell? ⟨w.heap.size, 1, none⟩ = some (.int .u64 0) := hf.cell (by simp) id (by simp)
      have hz3 : wr.frozen? ⟨w.heap.size, 0, none⟩ = false := hf.frozen (by simp) id (by simp)
      have hz4 : wr.frozen? ⟨w.heap.size, 1, none⟩ = false := hf.frozen (by simp) id (by simp)
      have hsz : w.heap.size < wr.heap.size := by have := hf.size; simp at this; omega
      have hn1 : p ≠ w.heap.size := by omega
      have hn2 : b ≠ w.heap.size := by have := HT.out.ltb; omega
      simp only [Slot.enc] at h2
      have HT2 := Lib.hid ht
      clear ht
      go_wp2
      go_region
      go_wp2
      refine bodyPost_ret (v := .tuple #[.agg #[.int .i64 k, .int .u64 g], .int .i64 0]) (by simp [results, Try.results12, go_sem, h3, h4, hsz]) rfl ⟨rfl, ?_, ?_⟩
      · have hc := cnt_set (t := .used g v) HN.out
        simp only [Slot.isUsed] at hc
        have t1 := HT2.out.put hnl (.used g v) (cnt L + 1) (by simp at hc; omega)
        exact ((t1.frm (((Frm.refl (fun q => q = w.heap.size) _).setCell (.inl rfl) _).setCell (.inl rfl) _) hn1 hn2).alloc _).drew
      · exact ((((((((Frm.refl (fun q => q = p ∨ q = b) w).alloc _).trans hf.of_none).setCell (.inl (.inr rfl)) _).setCell (.inl (.inl rfl)) _).setCell (.inr (Nat.le_refl _)) _).setCell (.inr (Nat.le_refl _)) _).alloc _).drew

/-- The cells of handles. -/
def hcells (H : List (Int × Int)) : List Value := H.flatMap fun h => [.int .i64 h.1, .int .u64 h.2]
/-- The handles of the first n slots. -/
def hands (L : List Slot) : Nat → List (Int × Int)
  | 0 => []
  | n + 1 => hands L n ++ (match L[n]? with | some (.used g _) => [((n : Int), g)] | _ => [])
theorem hcells_length (H : List (Int × Int)) : (hcells H).length = H.length * 2 := by
  induction H with
  | nil => rfl
  | cons a H ih => simp [hcells, List.flatMap_cons] at ih ⊢; omega
theorem hands_le (L : List Slot) (n : Nat) : (hands L n).length ≤ n := by
  induction n with
  | zero => simp [hands]
  | succ n ih => simp only [hands, List.length_append]; split <;> simp <;> omega
theorem info31 : (Try.prog.info? 31).map (fun i => (i.zero, i.size, i.bytes)) = some (some (.agg #[.int .i64 0, .int .u64 0]), 2, 16) := by kernel_rfl
theorem all_c (h : TabAt w p b cap L) :
    Calls Try.prog 17 #[.pointer (some ⟨p, 0, none⟩)] w fun e w' => ∃ v, e = .returned v ∧ w'.ownsRow w.heap.size 31 2 v (hands L L.length).length (hcells (hands L L.length)) ∧ Frm (fun _ => False) w w' := by
  have h1 := h.cp0
  have hpl := h.ltp
  have hlen := h.len
  have HT := Lib.hid h
  obtain ⟨i0, hi, hz0, hz1, hz2⟩ := info_parts info31
  clear h
  go_enter Try.func17, Try.ntmps17
  go_wp2
  go_loopw [3, 13] (fun v i wr => ∃ k : Nat, k ≤ L.length ∧ i = .int .i64 k ∧ wr.ownsRow w.heap.size 31 2 v (hands L k).length (hcells (hands L k)) ∧ Frm (fun _ => False) w wr) (fun _ i _ => L.length - (intOf i).toNat)
  case atStart => exact ⟨0, Nat.zero_le _, rfl, World.ownsRow_nil _ _ _ _, Frm.refl _ _⟩
  case round =>
    obtain ⟨k, hk, rfl, hown, hf⟩ := hrel
    have ht := HT.out.keep hf
    by_cases hlt : k < L.length
    · obtain ⟨x, hx⟩ : ∃ x, L[k]? = some x := ⟨_, List.getElem?_eq_getElem (by omega)⟩
      have h2 := ht.cb hx
      cases x with
      | free g =>
        have e : hands L (k + 1) = hands L k := by simp [hands, hx]
        simp only [Slot.enc] at h2
        have E := Lib.hid e
        have HO := Lib.hid hown
        clear hx ht h1 e hown
        go_wp2
        go_roundw
        case rel => exact ⟨k + 1, by omega, by go_num, by rw [E.out]; exact HO.out.alloc _, hf.alloc _⟩
        case measure => simp [intOf]; omega
      | used g x =>
        have e : hands L (k + 1) = hands L k ++ [((k : Int), g)] := by simp [hands, hx]
        simp only [Slot.enc] at h2
        have E := Lib.hid e
        have HO := Lib.hid hown
        clear hx ht h1 e hown
        have hhl := hands_le L k
        have hsz := hf.size
        go_wp2_with (at_builtin; refine wpList_append_own _ rfl _ _ 46 rfl w.heap.size 31 i0 (.agg #[.int .i64 0, .int .u64 0]) 2 16 Try.underlying46 hi hz0 hz1 hz2 rfl (by decide) _ _ _ rfl ((HO.out.alloc _).alloc _) ⟨wr.heap.size + 1, 0, none⟩ 1 1 [.int .i64 k, .int .u64 g] rfl rfl ?c1 ?c2 ?c3 ?c4 ?c5 ?_)
        case c1 =>
          intro j u hj
          match j, hj with
          | 0, hj => simp at hj; subst hj; simp [Addr.add, World.cell?_alloc_at]
          | 1, hj => simp at hj; subst hj; simp [Addr.add, World.cell?_alloc_at]
          | j + 2, hj => simp at hj
        case c2 => intro u hu; simp at hu; rcases hu with rfl | rfl <;> rfl
        case c3 => unfold maxLen; omega
        case c4 => omega
        case c5 => simp; omega
        intro v' w1 hown' hgrow _
        have hfr := ((hf.alloc _).alloc _).grown hgrow (own_base HO.out)
        have HF := Lib.hid hfr
        have HO' := Lib.hid hown'
        clear hfr hown' hgrow
        go_wp2
        go_roundw
        case rel => exact ⟨k + 1, by omega, by go_num, by rw [E.out]; simpa [hcells] using HO'.out, HF.out⟩
        case measure => simp [intOf]; omega
    · have hd : decide (k < L.length) = false := by simpa using hlt
      obtain rfl : k = L.length := by omega
      have HO := Lib.hid hown
      clear hown
      go_wp2
      go_ret
      exact ⟨_, rfl, HO.out, hf⟩
end
end Go.Proofs.Ytogjnclliaagbaa
