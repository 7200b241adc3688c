/- The methods of a table that ask and write by a handle. -/
import Derived.Test.YtogjnclliaagbaaBase
namespace Go.Proofs.Ytogjnclliaagbaa
open Go.RowKit
section
variable {w : World} {p b cap : Nat} {L : List Slot}
theorem live_neg (h : TabAt w p b cap L) (s g : Int) (hs : s < 0) :
    Calls Try.prog 25 #[.pointer (some ⟨p, 0, none⟩), .agg #[.int .i64 s, .int .u64 g]] w fun e w' => e = .returned (.bool false) ∧ Frm (fun _ => False) w w' := by
  have h1 := h.cp0
  have hd : decide (s < 0) = true := by simpa using hs
  clear h
  go_enter Try.func25, Try.ntmps25
  go_wp2
  go_quiet (fail)
  go_wp2
  go_ret
  exact ⟨rfl, ((Frm.refl _ _).alloc _).drewN _⟩
theorem live_far (h : TabAt w p b cap L) (s : Nat) (g : Int) (hs : L.length ≤ s) :
    Calls Try.prog 25 #[.pointer (some ⟨p, 0, none⟩), .agg #[.int .i64 s, .int .u64 g]] w fun e w' => e = .returned (.bool false) ∧ Frm (fun _ => False) w w' := by
  have h1 := h.cp0
  have hd : decide ((s : Int) < 0) = false := by simp
  have hd2 : decide ((L.length : Int) ≤ (s : Int)) = true := by simpa using hs
  have hpl := h.ltp
  have hbl := h.ltb
  clear h
  go_enter Try.func25, Try.ntmps25
  go_wp2
  go_quiet (fail)
  go_wp2
  go_ret
  exact ⟨rfl, ((Frm.refl _ _).alloc _).drewN _⟩
theorem live_used (h : TabAt w p b cap L) (s : Nat) (g v g' : Int) (hs : L[s]? = some (.used g' v)) :
    Calls Try.prog 25 #[.pointer (some ⟨p, 0, none⟩), .agg #[.int .i64 s, .int .u64 g]] w fun e w' => e = .returned (.bool (g' == g)) ∧ Frm (fun _ => False) w w' := by
  have h1 := h.cp0
  have h2 := h.cb hs
  have hlt : s < L.length := (List.getElem?_eq_some_iff.1 hs).1
  have hd : decide ((s : Int) < 0) = false := by simp
  have hd2 : decide ((L.length : Int) ≤ (s : Int)) = false := by simpa using hlt
  have hpl := h.ltp
  have hbl := h.ltb
  clear hs h
  simp only [Slot.enc] at h2
  go_enter Try.func25, Try.ntmps25
  go_wp2
  go_quiet (fail)
  go_wp2
  go_region
  go_wp2
  go_ret
  exact ⟨rfl, (((Frm.refl _ _).alloc _).drewN _).alloc _⟩
theorem live_free (h : TabAt w p b cap L) (s : Nat) (g g' : Int) (hs : L[s]? = some (.free g')) :
    Calls Try.prog 25 #[.pointer (some ⟨p, 0, none⟩), .agg #[.int .i64 s, .int .u64 g]] w fun e w' => e = .returned (.bool false) ∧ Frm (fun _ => False) w w' := by
  have h1 := h.cp0
  have h2 := h.cb hs
  have hlt : s < L.length := (List.getElem?_eq_some_iff.1 hs).1
  have hd : decide ((s : Int) < 0) = false := by simp
  have hd2 : decide ((L.length : Int) ≤ (s : Int)) = false := by simpa using hlt
  have hpl := h.ltp
  have hbl := h.ltb
  clear hs h
  simp only [Slot.enc] at h2
  go_enter Try.func25, Try.ntmps25
  go_wp2
  go_quiet (fail)
  go_wp2
  go_region
  go_wp2
  go_ret
  exact ⟨rfl, (((Frm.refl _ _).alloc _).drewN _).alloc _⟩
theorem live_c (h : TabAt w p b cap L) (s g : Int) :
    Calls Try.prog 25 #[.pointer (some ⟨p, 0, none⟩), .agg #[.int .i64 s, .int .u64 g]] w fun e w' => e = .returned (.bool (at? L s g).isSome) ∧ Frm (fun _ => False) w w' := by
  by_cases hs : s < 0
  · have e : (at? L s g).isSome = false := by unfold at?; rw [if_pos hs]; rfl
    rw [e]; exact live_neg h s g hs
  · obtain ⟨n, rfl⟩ := Int.eq_ofNat_of_zero_le (show 0 ≤ s by omega)
    by_cases hn : L.length ≤ n
    · have e : (at? L n g).isSome = false := by unfold at?; rw [if_neg hs]; simp [List.getElem?_eq_none hn]
      rw [e]; exact live_far h n g hn
    · obtain ⟨x, hx⟩ : ∃ x, L[n]? = some x := ⟨_, List.getElem?_eq_getElem (by omega)⟩
      cases x with
      | free g' =>
        have e : (at? L n g).isSome = false := by unfold at?; rw [if_neg hs]; simp [hx]
        rw [e]; exact live_free h n g g' hx
      | used g' v =>
        have e : (at? L n g).isSome = (g' == g) := by
          unfold at?; rw [if_neg hs]
          by_cases hg : g' = g <;> simp [hx, hg]
        rw [e]; exact live_used h n g v g' hx

theorem get_none (h : TabAt w p b cap L) (s g : Int) (hs : at? L s g = none) :
    Calls Try.prog 14 #[.pointer (some ⟨p, 0, none⟩), .agg #[.int .i64 s, .int .u64 g]] w fun e w' => e = .returned (.tuple #[.int .i64 0, .int .i64 3]) ∧ Frm (fun _ => False) w w' := by
  have hlive := live_c (h.alloc (.cells #[.int .i64 s, .int .u64 g] 31)) s g
  rw [hs] at hlive
  have H := Lib.hid hlive
  clear hlive h hs
  go_enter Try.func14, Try.ntmps14
  go_wp2_with fail
  refine H.out.mono ?_
  rintro e w' ⟨rfl, hf⟩
  go_wp2
  go_ret2
  exact ⟨rfl, ((Frm.refl _ _).alloc _).trans hf⟩
theorem get_some (h : TabAt w p b cap L) (s g v : Int) (hs : at? L s g = some v) :
    Calls Try.prog 14 #[.pointer (some ⟨p, 0, none⟩), .agg #[.int .i64 s, .int .u64 g]] w fun e w' => e = .returned (.tuple #[.int .i64 v, .int .i64 0]) ∧ Frm (fun _ => False) w w' := by
  have hlive := live_c (h.alloc (.cells #[.int .i64 s, .int .u64 g] 31)) s g
  rw [hs] at hlive
  have H := Lib.hid hlive
  obtain ⟨n, rfl, hn⟩ := at?_some hs
  clear hlive hs
  go_enter Try.func14, Try.ntmps14
  go_wp2_with fail
  refine H.out.mono ?_
  rintro e w' ⟨rfl, hf⟩
  have ht := (h.alloc (.cells #[.int .i64 n, .int .u64 g] 31)).keep hf
  have h1 := ht.cp0
  have h2 := ht.cb hn
  have h3 : w'.cell? ⟨w.heap.size, 0, none⟩ = some (.int .i64 n) := hf.cell (by simp) id (by simp)
  have hlt : n < L.length := (List.getElem?_eq_some_iff.1 hn).1
  simp only [Slot.enc] at h2
  clear H h hn ht
  go_wp2
  go_quiet (fail)
  go_wp2
  go_ret2
  exact ⟨rfl, (((Frm.refl _ _).alloc _).trans hf).drewN _⟩

theorem set_none (h : TabAt w p b cap L) (s g x : Int) (hs : at? L s g = none) :
    Calls Try.prog 15 #[.pointer (some ⟨p, 0, none⟩), .agg #[.int .i64 s, .int .u64 g], .int .i64 x] w fun e w' => e = .returned (.int .i64 3) ∧ Frm (fun _ => False) w w' := by
  have hlive := live_c (h.alloc (.cells #[.int .i64 s, .int .u64 g] 31)) s g
  rw [hs] at hlive
  have H := Lib.hid hlive
  clear hlive h hs
  go_enter Try.func15, Try.ntmps15
  go_wp2_with fail
  refine H.out.mono ?_
  rintro e w' ⟨rfl, hf⟩
  go_wp2
  go_ret
  exact ⟨rfl, ((Frm.refl _ _).alloc _).trans hf⟩
theorem set_some (h : TabAt w p b cap L) (n : Nat) (g v x : Int) (hn : L[n]? = some (.used g v)) :
    Calls Try.prog 15 #[.pointer (some ⟨p, 0, none⟩), .agg #[.int .i64 n, .int .u64 g], .int .i64 x] w fun e w' => e = .returned (.int .i64 0) ∧
      TabAt w' p b cap (L.set n (.used g x)) ∧ Frm (fun k => k = b) w w' := by
  have hlive := live_c (h.alloc (.cells #[.int .i64 n, .int .u64 g] 31)) n g
  rw [show at? L n g = some v by unfold at?; simp [hn]] at hlive
  have H := Lib.hid hlive
  clear hlive
  go_enter Try.func15, Try.ntmps15
  go_wp2_with fail
  refine H.out.mono ?_
  rintro e w' ⟨rfl, hf⟩
  have ht := (h.alloc (.cells #[.int .i64 n, .int .u64 g] 31)).keep hf
  have h1 := ht.cp0
  have h2 := ht.cb hn
  have h2f := ht.fb n
  have h3 : w'.cell? ⟨w.heap.size, 0, none⟩ = some (.int .i64 n) := hf.cell (by simp) id (by simp)
  have h4 : w'.cell? ⟨w.heap.size, 1, none⟩ = some (.int .u64 g) := hf.cell (by simp) id (by simp)
  have hlt : n < L.length := (List.getElem?_eq_some_iff.1 hn).1
  simp only [Slot.enc] at h2
  have HT := Lib.hid ht
  have HN := Lib.hid hn
  have HL := Lib.hid h
  clear H h hn ht
  go_wp2
  go_region
  go_wp2
  go_ret
  refine ⟨rfl, ?_, ?_⟩
  · have hc := cnt_set (t := .used g x) HN.out
    refine (HT.out.set hlt (.used g x) ?_).drew
    simpa [Slot.isUsed] using hc
  · exact ((((Frm.refl (fun k => k = b) w).alloc _).trans hf.of_none).setCell (.inl rfl) _).drew
theorem drop_none (h : TabAt w p b cap L) (s g : Int) (hs : at? L s g = none) :
    Calls Try.prog 13 #[.pointer (some ⟨p, 0, none⟩), .agg #[.int .i64 s, .int .u64 g]] w fun e w' => e = .returned (.tuple #[.int .i64 0, .int .i64 3]) ∧ Frm (fun _ => False) w w' := by
  have hlive := live_c (h.alloc (.cells #[.int .i64 s, .int .u64 g] 31)) s g
  rw [hs] at hlive
  have H := Lib.hid hlive
  clear hlive h hs
  go_enter Try.func13, Try.ntmps13
  go_wp2_with fail
  refine H.out.mono ?_
  rintro e w' ⟨rfl, hf⟩
  go_wp2
  go_ret2
  exact ⟨rfl, ((Frm.refl _ _).alloc _).trans hf⟩
theorem drop_some (h : TabAt w p b cap L) (n : Nat) (g v : Int) (hn : L[n]? = some (.used g v)) :
    Calls Try.prog 13 #[.pointer (some ⟨p, 0, none⟩), .agg #[.int .i64 n, .int .u64 g]] w fun e w' => e = .returned (.tuple #[.int .i64 v, .int .i64 0]) ∧
      TabAt w' p b cap (L.set n (.free (IntKind.u64.wrap (g + 1)))) ∧ Frm (fun k => k = p ∨ k = b) w w' := by
  have hlive := live_c (h.alloc (.cells #[.int .i64 n, .int .u64 g] 31)) n g
  rw [show at? L n g = some v by unfold at?; simp [hn]] at hlive
  have H := Lib.hid hlive
  clear hlive
  go_enter Try.func13, Try.ntmps13
  go_wp2_with fail
  refine H.out.mono ?_
  rintro e w' ⟨rfl, hf⟩
  have ht := (h.alloc (.cells #[.int .i64 n, .int .u64 g] 31)).keep hf
  have h1 := ht.cp0
  have h1c := ht.cp1
  have h1f := ht.fp 1
  have h2 := ht.cb hn
  have h2f := ht.fb n
  have hne := ht.ne
  have hpl := ht.ltp
  have hbl := ht.ltb
  have h3 : w'.cell? ⟨w.heap.size, 0, none⟩ = some (.int .i64 n) := hf.cell (by simp) id (by simp)
  have h4 : w'.cell? ⟨w.heap.size, 1, none⟩ = some (.int .u64 g) := hf.cell (by simp) id (by simp)
  have hsz : w.heap.size < w'.heap.size := by have := hf.size; simp at this; omega
  have hlt : n < L.length := (List.getElem?_eq_some_iff.1 hn).1
  have hc1 := cnt_le L
  have hc2 := ht.len
  have hc3 := cnt_pos hn
  simp only [Slot.enc] at h2
  have HT := Lib.hid ht
  have HN := Lib.hid hn
  have HL := Lib.hid h
  clear H h hn ht
  go_wp2
  go_region
  go_wp2
  go_region
  go_wp2
  go_ret2
  refine ⟨rfl, ?_, ?_⟩
  · have hc := cnt_set (t := .free (IntKind.u64.wrap (g + 1))) HN.out
    refine (((HT.out.put hlt (.free (IntKind.u64.wrap (g + 1))) _ ?_).alloc _).drew).drew
    simp [Slot.isUsed] at hc
    omega
  · exact (((((((Frm.refl (fun k => k = p ∨ k = b) w).alloc _).trans hf.of_none).setCell (.inl (.inr rfl)) _).setCell (.inl (.inl rfl)) _).alloc _).drew).drew
theorem count_c (h : TabAt w p b cap L) :
    Calls Try.prog 16 #[.pointer (some ⟨p, 0, none⟩)] w fun e w' => e = .returned (.int .i64 (cnt L)) ∧ w = w' := by
  have h1c := h.cp1
  clear h
  go_enter Try.func16, Try.ntmps16
  go_wp2
  go_ret
  exact ⟨rfl, rfl⟩
end
end Go.Proofs.Ytogjnclliaagbaa
