/- mend. -/
import Derived.Test.YteclboaeoohfoaaH4
namespace Go.Proofs.Yteclboaeoohfoaa
open Go.RowKit
theorem upF_len : ∀ (i : Nat) (M : List Mb), (upF M i).length = M.length := by
  intro i
  induction i using Nat.strongRecOn with
  | _ i ih =>
    intro M
    rw [upF]
    split
    · rename_i h0
      split
      · split
        · rw [ih _ (by omega), sw_len]
        · rfl
      · rfl
    · rfl
def mendF (M : List Mb) (i : Nat) : List Mb := if i < M.length then downF (upF M i) i else M
section
variable {w : World} {p n : Nat} {v vp : Value} {M : List Mb} {pl : Nat → Int}
def fval (f p : Nat) : Value := .func (.func f) #[.pointer (some ⟨p, 0, none⟩)] #[]
def MendAt (w wr : World) (p n : Nat) (v vp : Value) (M : List Mb) : Prop := (∃ pl', HpIs wr p n v vp M pl') ∧ Frm (Ter p v vp) w wr ∧ wr.cell? ⟨w.heap.size, 0, none⟩ = some (fval 26 p) ∧ wr.cell? ⟨w.heap.size, 1, none⟩ = some (fval 27 p)
def stg (M : List Mb) (i : Nat) : Nat → List Mb
  | 0 => M
  | 1 => upF M i
  | _ => downF (upF M i) i
theorem MendAt.step {w wr w3 : World} {M M' : List Mb} (h : MendAt w wr p n v vp M) (hp : ∀ k, Ter p v vp k → k < w.heap.size) (h3 : ∃ pl', HpIs w3 p n v vp M' pl') (hf : Frm (Ter p v vp) wr w3) : MendAt w w3 p n v vp M' := by
  obtain ⟨_, h2, h4, h5⟩ := h
  have hlt := lt_of_cell h4
  exact ⟨h3, h2.trans hf, hf.cell hlt (fun e => by have := hp _ e; omega) h4, hf.cell hlt (fun e => by have := hp _ e; omega) h5⟩
set_option maxRecDepth 100000 in
set_option maxHeartbeats 1000000 in
theorem mend_c (h : HpIs w p n v vp M pl) (i : Nat) :
    Calls Try.prog 24 #[.pointer (some ⟨p, 0, none⟩), .int .i64 i] w fun e w' => e = .returned (.tuple #[]) ∧ (∃ pl', HpIs w' p n v vp (mendF M i) pl') ∧ Frm (Ter p v vp) w w' := by
  have hn := h.hn
  have hl := h.len
  obtain ⟨A, cap, rfl⟩ := h.list
  have HH := Lib.hid h
  generalize hv : Value.slice A M.length cap = v at *
  have HV := Lib.hid hv
  clear h hv
  by_cases hi : i < M.length
  · go_enter Try.func24, Try.ntmps24
    go_wp2_with fail
    go_loopw [12] (fun s wr => ∃ k : Nat, s = .int .i64 k ∧ k ≤ 2 ∧ Hid (MendAt w wr p n v vp (stg M i k))) (fun s _ => 2 - (intOf s).toNat)
    case atStart =>
      have hk := HH.out.keep ((Frm.refl (fun _ => False) w).alloc (.cells #[fval 26 p, fval 27 p] 58))
      exact ⟨0, rfl, by omega, Lib.hid ⟨⟨_, hk⟩, (Frm.refl _ _).alloc _, by simp [fval], by simp [fval]⟩⟩
    case round =>
      obtain ⟨k, rfl, hk, HX⟩ := hrel
      have HT := Lib.hid (fun k hk => HH.out.terlt (k := k) hk)
      clear HH
      have hx := HX.out
      obtain ⟨⟨pl1, h1⟩, hf1, f0, f1⟩ := hx
      have c0 := h1.c0
      have H1 := Lib.hid h1
      have F1 := Lib.hid hf1
      clear h1 hf1
      simp only [fval] at f0 f1
      rcases (by omega : k = 0 ∨ k = 1 ∨ k = 2) with rfl | rfl | rfl
      · simp only [stg] at H1
        rw [← HV.out] at c0
        have d1 : (i : Int) < (M.length : Int) := by omega
        go_wp2_with fail
        with_reducible refine (up_c H1.out hi).mono ?_
        rintro e w3 ⟨rfl, h3, hf3⟩
        have HM := Lib.hid (HX.out.step HT.out h3 hf3)
        clear h3 hf3
        go_wp2_with fail
        go_roundw
        · exact ⟨1, rfl, by omega, HM⟩
        · simp [intOf]
      · simp only [stg] at H1
        obtain ⟨A', cap', hv'⟩ := H1.out.list
        rw [upF_len] at hv'
        rw [hv'] at c0
        have d1 : (i : Int) < (M.length : Int) := by omega
        have HV' := Lib.hid hv'
        clear hv'
        go_wp2_with fail
        with_reducible refine (down_c H1.out (by rw [upF_len]; exact hi)).mono ?_
        rintro e w3 ⟨rfl, h3, hf3⟩
        have HM := Lib.hid (HX.out.step HT.out h3 hf3)
        clear h3 hf3
        go_wp2_with fail
        go_roundw
        · exact ⟨2, rfl, by omega, HM⟩
        · simp [intOf]
      · go_wp2_with fail
        refine bodyPost_end (v := .tuple #[]) (by simp [results, Try.results24, go_sem]) rfl ⟨rfl, ⟨pl1, ?_⟩, F1.out⟩
        have := H1.out
        simpa only [mendF, hi, if_true, stg] using this
  · go_enter Try.func24, Try.ntmps24
    go_wp2_with fail
    go_loopw [12] (fun s wr => ∃ k : Nat, s = .int .i64 k ∧ k ≤ 2 ∧ Hid (MendAt w wr p n v vp M)) (fun s _ => 2 - (intOf s).toNat)
    case atStart =>
      have hk := HH.out.keep ((Frm.refl (fun _ => False) w).alloc (.cells #[fval 26 p, fval 27 p] 58))
      exact ⟨0, rfl, by omega, Lib.hid ⟨⟨_, hk⟩, (Frm.refl _ _).alloc _, by simp [fval], by simp [fval]⟩⟩
    case round =>
      obtain ⟨k, rfl, hk, HX⟩ := hrel
      clear HH
      have hx := HX.out
      obtain ⟨⟨pl1, h1⟩, hf1, f0, f1⟩ := hx
      have c0 := h1.c0
      have H1 := Lib.hid h1
      have F1 := Lib.hid hf1
      clear h1 hf1
      simp only [fval] at f0 f1
      rw [← HV.out] at c0
      have d1 : decide ((i : Int) < (M.length : Int)) = false := by simp; omega
      rcases (by omega : k = 0 ∨ k = 1 ∨ k = 2) with rfl | rfl | rfl
      · go_wp2_with fail
        go_roundw
        · exact ⟨1, rfl, by omega, HX⟩
        · simp [intOf]
      · go_wp2_with fail
        go_roundw
        · exact ⟨2, rfl, by omega, HX⟩
        · simp [intOf]
      · go_wp2_with fail
        refine bodyPost_end (v := .tuple #[]) (by simp [results, Try.results24, go_sem]) rfl ⟨rfl, ⟨pl1, ?_⟩, F1.out⟩
        have := H1.out
        simpa only [mendF, hi, if_false] using this
end
end Go.Proofs.Yteclboaeoohfoaa
