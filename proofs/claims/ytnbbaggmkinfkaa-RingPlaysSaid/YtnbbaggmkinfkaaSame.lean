/- Same; two rings side by side. -/
import Derived.Test.YtnbbaggmkinfkaaFun
namespace Go.Proofs.Ytnbbaggmkinfkaa
open Go.RowKit
set_option maxRecDepth 100000 in
set_option maxHeartbeats 2000000 in
theorem same_c (w : World) (A B : Option Addr) (c c' : Nat) (l : List DM) (hA : RowsAt w A 9 DM.cells l) (hB : RowsAt w B 9 DM.cells l) :
    Calls Try.prog 17 #[.slice A l.length c, .slice B l.length c'] w fun e w' => e = .returned (.bool true) ∧ Frm (fun _ => False) w w' := by
  have HA := Lib.hid hA
  have HB := Lib.hid hB
  have hlen := hA.len
  clear hA hB
  go_enter Try.func17, Try.ntmps17
  go_wp2_with fail
  go_loopw [5] (fun i wr => ∃ k : Nat, k ≤ l.length ∧ i = .int .i64 k ∧ Frm (fun _ => False) w wr) (fun i _ => l.length - (intOf i).toNat)
  case atStart => exact ⟨0, by omega, rfl, Frm.refl _ _⟩
  case round =>
    obtain ⟨k, hk, rfl, hf⟩ := hrel
    have HF := Lib.hid hf
    clear hf
    by_cases hlt : k < l.length
    · have hd : decide (k < l.length) = true := by simpa using hlt
      obtain ⟨d, hd'⟩ : ∃ d, l[k]? = some d := ⟨_, List.getElem?_eq_getElem hlt⟩
      obtain ⟨b0, off, rfl, hb0, hc⟩ := HA.out.at_ (by omega)
      obtain ⟨b1, off1, rfl, hb1, hc1⟩ := HB.out.at_ (by omega)
      have e0 := fun j v hj => HF.out.cell hb0 id (hc k d hd' j v hj)
      have e1 := fun j v hj => HF.out.cell hb1 id (hc1 k d hd' j v hj)
      have x0 := e0 0 _ rfl
      have x1 := e0 1 _ rfl
      have x2 := e0 2 _ rfl
      have x3 := e0 3 _ rfl
      have x4 := e0 4 _ rfl
      have x5 := e0 5 _ rfl
      have x6 := e0 6 _ rfl
      have x7 := e0 7 _ rfl
      have x8 := e0 8 _ rfl
      have z0 := e1 0 _ rfl
      have z1 := e1 1 _ rfl
      have z2 := e1 2 _ rfl
      have z3 := e1 3 _ rfl
      have z4 := e1 4 _ rfl
      have z5 := e1 5 _ rfl
      have z6 := e1 6 _ rfl
      have z7 := e1 7 _ rfl
      have z8 := e1 8 _ rfl
      simp only [Nat.add_zero] at x0 z0
      clear e0 e1 hc hc1 hd'
      go_wp2_with fail
      go_quiet (fail)
      go_wp2_with fail
      go_roundw
      case rel => exact ⟨k + 1, by omega, by go_num, HF.out.drewN _⟩
      case measure => simp [intOf]; omega
    · have hd : decide (k < l.length) = false := by simpa using hlt
      go_wp2_with fail
      go_ret
      exact ⟨rfl, HF.out⟩
structure Two (w wr : World) (p b q d n : Nat) (L : List DM) (t r : Nat) (M : List DM) (t' r' : Nat) : Prop where
  hp : w.heap.size ≤ p ∧ w.heap.size ≤ b ∧ w.heap.size ≤ q ∧ w.heap.size ≤ d
  ne : p ≠ q ∧ p ≠ d ∧ b ≠ q ∧ b ≠ d
  frm : Frm (fun k => w.heap.size ≤ k) w wr
  one : ∃ P, RingIs wr p b n L t r P
  two : ∃ P, RingIs wr q d n M t' r' P
section
variable {w wr : World} {p b q d n t r t' r' : Nat} {L M : List DM}
theorem Two.keep {w' : World} (h : Two w wr p b q d n L t r M t' r') (hf : Frm (fun _ => False) wr w') : Two w w' p b q d n L t r M t' r' := by
  obtain ⟨hp, hn, hf0, ⟨P, h1⟩, ⟨Q, h2⟩⟩ := h
  exact ⟨hp, hn, hf0.trans hf.of_none, ⟨P, h1.keep hf⟩, ⟨Q, h2.keep hf⟩⟩
theorem Two.alloc (h : Two w wr p b q d n L t r M t' r') (o : Obj) : Two w (wr.alloc o) p b q d n L t r M t' r' := h.keep ((Frm.refl _ _).alloc o)
theorem Two.next1 {w' : World} {L1 : List DM} {t1 r1 : Nat} {P1 : List (Option DM)} (h : Two w wr p b q d n L t r M t' r') (hr : RingIs w' p b n L1 t1 r1 P1) (hf : Frm (fun k => k = p ∨ k = b) wr w') : Two w w' p b q d n L1 t1 r1 M t' r' := by
  obtain ⟨hp, hn, hf0, _, ⟨Q, h2⟩⟩ := h
  exact ⟨hp, hn, hf0.trans (hf.up (by omega)), ⟨_, hr⟩, ⟨Q, h2.frm hf (by omega) (by omega)⟩⟩
theorem Two.next2 {w' : World} {L1 : List DM} {t1 r1 : Nat} {P1 : List (Option DM)} (h : Two w wr p b q d n L t r M t' r') (hr : RingIs w' q d n L1 t1 r1 P1) (hf : Frm (fun k => k = q ∨ k = d) wr w') : Two w w' p b q d n L t r L1 t1 r1 := by
  obtain ⟨hp, hn, hf0, ⟨P, h1⟩, _⟩ := h
  exact ⟨hp, hn, hf0.trans (hf.up (by omega)), ⟨P, h1.frm hf (by omega) (by omega)⟩, ⟨_, hr⟩⟩
theorem Two.step1 (h : Two w wr p b q d n L t r M t' r') (o : DoM) (hmax : L.length < 1000000) :
    Calls Try.prog 15 #[.pointer (some ⟨p, 0, none⟩), .agg o.enc.toArray] wr fun e w' =>
      e = .returned (.tuple #[.agg (stepF n L t r o).d.cells.toArray, .int .i64 (stepF n L t r o).c]) ∧ Two w w' p b q d n (stepF n L t r o).L (stepF n L t r o).t (stepF n L t r o).r M t' r' := by
  obtain ⟨P, h1⟩ := h.one
  refine (step_c h1 o hmax).mono ?_
  rintro e w' ⟨P', rfl, hr, hf⟩
  exact ⟨rfl, h.next1 hr hf⟩
theorem Two.step2 (h : Two w wr p b q d n L t r M t' r') (o : DoM) (hmax : M.length < 1000000) :
    Calls Try.prog 15 #[.pointer (some ⟨q, 0, none⟩), .agg o.enc.toArray] wr fun e w' =>
      e = .returned (.tuple #[.agg (stepF n M t' r' o).d.cells.toArray, .int .i64 (stepF n M t' r' o).c]) ∧ Two w w' p b q d n L t r (stepF n M t' r' o).L (stepF n M t' r' o).t (stepF n M t' r' o).r ∧ Frm (fun k => k = q ∨ k = d) wr w' := by
  obtain ⟨P, h1⟩ := h.two
  refine (step_c h1 o hmax).mono ?_
  rintro e w' ⟨P', rfl, hr, hf⟩
  exact ⟨rfl, h.next2 hr hf, hf⟩
theorem Two.lt (h : Two w wr p b q d n L t r M t' r') : p < wr.heap.size ∧ b < wr.heap.size ∧ q < wr.heap.size ∧ d < wr.heap.size := by
  obtain ⟨hp, hn, hf0, ⟨P, h1⟩, ⟨Q, h2⟩⟩ := h
  exact ⟨h1.lt.1, h1.lt.2, h2.lt.1, h2.lt.2⟩
theorem cells_len (d : DM) : d.cells.length = 9 := rfl
theorem Two.reset1 (h : Two w wr p b q d n L t r M t' r') :
    Calls Try.prog 16 #[.pointer (some ⟨p, 0, none⟩)] wr fun e w' => ∃ A c, e = .returned (.slice A (L.length - r) c) ∧ RowsAt w' A 9 DM.cells (L.drop r) ∧ (∀ x off, A = some ⟨x, off, none⟩ → wr.heap.size ≤ x) ∧ Two w w' p b q d n [] 0 0 M t' r' := by
  obtain ⟨P, h1⟩ := h.one
  refine (reset_c h1).mono ?_
  rintro e w' ⟨v, rfl, hown, hr, hf⟩
  obtain ⟨A, c, rfl, hA, hb⟩ := own_rows cells_len (by simp) hown
  exact ⟨A, c, by simp, hA, hb, h.next1 hr hf⟩
theorem Two.reset2 (h : Two w wr p b q d n L t r M t' r') :
    Calls Try.prog 16 #[.pointer (some ⟨q, 0, none⟩)] wr fun e w' => ∃ A c, e = .returned (.slice A (M.length - r') c) ∧ RowsAt w' A 9 DM.cells (M.drop r') ∧ Two w w' p b q d n L t r [] 0 0 ∧ Frm (fun k => k = q ∨ k = d) wr w' := by
  obtain ⟨P, h1⟩ := h.two
  refine (reset_c h1).mono ?_
  rintro e w' ⟨v, rfl, hown, hr, hf⟩
  obtain ⟨A, c, rfl, hA, hb⟩ := own_rows cells_len (by simp) hown
  exact ⟨A, c, by simp, hA, h.next2 hr hf, hf⟩
theorem Two.counts (h : Two w wr p b q d n L t r M t' r') :
    Calls Try.prog 14 #[.pointer (some ⟨p, 0, none⟩)] wr fun e w' => e = .returned (.tuple #[.int .i64 L.length, .int .i64 t, .int .i64 r]) ∧ Two w w' p b q d n L t r M t' r' := by
  obtain ⟨P, h1⟩ := h.one
  refine (counts_c h1).mono ?_
  rintro e w' ⟨rfl, hf⟩
  exact ⟨rfl, h.keep hf⟩
theorem step_len (n : Nat) (L : List DM) (t r : Nat) (o : DoM) : (stepF n L t r o).L.length ≤ L.length + 1 := by
  unfold stepF
  split
  · unfold putF; split
    · simp
    · split <;> simp
  · split
    · simp
    · split
      · unfold finF; split
        · simp
        · split
          · simp
          · split
            · simp
            · split <;> simp
      · simp
end
end Go.Proofs.Ytnbbaggmkinfkaa
