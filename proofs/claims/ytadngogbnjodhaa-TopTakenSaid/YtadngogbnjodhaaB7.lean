/- Extra; runs. -/
import Derived.Test.YtadngogbnjodhaaB6
namespace Go.Proofs.Ytadngogbnjodhaa
open Go.RowKit
theorem extra_c (w : World) (A : Option Addr) (c : Nat) (l : List Sv) (hl : RowsAt w A 2 Sv.enc l) (hf : fits l) (span : Nat) (hs : span ≤ 1000) :
    Calls Try.prog 12 #[.slice A l.length c, .int .u64 span] w fun e w' => e = .returned (.int .u64 ((min span (takenN l span) : Nat) : Int)) ∧ Frm (fun _ => False) w w' := by
  have HM := Lib.hid (mayLoads_c w A c l hl hf)
  have HT := Lib.hid (fun w' (h : Frm (fun _ => False) w w') => taken_c w' A c l (hl.via h (fun _ _ _ => id)) hf span hs)
  have e1 : decide (1073741824 < (span : Int)) = false := by simp; omega
  clear hl hf
  generalize hN : takenN l span = N at *
  clear hN
  go_enter Try.func12, Try.ntmps12
  go_wp2_with fail
  with_reducible refine HM.out.mono ?_
  rintro e w1 ⟨rfl, hf1⟩
  have F1 := Lib.hid hf1
  clear hf1 HM
  go_wp2_with fail
  with_reducible refine (HT.out w1 F1.out).mono ?_
  rintro e w2 ⟨rfl, hf2⟩
  have F2 := Lib.hid hf2
  clear hf2 HT
  go_wp2_with fail
  · go_ret
    refine ⟨?_, F1.out.trans F2.out⟩
    rw [Nat.min_eq_right (by omega)]
    rfl
  · go_ret
    refine ⟨?_, F1.out.trans F2.out⟩
    rw [Nat.min_eq_left (by omega)]
    rfl
def K0 : TK := ⟨5, 1, 20, 10⟩
theorem K0_ok : K0.ok := by unfold TK.ok K0; decide
def l0 : List Sv := [⟨1, 10⟩]
theorem l0_fits : fits l0 := ⟨by decide, fun i s hs => by
  match i, hs with
  | 0, hs => simp [l0] at hs; subst hs; unfold Sv.fit; decide⟩
theorem rows_one {α : Type} {w : World} {B : Nat} (m : Nat) {e : TypeId} {enc : α → List Value} {r : α} (h : VecAt w B e (enc r)) : RowsAt w (some ⟨B, 0, none⟩) m enc [r] := by
  refine ⟨by simp, fun _ => ⟨B, 0, rfl, h.lt, fun i x hi j v hj => ?_⟩⟩
  have hi0 : i = 0 := by have := (List.getElem?_eq_some_iff.1 hi).1; simpa using this
  subst hi0
  simp at hi
  subst hi
  have := h.cell hj
  rw [show 0 + 0 * m + j = j by omega]
  exact this
theorem release1_c {w : World} {T : Nat → Prop} {c : Nat} {C : CS} (h : CpuAt w T c K0 C) (hT : ∀ k, w.heap.size ≤ k → T k) : Calls Try.prog 8 #[.pointer (some ⟨c, 0, none⟩), .int .i64 0, .int .u64 1] w fun e w' => ∃ (r : Int) (C' : CS), e = .returned (.int .i64 r) ∧ CpuAt w' T c K0 C' ∧ RelR C C' ∧ Frm T w w' := release_c h hT
theorem wake1_c {w : World} {T : Nat → Prop} {c : Nat} {K : TK} {C : CS} (h : CpuAt w T c K C) {v : SrvM} (hi : C.L[0]? = some v) : Calls Try.prog 9 #[.pointer (some ⟨c, 0, none⟩), .int .i64 0, .int .u64 5] w fun e w' => e = .returned (.int .i64 0) ∧
    CpuAt w' T c K { C with L := C.L.set 0 { v with work := v.work + min 5 (1048576 - v.work) } } ∧ Frm T w w' := wake_c h hi 5 (by decide)
theorem CpuAt.box {w : World} {T : Nat → Prop} {c : Nat} {K : TK} {C : CS} (h : CpuAt w T c K C) (hT : ∀ k, w.heap.size ≤ k → T k) {w2 : World} {xs : List Value} {e : TypeId} (hw2 : w2 = w.alloc (.cells xs.toArray e)) :
    ∃ T' : Nat → Prop, CpuAt w2 T' c K C ∧ VecAt w2 w.heap.size e xs ∧ (∀ k, w2.heap.size ≤ k → T' k) ∧ ¬ T' w.heap.size ∧ (∀ k, T' k → T k) ∧ Frm (fun _ => False) w w2 := by
  have hf : Frm (fun _ => False) w w2 := by rw [hw2]; exact (Frm.refl _ w).alloc _
  have h1 : VecAt w2 w.heap.size e xs := by rw [hw2]; exact VecAt.new w e xs
  have hs := h1.lt
  exact ⟨fun k => T k ∧ k ≠ w.heap.size, (h.mono fun k hk ht => ⟨ht, by omega⟩).keep hf, h1, fun k hk => ⟨hT k (by omega), by omega⟩, fun e => e.2 rfl, fun k hk => hk.1, hf⟩
theorem first_run {C C6 : CS} {K : TK} {v : SrvM} {who : Int} {dn : Value} (hB : v.B = 1) (hP : v.Pr = 10) (hl : v.l = []) (hn : C.now = 0) (hw : 0 < v.work) (hL : C.L = [v]) (h : TickR K C C6 who dn) :
    who = 100 ∧ KeepJ C C6 ∧ ∃ v', C6.L = [v'] ∧ v'.B = 1 ∧ v'.l = [10] := by
  obtain ⟨r, hs, hr⟩ := h
  rw [hL, hn] at hs
  rcases hs with ⟨-, hlen, hu⟩ | ⟨i, rfl, hi, hlen, hu⟩
  · match hL' : C6.L, hlen with
    | [v'], _ =>
      rw [hL'] at hu
      rcases (hu 0 v v' rfl rfl).1 (by simp) with ⟨h0, -⟩ | ⟨-, k, k1, -, -, k2, -⟩
      · omega
      · rw [hl] at k2; simp at k2; omega
  · match hL' : C6.L, hlen with
    | [v'], _ =>
      have hi0 : i = 0 := by simpa using hi
      subst hi0
      rw [hL'] at hu
      obtain ⟨-, k, k1, -, -, k2, k3⟩ := (hu 0 v v' rfl rfl).2.1 rfl
      rcases hr with ⟨-, h1, h2⟩ | ⟨h1, -⟩
      · exact ⟨by simpa using h1, h2, v', rfl, by rw [k3]; exact hB, by rw [k3]; simp [hl, hP]⟩
      · omega
theorem second_run {C C6 : CS} {v : SrvM} {who : Int} {A : Option Addr} {n cp : Nat} {j : JobM} (hB : v.B = 1) (hl : v.l = [10]) (hn : C.now = 1) (hL : C.L = [v]) (hj : C.job = some j) (hr0 : j.ran = 0) (h : TickR K0 C C6 who (.slice A n cp)) :
    who = 0 ∧ n = 1 := by
  obtain ⟨r, hs, hr⟩ := h
  rw [hL, hn] at hs
  rcases hs with ⟨h1, -⟩ | ⟨i, rfl, hi, hlen, hu⟩
  · rcases hr with ⟨h2, -⟩ | ⟨-, -, h2⟩
    · exact absurd h1 h2
    · obtain ⟨e1, e2⟩ := h2 j hj
      obtain ⟨A', c', e3⟩ := e2 (by rw [hr0]; rfl)
      cases e3
      exact ⟨e1, rfl⟩
  · match hL' : C6.L, hlen with
    | [v'], _ =>
      have hi0 : i = 0 := by simpa using hi
      subst hi0
      rw [hL'] at hu
      obtain ⟨-, k, k1, k4, -, k2, k3⟩ := (hu 0 v v' rfl rfl).2.1 rfl
      rw [hl] at k1 k2 k4
      simp only [List.length_cons, List.length_nil] at k1 k2
      have hk : k = 1 := by omega
      subst hk
      have := k4 0 10 (by omega) rfl
      omega
set_option maxRecDepth 100000 in
set_option maxHeartbeats 2000000 in
theorem runs_c (w : World) : Calls Try.prog 4 #[] w fun e w' => e = .returned (.bool true) ∧ Frm (fun _ => False) w w' := by
  go_enter Try.func4, Try.ntmps4
  go_wp2_with fail
  refine calls_as fun w2 hw2 => ?_
  have hf2 : Frm (fun _ => False) w w2 := by rw [hw2]; exact ((Frm.refl _ w).alloc _).alloc _
  have hr1 : RowsAt w2 (some ⟨w.heap.size, 0, none⟩) 4 Wk.enc [Wk.nat K0] := by
    rw [hw2]
    exact rows_one 4 ((VecAt.new w 24 (Wk.nat K0).enc).alloc _)
  have hr2 : RowsAt w2 (some ⟨w.heap.size + 1, 0, none⟩) 2 Sv.enc l0 := by
    rw [hw2]
    have h := VecAt.new (w.alloc (.cells #[.int .i64 5, .int .u64 1, .int .u64 20, .int .u64 10] 24)) 47 (Sv.enc ⟨1, 10⟩)
    rw [World.size_alloc] at h
    exact rows_one 2 h
  have HN : Hid (Calls Try.prog 7 #[.slice (some ⟨w.heap.size, 0, none⟩) 1 1, .slice (some ⟨w.heap.size + 1, 0, none⟩) 1 1] w2 fun e w' => ∃ c q, e = .returned (.tuple #[.pointer (some ⟨c, 0, none⟩), .int .i64 0]) ∧ Half w2 c q K0 l0 1 w') := Lib.hid (cnew_c w2 K0 K0_ok w.heap.size 0 1 hr1 (some ⟨w.heap.size + 1, 0, none⟩) 1 l0 hr2 l0_fits)
  clear hw2 hr1 hr2
  with_reducible refine HN.out.mono ?_
  rintro e w3 ⟨c, q, rfl, tau, vt, vs, L, h1, h2, -, h4⟩
  obtain ⟨v, hv, hvB, hvP, hvw, hvl, hvb⟩ := h2.2 0 ⟨1, 10⟩ (by decide) rfl
  have hL : L = [v] := by
    have := h2.1
    match L, this, hv with
    | [a], _, hv => simp at hv; rw [hv]
  have H1 := Lib.hid h1
  have F3 := Lib.hid (hf2.trans h4)
  have hs23 := h4.size
  have HS2 := Lib.hid hf2.size
  subst hL
  have HV : Hid (v.B = 1 ∧ v.Pr = 10 ∧ v.work = 0 ∧ v.l = [] ∧ v.bn = 0) := Lib.hid (by simp only at hvB hvP; exact ⟨by omega, by omega, hvw, hvl, hvb⟩)
  clear h1 h2 h4 hv hvB hvP hvw hvl hvb hf2 HN
  have hT : Hid (∀ (w' : World), Frm (fun k => w2.heap.size ≤ k) w3 w' → ∀ k, w'.heap.size ≤ k → w2.heap.size ≤ k) := Lib.hid (fun w' hf k hk => by have := hf.size; have := hs23; omega)
  clear hs23
  have HR := Lib.hid (release1_c H1.out (fun k hk => hT.out w3 (Frm.refl _ _) k hk))
  go_wp2_with fail
  with_reducible refine HR.out.mono ?_
  rintro e w4 ⟨r, C4, rfl, k1, k2, k3⟩
  have HC4 : Hid (C4.now = 0 ∧ C4.L = [v] ∧ ∃ j, C4.job = some j ∧ j.ran = 0) := Lib.hid ⟨k2.1, k2.2.1, k2.2.2 rfl rfl⟩
  have K1 := Lib.hid k1
  have K3 := Lib.hid k3
  have HW := Lib.hid (wake1_c k1 (v := v) (by rw [k2.2.1]; rfl))
  clear k1 k2 k3 HR
  go_wp2_with fail
  with_reducible refine HW.out.mono ?_
  rintro e w5 ⟨rfl, k1, k2⟩
  have F5 := Lib.hid (K3.out.trans k2)
  have HT5 := Lib.hid (tick_c k1 (fun k hk => hT.out w5 F5.out k hk) (by have := HC4.out.1; simp only; omega))
  clear HW K1 K3 k1 k2 H1
  go_wp2_with fail
  with_reducible refine HT5.out.mono ?_
  rintro e w6 ⟨who, A1, A2, A3, n1, n2, n3, c1, c2, c3, C6, rfl, k1, k2, k3, k4⟩
  have K4 := Lib.hid (F5.out.trans k4)
  obtain ⟨j, hj, hjr⟩ := HC4.out.2.2
  obtain ⟨e1, e2, v', e3, e4, e5⟩ := first_run (v := { v with work := v.work + min 5 (1048576 - v.work) }) HV.out.1 HV.out.2.1 HV.out.2.2.2.1 (by exact HC4.out.1) (by have := HV.out.2.2.1; simp only; omega) (by simp only [HC4.out.2.1]; rfl) k3
  obtain ⟨j', hj', hjr'⟩ := e2 j hj
  have e6 : j'.ran = 0 := by rw [hjr', hjr]
  have e7 : C6.now = 1 := by rw [k2, HC4.out.1]
  have E2 := Lib.hid (fun C9 who A n cp => second_run (C6 := C9) (who := who) (A := A) (n := n) (cp := cp) e4 e5 e7 e3 hj' e6)
  have K1 := Lib.hid k1
  have hT6 : ∀ k, w6.heap.size ≤ k → w2.heap.size ≤ k := fun k hk => hT.out w6 K4.out k hk
  have HT6 := Lib.hid hT6
  subst e1
  clear HT5 F5 k1 k4 HV HC4 k2 k3 hj hjr e2 e3 e4 e5 hj' hjr' e6 hT6
  go_wp2_with fail
  refine calls_as fun w7 hw7 => ?_
  obtain ⟨T', u1, u2, u3, u4, u5, u6⟩ := K1.out.box HT6.out hw7
  have hs7 : w2.heap.size ≤ w6.heap.size := HT6.out _ (Nat.le_refl _)
  have HS := Lib.hid (tick_c u1 u3 (by omega))
  have U5 := Lib.hid u5
  have U2 := Lib.hid (⟨u2, u4⟩ : VecAt _ _ _ _ ∧ ¬ T' _)
  have F7 := Lib.hid (K4.out.trans u6.of_none)
  clear hw7 u1 u2 u3 u4 u5 u6 e7
  with_reducible refine HS.out.mono ?_
  rintro e w8 ⟨who, D1, D2, D3, m1, m2, m3, d1, d2, d3, C8, rfl, k1, k2, k3, k4⟩
  obtain ⟨rfl, rfl⟩ := E2.out _ _ _ _ _ k3
  have hva := U2.out.1.frm k4 U2.out.2
  have a0 : ∀ O, (w8.alloc O).cell? ⟨w6.heap.size, 0, none⟩ = some (.int .i64 100) := fun O => (hva.alloc O).cell (i := 0) rfl
  clear hva HS U2 k1 k2 k3
  have K8 := Lib.hid (((F3.out.of_none (S := fun k => w.heap.size ≤ k)).trans ((F7.out.trans (k4.mono fun k _ e => U5.out k e)).mono fun k _ e => Nat.le_trans HS2.out e)).down (S := fun _ => False))
  clear k4 F3 F7 U5 HS2
  go_wp2_with fail
  go_ret
  exact ⟨rfl, K8.out.alloc _⟩
end Go.Proofs.Ytadngogbnjodhaa
