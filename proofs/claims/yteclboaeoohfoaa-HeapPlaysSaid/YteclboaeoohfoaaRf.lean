/- The reference's heap. -/
import Derived.Test.YteclboaeoohfoaaLMerge
namespace Go.Proofs.Yteclboaeoohfoaa
open Go.RowKit
structure RefR (w : World) (r g u n : Nat) (K : Nat → Option Int) (Z : Nat → Int) : Prop where
  str : VecAt w r 44 [.slice (some ⟨g, 0, none⟩) n n, .slice (some ⟨u, 0, none⟩) n n]
  ins : VecAt w g 4 (vals n fun j => .bool (K j).isSome)
  keys : VecAt w u 30 (vals n fun j => .int .u64 (Z j))
  hz : ∀ (j : Nat) (x : Int), K j = some x → j < n ∧ x = Z j
  ne : r ≠ g ∧ r ≠ u ∧ g ≠ u
  hn : 1 ≤ n ∧ n ≤ 1000
section
variable {w : World} {r g u n : Nat} {K : Nat → Option Int} {Z : Nat → Int}
theorem RefR.frm {S : Nat → Prop} {w' : World} (h : RefR w r g u n K Z) (hf : Frm S w w') (h1 : ¬ S r) (h2 : ¬ S g) (h3 : ¬ S u) : RefR w' r g u n K Z :=
  ⟨h.str.frm hf h1, h.ins.frm hf h2, h.keys.frm hf h3, h.hz, h.ne, h.hn⟩
theorem RefR.keep {w' : World} (h : RefR w r g u n K Z) (hf : Frm (fun _ => False) w w') : RefR w' r g u n K Z := h.frm hf id id id
theorem RefR.c0 (h : RefR w r g u n K Z) : w.cell? ⟨r, 0, none⟩ = some (.slice (some ⟨g, 0, none⟩) n n) := h.str.cell rfl
theorem RefR.c1 (h : RefR w r g u n K Z) : w.cell? ⟨r, 1, none⟩ = some (.slice (some ⟨u, 0, none⟩) n n) := h.str.cell rfl
theorem RefR.cin (h : RefR w r g u n K Z) {j : Nat} (hj : j < n) : w.cell? ⟨g, j, none⟩ = some (.bool (K j).isSome) := h.ins.cell (vals_get hj _)
theorem RefR.ckey (h : RefR w r g u n K Z) {j : Nat} (hj : j < n) : w.cell? ⟨u, j, none⟩ = some (.int .u64 (Z j)) := h.keys.cell (vals_get hj _)
theorem RefR.out (h : RefR w r g u n K Z) {j : Nat} (hj : ¬ j < n) : K j = none := by
  cases hk : K j with
  | none => rfl
  | some x => exact absurd (h.hz j x hk).1 hj
theorem RefR.setIn (h : RefR w r g u n K Z) {j : Nat} {K' : Nat → Option Int} (b : Bool) (hb : (K' j).isSome = b) (ho : ∀ i, i ≠ j → K' i = K i) (hz : ∀ x, K' j = some x → j < n ∧ x = Z j) :
    RefR (w.setCell ⟨g, j, none⟩ (.bool b)) r g u n K' Z := by
  obtain ⟨n1, n2, n3⟩ := h.ne
  refine ⟨h.str.other (a := ⟨g, j, none⟩) n1 _, ?_, h.keys.other (a := ⟨g, j, none⟩) n3.symm _, fun i x hi => ?_, h.ne, h.hn⟩
  · have := h.ins.set j (.bool b)
    rw [vals_set] at this
    refine cast ?_ this
    congr 1
    refine vals_congr fun i _ => ?_
    by_cases e : i = j
    · subst e; rw [if_pos rfl, hb]
    · rw [if_neg e, ho i e]
  · by_cases e : i = j
    · subst e; exact hz x hi
    · rw [ho i e] at hi; exact h.hz i x hi
theorem RefR.setKey (h : RefR w r g u n K Z) {j : Nat} {K' : Nat → Option Int} (v : Int) (hs : (K' j).isSome = (K j).isSome) (ho : ∀ i, i ≠ j → K' i = K i) (hz : ∀ x, K' j = some x → x = v) :
    RefR (w.setCell ⟨u, j, none⟩ (.int .u64 v)) r g u n K' (upd Z j v) := by
  obtain ⟨n1, n2, n3⟩ := h.ne
  refine ⟨h.str.other (a := ⟨u, j, none⟩) n2 _, ?_, ?_, fun i x hi => ?_, h.ne, h.hn⟩
  · have := h.ins.other (a := ⟨u, j, none⟩) n3 (.int .u64 v)
    refine cast ?_ this
    congr 1
    refine vals_congr fun i _ => ?_
    by_cases e : i = j
    · subst e; rw [hs]
    · rw [ho i e]
  · have := h.keys.set j (.int .u64 v)
    rw [vals_set] at this
    refine cast ?_ this
    congr 1
    refine vals_congr fun i _ => ?_
    unfold upd; split <;> rfl
  · unfold upd
    by_cases e : i = j
    · subst e
      rw [if_pos rfl]
      refine ⟨?_, hz x hi⟩
      obtain ⟨y, hy⟩ := Option.isSome_iff_exists.1 (show (K i).isSome = true by rw [← hs, hi]; rfl)
      exact (h.hz i y hy).1
    · rw [ho i e] at hi
      rw [if_neg e]
      exact h.hz i x hi
theorem rput_c (h : RefR w r g u n K Z) (id key : Int) : Calls Try.prog 13 #[.pointer (some ⟨r, 0, none⟩), .int .i64 id, .int .u64 key] w fun e w' =>
    e = .returned (.int .i64 (putC n id)) ∧ (∃ Z', RefR w' r g u n (putK n K id key) Z') ∧ Frm (fun k => k = g ∨ k = u) w w' := by
  have h0 := h.c0
  have h1 := h.c1
  have hn := h.hn
  by_cases hb : 0 ≤ id ∧ id < n
  · obtain ⟨j, rfl⟩ : ∃ j : Nat, id = j := ⟨id.toNat, by omega⟩
    have hj : j < n := by omega
    have e1 : decide ((n : Int) ≤ (j : Int)) = false := by simp; omega
    have e2 : decide (n ≤ j) = false := by simp; omega
    have e3 : (j : Int) < (n : Int) := by omega
    have c1 := h.cin hj
    have c2 := h.ckey hj
    have f1 := h.ins.frozen j
    have f2 := h.keys.frozen j
    obtain ⟨n1, n2, n3⟩ := h.ne
    have HH := Lib.hid h
    rw [putC_in hj]
    clear h hb
    go_enter Try.func13, Try.ntmps13
    go_wp2_with fail
    go_ret
    refine ⟨rfl, ⟨_, ((HH.out.setIn (j := j) (K' := putK n K j (Z j)) true (by rw [putK_self hj]; rfl) (fun i hi => putK_other hj _ hi) (fun x hx => ?_)).setKey (j := j) key (K' := putK n K j key) ?_ (fun i hi => ?_) (fun x hx => ?_))⟩, ?_⟩
    · rw [putK_self hj] at hx; injection hx with hx; exact ⟨hj, hx.symm⟩
    · rw [putK_self hj, putK_self hj]; rfl
    · rw [putK_other hj _ hi, putK_other hj _ hi]
    · rw [putK_self hj] at hx; injection hx with hx; exact hx.symm
    · exact ((Frm.refl _ w).setCell (p := ⟨g, j, none⟩) (.inl (.inl rfl)) _).setCell (p := ⟨u, j, none⟩) (.inl (.inr rfl)) _
  · have hB : isB n id = false := by simp [isB]; omega
    have hP : putK n K id key = K := by rw [putK, hB]; rfl
    rw [hP, show putC n id = 1 by rw [putC, hB]; rfl]
    have HH := Lib.hid h
    have hex : decide (id < 0) = true ∨ decide (id < 0) = false ∧ decide ((n : Int) ≤ id) = true := by
      by_cases e : id < 0
      · exact .inl (by simpa using e)
      · exact .inr ⟨by simpa using e, by simp; omega⟩
    clear h hb hB hP
    rcases hex with e1 | ⟨e1, e2⟩
    all_goals
      go_enter Try.func13, Try.ntmps13
      go_wp2_with fail
      go_ret
      exact ⟨rfl, ⟨_, HH.out⟩, Frm.refl _ _⟩
theorem ris_c (h : RefR w r g u n K Z) (id : Int) : Calls Try.prog 22 #[.pointer (some ⟨r, 0, none⟩), .int .i64 id] w fun e w' =>
    e = .returned (.bool (getK K id).isSome) ∧ w' = w := by
  have h0 := h.c0
  have hn := h.hn
  by_cases hb : 0 ≤ id ∧ id < n
  · obtain ⟨j, rfl⟩ : ∃ j : Nat, id = j := ⟨id.toNat, by omega⟩
    have hj : j < n := by omega
    have e2 : decide (j < n) = true := by simp; omega
    have e3 : (j : Int) < (n : Int) := by omega
    have c1 := h.cin hj
    rw [getK_nat]
    clear h hb
    generalize (K j).isSome = b at *
    go_enter Try.func22, Try.ntmps22
    go_wp2_with fail
    go_ret
    exact ⟨rfl, rfl⟩
  · have hg : getK K id = none := by
      unfold getK
      split
      · exact h.out (by omega)
      · rfl
    rw [hg]
    have hex : decide (0 ≤ id) = false ∨ decide (0 ≤ id) = true ∧ decide (id < (n : Int)) = false := by
      by_cases e : 0 ≤ id
      · exact .inr ⟨by simpa using e, by simp; omega⟩
      · exact .inl (by simpa using e)
    clear h hb hg
    rcases hex with e1 | ⟨e1, e2⟩
    all_goals
      go_enter Try.func22, Try.ntmps22
      go_wp2_with fail
      go_ret
      exact ⟨rfl, rfl⟩
theorem rdrop_c (h : RefR w r g u n K Z) (id : Int) : Calls Try.prog 15 #[.pointer (some ⟨r, 0, none⟩), .int .i64 id] w fun e w' =>
    e = .returned (.int .i64 (dropC K id)) ∧ RefR w' r g u n (dropK K id) Z ∧ Frm (fun k => k = g ∨ k = u) w w' := by
  have hi := ris_c h id
  cases hk : getK K id with
  | none =>
    rw [hk] at hi
    have HI := Lib.hid hi
    rw [none_of hk, show dropC K id = 6 by rw [dropC, hk]; rfl]
    have HH := Lib.hid h
    clear h hi
    go_enter Try.func15, Try.ntmps15
    go_wp2_with fail
    with_reducible refine HI.out.mono ?_
    rintro e w' ⟨rfl, rfl⟩
    go_wp2_with fail
    go_ret
    exact ⟨rfl, HH.out, Frm.refl _ _⟩
  | some x =>
    rw [hk] at hi
    have HI := Lib.hid hi
    have h0 : 0 ≤ id := by
      by_cases h : 0 ≤ id
      · exact h
      · rw [getK, if_neg h] at hk; cases hk
    obtain ⟨j, rfl⟩ : ∃ j : Nat, id = j := ⟨id.toNat, by omega⟩
    rw [show dropC K j = 0 by rw [dropC, hk]; rfl]
    rw [getK_nat] at hk
    have hj := (h.hz j x hk).1
    have e3 : (j : Int) < (n : Int) := by omega
    have c0 := h.c0
    have c1 := h.cin hj
    have f1 := h.ins.frozen j
    have hn := h.hn
    have HH := Lib.hid h
    clear h hi hk h0
    go_enter Try.func15, Try.ntmps15
    go_wp2_with fail
    with_reducible refine HI.out.mono ?_
    rintro e w' ⟨rfl, rfl⟩
    go_wp2_with fail
    go_ret
    refine ⟨rfl, HH.out.setIn (j := j) (K' := dropK K j) false (by rw [dropK_self]; rfl) (fun i hi => dropK_other hi) (fun x hx => ?_), (Frm.refl _ _).setCell (p := ⟨g, j, none⟩) (.inl (.inl rfl)) _⟩
    rw [dropK_self] at hx; cases hx
theorem rlen_c (h : RefR w r g u n K Z) : Calls Try.prog 21 #[.pointer (some ⟨r, 0, none⟩)] w fun e w' =>
    e = .returned (.int .i64 (countK n K)) ∧ w' = w := by
  have h0 := h.c0
  have hn := h.hn
  have HH := Lib.hid h
  clear h
  go_enter Try.func21, Try.ntmps21
  go_wp2_with fail
  go_loopw [3, 4] (fun q i wr => ∃ t : Nat, t ≤ n ∧ i = .int .i64 t ∧ q = .int .i64 (countK t K) ∧ wr = w) (fun _ i _ => n - (intOf i).toNat)
  case atStart => exact ⟨0, by omega, rfl, rfl, rfl⟩
  case round =>
    obtain ⟨t, ht, rfl, rfl, rfl⟩ := hrel
    have hct := countK_le t K
    by_cases hlt : t < n
    · have e1 : decide (t < n) = true := by simpa using hlt
      have e3 : (t : Int) < (n : Int) := by omega
      have c1 := HH.out.cin hlt
      have hs := Lib.hid (countK_succ t K)
      generalize (K t).isSome = b at *
      cases b
      all_goals
        go_wp2_with fail
        go_roundw
        case rel => exact ⟨t + 1, by omega, by go_num, by rw [hs.out]; rfl, trivial⟩
        case measure => simp [intOf]; omega
    · have e1 : decide (t < n) = false := by simpa using hlt
      obtain rfl : t = n := by omega
      go_wp2_with fail
      go_ret
      exact ⟨rfl, rfl⟩
/-- The best of the first t. -/
def BestAt (K : Nat → Option Int) (Z : Nat → Int) (t : Nat) (b : Int) : Prop :=
  (b = -1 ∧ ∀ (j : Nat), j < t → K j = none) ∨ ∃ j0 : Nat, b = j0 ∧ j0 < t ∧ K j0 = some (Z j0) ∧ ∀ (j : Nat) (x : Int), j < t → K j = some x → Z j0 < x ∨ Z j0 = x ∧ j0 ≤ j
theorem BestAt.skip {t : Nat} {b : Int} (h : BestAt K Z t b) (hk : K t = none) : BestAt K Z (t + 1) b := by
  rcases h with ⟨h1, h2⟩ | ⟨j0, h1, h2, h3, h4⟩
  · refine .inl ⟨h1, fun j hj => ?_⟩
    by_cases e : j = t
    · subst e; exact hk
    · exact h2 j (by omega)
  · refine .inr ⟨j0, h1, by omega, h3, fun j x hj hx => ?_⟩
    by_cases e : j = t
    · subst e; rw [hk] at hx; cases hx
    · exact h4 j x (by omega) hx
theorem BestAt.first {t : Nat} (h : ∀ (j : Nat), j < t → K j = none) (hk : K t = some (Z t)) : BestAt K Z (t + 1) t := by
  refine .inr ⟨t, rfl, by omega, hk, fun j x hj hx => ?_⟩
  by_cases e : j = t
  · subst e; rw [hk] at hx; injection hx with hx; omega
  · rw [h j (by omega)] at hx; cases hx
theorem BestAt.less {t j0 : Nat} (h : BestAt K Z t j0) (hk : K t = some (Z t)) (hl : Z t < Z j0) : BestAt K Z (t + 1) t := by
  rcases h with ⟨h1, h2⟩ | ⟨j1, h1, h2, h3, h4⟩
  · omega
  · obtain rfl : j0 = j1 := by omega
    refine .inr ⟨t, rfl, by omega, hk, fun j x hj hx => ?_⟩
    by_cases e : j = t
    · subst e; rw [hk] at hx; injection hx with hx; omega
    · have := h4 j x (by omega) hx; omega
theorem BestAt.more {t j0 : Nat} (h : BestAt K Z t j0) (hk : K t = some (Z t)) (hl : Z j0 ≤ Z t) : BestAt K Z (t + 1) j0 := by
  rcases h with ⟨h1, h2⟩ | ⟨j1, h1, h2, h3, h4⟩
  · omega
  · obtain rfl : j0 = j1 := by omega
    refine .inr ⟨j0, rfl, by omega, h3, fun j x hj hx => ?_⟩
    by_cases e : j = t
    · subst e; rw [hk] at hx; injection hx with hx; omega
    · exact h4 j x (by omega) hx
set_option maxHeartbeats 1000000 in
theorem rfirst_c (h : RefR w r g u n K Z) : Calls Try.prog 17 #[.pointer (some ⟨r, 0, none⟩)] w fun e w' =>
    ((e = .returned (.tuple #[.int .i64 0, .int .u64 0, .int .i64 5]) ∧ ∀ j, K j = none) ∨ ∃ (j : Nat) (x : Int), e = .returned (.tuple #[.int .i64 j, .int .u64 x, .int .i64 0]) ∧ FirstIs K j x) ∧ Frm (fun _ => False) w w' := by
  have hn := h.hn
  have HZ := Lib.hid (show ∀ j, j < n → K j = none ∨ K j = some (Z j) from fun j _ => by
    cases hk : K j with
    | none => exact .inl rfl
    | some x => rw [(h.hz j x hk).2]; exact .inr rfl)
  have HO := Lib.hid (fun j => h.out (j := j))
  have HH := Lib.hid h
  clear h
  go_enter Try.func17, Try.ntmps17
  go_wp2_with fail
  go_loopw [5, 6] (fun q i wr => ∃ (t : Nat) (b : Int), t ≤ n ∧ i = .int .i64 t ∧ q = .int .i64 b ∧ Hid (BestAt K Z t b) ∧ Hid (Frm (fun _ => False) w wr)) (fun _ i _ => n - (intOf i).toNat)
  case atStart => exact ⟨0, -1, by omega, rfl, rfl, Lib.hid (.inl ⟨rfl, fun j hj => by omega⟩), Lib.hid (Frm.refl _ _)⟩
  case round =>
    obtain ⟨t, b, ht, rfl, rfl, HB, HF⟩ := hrel
    have hr := HH.out.keep HF.out
    have h0 := hr.c0
    have h1 := hr.c1
    by_cases hlt : t < n
    · have e1 : decide (t < n) = true := by simpa using hlt
      have e3 : (t : Int) < (n : Int) := by omega
      have c1 := hr.cin hlt
      have c2 := hr.ckey hlt
      rcases HZ.out t hlt with hk | hk
      · rw [hk] at c1
        simp only [Option.isSome_none] at c1
        have HK := Lib.hid hk
        clear hk hr
        go_wp2_with fail
        go_quiet (fail)
        go_wp2_with fail
        go_roundw
        case rel => exact ⟨t + 1, b, by omega, by go_num, rfl, Lib.hid (HB.out.skip HK.out), Lib.hid (HF.out.drewN _)⟩
        case measure => simp [intOf]; omega
      · rw [hk] at c1
        simp only [Option.isSome_some] at c1
        have HK := Lib.hid hk
        have hb := HB.out
        rcases hb with ⟨rfl, h2⟩ | ⟨j0, rfl, h2, h3, h4⟩
        · have H2 := Lib.hid h2
          clear hk hr h2
          go_wp2_with fail
          go_quiet (fail)
          go_wp2_with fail
          go_roundw
          case rel => exact ⟨t + 1, t, by omega, by go_num, rfl, Lib.hid (BestAt.first H2.out HK.out), Lib.hid (HF.out.drewN _)⟩
          case measure => simp [intOf]; omega
        · have c3 := hr.ckey (j := j0) (by omega)
          have e4 : (j0 : Int) < (n : Int) := by omega
          have e5 : decide ((j0 : Int) < 0) = false := by simp
          clear hk hr h3 h4
          by_cases hl : Z t < Z j0
          · have e6 : decide (Z t < Z j0) = true := by simpa using hl
            have HL := Lib.hid hl
            clear hl
            go_wp2_with fail
            go_quiet (fail)
            go_wp2_with fail
            go_roundw
            case rel => exact ⟨t + 1, t, by omega, by go_num, rfl, Lib.hid (HB.out.less HK.out HL.out), Lib.hid (HF.out.drewN _)⟩
            case measure => simp [intOf]; omega
          · have e6 : decide (Z t < Z j0) = false := by simpa using hl
            have HL : Hid (Z j0 ≤ Z t) := Lib.hid (by omega)
            clear hl
            go_wp2_with fail
            go_quiet (fail)
            go_wp2_with fail
            go_roundw
            case rel => exact ⟨t + 1, j0, by omega, by go_num, rfl, Lib.hid (HB.out.more HK.out HL.out), Lib.hid (HF.out.drewN _)⟩
            case measure => simp [intOf]; omega
    · have e1 : decide (t < n) = false := by simpa using hlt
      obtain rfl : t = n := by omega
      have hb := HB.out
      rcases hb with ⟨rfl, h2⟩ | ⟨j0, rfl, h2, h3, h4⟩
      · have H2 := Lib.hid h2
        clear hr h2
        go_wp2_with fail
        go_ret3
        refine ⟨.inl ⟨rfl, fun j => ?_⟩, HF.out⟩
        by_cases e : j < t
        · exact H2.out j e
        · exact HO.out _ e
      · have c3 := hr.ckey h2
        have e4 : (j0 : Int) < (t : Int) := by omega
        have e5 : decide ((j0 : Int) < 0) = false := by simp
        have H3 := Lib.hid h3
        have H4 := Lib.hid h4
        clear hr h3 h4
        go_wp2_with fail
        go_quiet (fail)
        go_wp2_with fail
        go_ret3
        refine ⟨.inr ⟨j0, _, rfl, H3.out, fun j x hj => ?_⟩, HF.out.drewN _⟩
        by_cases e : j < t
        · exact H4.out j x e hj
        · rw [HO.out _ e] at hj; cases hj
theorem info4 : (Try.prog.info? 4).map (fun i => (i.zero, i.size, i.bytes)) = some (some (.bool false), 1, 1) := by kernel_rfl
theorem rnew_c (w : World) (n : Nat) (hn : 1 ≤ n ∧ n ≤ 1000) : Calls Try.prog 11 #[.int .i64 n] w fun e w' => ∃ r g u, e = .returned (.pointer (some ⟨r, 0, none⟩)) ∧
    RefR w' r g u n (fun _ => none) (fun _ => 0) ∧ (w.heap.size ≤ r ∧ w.heap.size ≤ g ∧ w.heap.size ≤ u) ∧ Frm (fun _ => False) w w' := by
  have hmk1 := run_make_vec (P := Try.prog) 41 4 (.bool false) 1 Try.underlying41 info4 rfl n (by omega) (by omega)
  have hmk2 := run_make_vec (P := Try.prog) 42 30 (.int .u64 0) 8 Try.underlying42 info30 rfl n (by omega) (by omega)
  go_enter Try.func11, Try.ntmps11
  go_wp2_with fail
  have h3 : ∀ (A B C : Obj), Frm (fun _ => False) w (((w.alloc A).alloc B).alloc C).drew := fun A B C => ((((Frm.refl _ w).alloc A).alloc B).alloc C).drew
  go_region
  · go_wp2_with fail
    go_ret
    refine ⟨w.heap.size + 1 + 1, w.heap.size, w.heap.size + 1, rfl, ⟨?_, ?_, ?_, (fun j x hj => by cases hj), by omega, hn⟩, by omega, h3 _ _ _⟩
    · have h1 := VecAt.new ((w.alloc (.cells (vals n fun _ => .bool false).toArray 4)).alloc (.cells (vals n fun _ => .int .u64 0).toArray 30)) 44 [.slice (some ⟨w.heap.size, 0, none⟩) n n, .slice (some ⟨w.heap.size + 1, 0, none⟩) n n]
      rw [World.size_alloc, World.size_alloc] at h1
      exact h1
    · exact ((VecAt.new w 4 (vals n fun _ => .bool false)).alloc _).alloc _
    · have h1 := VecAt.new (w.alloc (.cells (vals n fun _ => .bool false).toArray 4)) 30 (vals n fun _ => .int .u64 0)
      rw [World.size_alloc] at h1
      exact h1.alloc _
  · go_wp2_with fail
    go_ret
    refine ⟨w.heap.size + 1 + 1, w.heap.size + 1, w.heap.size, rfl, ⟨?_, ?_, ?_, (fun j x hj => by cases hj), by omega, hn⟩, by omega, h3 _ _ _⟩
    · have h1 := VecAt.new ((w.alloc (.cells (vals n fun _ => .int .u64 0).toArray 30)).alloc (.cells (vals n fun _ => .bool false).toArray 4)) 44 [.slice (some ⟨w.heap.size + 1, 0, none⟩) n n, .slice (some ⟨w.heap.size, 0, none⟩) n n]
      rw [World.size_alloc, World.size_alloc] at h1
      exact h1
    · have h1 := VecAt.new (w.alloc (.cells (vals n fun _ => .int .u64 0).toArray 30)) 4 (vals n fun _ => .bool false)
      rw [World.size_alloc] at h1
      exact h1.alloc _
    · exact ((VecAt.new w 30 (vals n fun _ => .int .u64 0)).alloc _).alloc _
end
end Go.Proofs.Yteclboaeoohfoaa
