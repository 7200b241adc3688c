/- serve. -/
import Derived.Test.YtadngogbnjodhaaA7
namespace Go.Proofs.Ytadngogbnjodhaa
open Go.RowKit
def Tried (now : Nat) (v v' : SrvM) : Prop :=
  (v.work = 0 ∧ v' = v) ∨ (0 < v.work ∧ ∃ k, k ≤ v.l.length ∧ (∀ i x, i < k → v.l[i]? = some x → x ≤ now) ∧ (∀ x, v.l[k]? = some x → now < x) ∧ v.B ≤ v.l.length - k ∧ v' = { v with l := v.l.drop k, bn := now })
def Used (now : Nat) (v v' : SrvM) : Prop :=
  0 < v.work ∧ ∃ k, k ≤ v.l.length ∧ (∀ i x, i < k → v.l[i]? = some x → x ≤ now) ∧ (∀ x, v.l[k]? = some x → now < x) ∧ v.l.length - k < v.B ∧ v' = { v with work := v.work - 1, l := v.l.drop k ++ [now + v.Pr], bn := now }
/-- The first i were tried in vain. -/
def Upto (now : Nat) (L L' : List SrvM) (i : Nat) : Prop := L'.length = L.length ∧ ∀ (j : Nat) (v v' : SrvM), L[j]? = some v → L'[j]? = some v' → (j < i → Tried now v v') ∧ (i ≤ j → v' = v)
def ServeR (now : Nat) (L L' : List SrvM) (r : Int) : Prop :=
  (r = -1 ∧ Upto now L L' L.length) ∨ (∃ i : Nat, r = 100 + i ∧ i < L.length ∧ L'.length = L.length ∧ ∀ (j : Nat) (v v' : SrvM), L[j]? = some v → L'[j]? = some v' → (j < i → Tried now v v') ∧ (j = i → Used now v v') ∧ (i < j → v' = v))
theorem Upto.step {now i : Nat} {L L' : List SrvM} {v v' : SrvM} (h : Upto now L L' i) (hi : L[i]? = some v) (ht : Tried now v v') : Upto now L (L'.set i v') (i + 1) := by
  refine ⟨by rw [List.length_set]; exact h.1, fun j u u' hj hj' => ?_⟩
  have hil := (List.getElem?_eq_some_iff.1 hi).1
  by_cases e : i = j
  · subst e
    rw [List.getElem?_set_self (by rw [h.1]; exact hil), Option.some.injEq] at hj'
    rw [hi, Option.some.injEq] at hj
    subst hj hj'
    exact ⟨fun _ => ht, fun hc => by omega⟩
  · rw [List.getElem?_set_ne e] at hj'
    obtain ⟨h1, h2⟩ := h.2 j u u' hj hj'
    exact ⟨fun hc => h1 (by omega), fun hc => h2 (by omega)⟩
theorem Upto.same {now i : Nat} {L L' : List SrvM} {v : SrvM} (h : Upto now L L' i) (hi : L[i]? = some v) (hw : v.work = 0) : Upto now L L' (i + 1) := by
  refine ⟨h.1, fun j u u' hj hj' => ?_⟩
  obtain ⟨h1, h2⟩ := h.2 j u u' hj hj'
  refine ⟨fun hc => ?_, fun hc => h2 (by omega)⟩
  by_cases e : i = j
  · subst e
    rw [hi, Option.some.injEq] at hj
    subst hj
    exact .inl ⟨hw, h2 (Nat.le_refl _)⟩
  · exact h1 (by omega)
theorem Upto.used {now i : Nat} {L L' : List SrvM} {v v' : SrvM} (h : Upto now L L' i) (hi : L[i]? = some v) (ht : Used now v v') : ServeR now L (L'.set i v') (100 + i) := by
  have hil := (List.getElem?_eq_some_iff.1 hi).1
  refine .inr ⟨i, rfl, hil, by rw [List.length_set]; exact h.1, fun j u u' hj hj' => ?_⟩
  by_cases e : i = j
  · subst e
    rw [List.getElem?_set_self (by rw [h.1]; exact hil), Option.some.injEq] at hj'
    rw [hi, Option.some.injEq] at hj
    subst hj hj'
    exact ⟨fun hc => by omega, fun _ => ht, fun hc => by omega⟩
  · rw [List.getElem?_set_ne e] at hj'
    obtain ⟨h1, h2⟩ := h.2 j u u' hj hj'
    exact ⟨fun hc => h1 (by omega), fun hc => absurd hc.symm e, fun hc => h2 (by omega)⟩
section
variable {w : World} {T : Nat → Prop} {c : Nat} {K : TK} {C : CS}
theorem SrvAt.after {w3 : World} {v : SrvM} {A' : Option Addr} {l' : List Nat} {c' now : Nat} (h : SrvAt w T v) (hf : Frm (fun j => j = v.bb) w w3) (hb : BIs w3 T v.bb ⟨(v.B : Nat), (v.Pr : Nat)⟩ A' l' c' now) (hl : l'.length ≤ v.B) : SrvAt w3 T { v with l := l', bn := now } := by
  obtain ⟨A, cc, hb0⟩ := h.bud
  refine ⟨h.str.frm hf (fun e => ?_), ⟨A', c', hb⟩, ⟨h.wf.1, h.wf.2.1, hl, h.wf.2.2.2⟩, h.tt⟩
  have := h.str.ty
  rw [e] at this
  exact absurd (this.det hb0.str.ty) (by decide)
set_option maxRecDepth 100000 in
set_option maxHeartbeats 2000000 in
theorem serve_c (h : CpuAt w T c K C) (hT : ∀ k, w.heap.size ≤ k → T k) (x : Value) : Calls Try.prog 22 #[.pointer (some ⟨c, 0, none⟩), x] w fun e w' => ∃ (r : Int) (L' : List SrvM), e = .returned (.int .i64 r) ∧
    CpuAt w' T c K { C with L := L' } ∧ ServeR C.now C.L L' r ∧ Frm T w w' := by
  have c1 := h.c1
  have hl := h.hn.2.2
  have hnow := h.hn.1
  have HH := Lib.hid h
  obtain ⟨A, cp, hvs⟩ := own_slice h.core.servers
  rw [hvs] at c1
  have HVS := Lib.hid hvs
  have HT := Lib.hid hT
  have hct := h.core.tt
  clear h hvs hT
  go_enter Try.func22, Try.ntmps22
  go_wp2_with fail
  go_loopw [14] (fun s wr => ∃ (i : Nat) (L' : List SrvM), i ≤ C.L.length ∧ s = .int .i64 i ∧ Hid (CpuAt wr T c K { C with L := L' }) ∧ Hid (Upto C.now C.L L' i) ∧ Hid (Frm T w wr)) (fun s _ => C.L.length - (intOf s).toNat)
  case atStart => exact ⟨0, C.L, by omega, rfl, HH, Lib.hid ⟨rfl, fun j v v' hj hj' => ⟨fun hc => by omega, fun _ => by rw [hj] at hj'; injection hj' with hj'; exact hj'.symm⟩⟩, Lib.hid (Frm.refl _ _)⟩
  case round =>
    obtain ⟨i, L', hi, rfl, HC, HU, HF⟩ := hrel
    have hlen := HU.out.1
    by_cases hlt : i < C.L.length
    · have e1 : decide (i < C.L.length) = true := by simpa using hlt
      have i3 : (i : Int) < (C.L.length : Int) := by omega
      obtain ⟨v, hv⟩ : ∃ v, C.L[i]? = some v := ⟨_, List.getElem?_eq_getElem hlt⟩
      obtain ⟨v', hv'⟩ : ∃ v', L'[i]? = some v' := ⟨_, List.getElem?_eq_getElem (by omega)⟩
      obtain rfl := (HU.out.2 i v v' hv hv').2 (Nat.le_refl _)
      obtain ⟨g, cap, hg, x0⟩ := HC.out.vs hv'
      have hg2 := HVS.out
      simp only at hg
      rw [hg2] at hg
      obtain ⟨rfl, -, rfl⟩ : A = some ⟨g, 0, none⟩ ∧ C.L.length = L'.length ∧ cp = cap := by simpa using hg
      have hs := HC.out.srvs.all i v' hv'
      have s0 := hs.str.cell (i := 0) rfl
      have s1 := hs.str.cell (i := 1) rfl
      have f1 := hs.str.frozen 1
      have c3 := HC.out.c3
      have hbn := HC.out.hb i v' hv'
      have HV := Lib.hid hv
      have HV' := Lib.hid hv'
      have HS := Lib.hid hs
      simp only at c3 hbn
      obtain ⟨sb, bb, B, Pr, work, l, bn⟩ := v'
      simp only at s0 s1 f1 x0 hbn
      clear hg hg2 hv hv' hs
      by_cases hw : work = 0
      · subst hw
        go_wp2_with fail
        go_roundw
        case rel => exact ⟨i + 1, L', by omega, by go_num, HC, Lib.hid (HU.out.same HV.out rfl), HF⟩
        case measure => simp [intOf]; omega
      · have e2 : ((work : Int) == 0) = false := by simp; omega
        have hwf := HS.out.wf
        simp only at hwf
        obtain ⟨A0, cc, hb⟩ := HS.out.bud
        simp only at hb
        have hU := use_c (hb.keep (Frm.refl _ wr).drew) C.now (by omega) hwf.2.2.1 hwf.1 hwf.2.1 (fun k hk => HT.out k (by have := HF.out.size; have : wr.drew.heap.size = wr.heap.size := rfl; omega))
        have HUse := Lib.hid hU
        have HB := Lib.hid hb
        clear hU hb
        go_wp2_with fail
        go_region_with (go_at_call 33; (with_reducible refine HUse.out.mono ?_); rintro e w3 ⟨ok, l', rfl, hr, hll, ⟨A', c', hb'⟩, hf3⟩; have R3 := Lib.hid hr; have B3 := Lib.hid hb'; have F3 : Hid (Frm (fun j => j = bb) wr w3) := Lib.hid ((Frm.refl _ wr).drew.trans hf3); have hsb : ¬ sb = bb := (by intro e; have := HS.out.str.ty; simp only [e] at this; exact absurd (this.det HB.out.str.ty) (by decide)); have q1 := F3.out.cell (lt_of_cell s1) hsb s1; have q2 := F3.out.frozen (lt_of_cell s1) hsb f1; clear hr hb' hf3 hsb)
        all_goals
          cases ok
          · go_wp2_with fail
            go_roundw
            case rel =>
              obtain ⟨k, k1, k2, k3, ⟨e, _⟩ | ⟨_, k4, k5⟩⟩ := R3.out
              · cases e
              · subst k5
                have hs' := HS.out.after F3.out B3.out hll
                have hc' := HC.out.srv1 HV'.out F3.out (fun k hk => .inr hk) hs' rfl rfl (Nat.le_refl _)
                exact ⟨i + 1, _, by omega, by go_num, Lib.hid hc', Lib.hid (HU.out.step HV.out (.inr ⟨by show 0 < work; omega, k, k1, k2, k3, k4, rfl⟩)), Lib.hid (HF.out.trans (F3.out.mono fun k _ e => by rw [e]; exact HS.out.tt.2))⟩
            case measure => simp [intOf]; omega
          · have W1 : IntKind.u64.wrap ((work : Int) - 1) = ((work - 1 : Nat) : Int) := by
              rw [show (work : Int) - 1 = ((work - 1 : Nat) : Int) by omega]; exact u64_small _ (by omega)
            go_wp2_with fail
            go_ret
            obtain ⟨k, k1, k2, k3, ⟨_, k4, k5⟩ | ⟨e, _⟩⟩ := R3.out
            · subst k5
              have hs' := HS.out.after F3.out B3.out hll
              have hs2 := hs'.worked (work - 1) (by omega) _ rfl
              have hf4 : Frm (fun k => k = sb ∨ k = bb) wr (w3.setCell ⟨sb, 1, none⟩ (.int .u64 ((work - 1 : Nat) : Int))) := (F3.out.mono fun k _ e => .inr e).setCell (p := ⟨sb, 1, none⟩) (.inl (.inl rfl)) _
              have hc' := HC.out.srv1 HV'.out hf4 (fun k hk => hk) hs2 rfl rfl (Nat.le_refl _)
              refine ⟨_, _, rfl, hc', HU.out.used HV.out ⟨by show 0 < work; omega, k, k1, k2, k3, k4, rfl⟩, HF.out.trans (hf4.mono fun k _ e => ?_)⟩
              rcases e with rfl | rfl
              · exact HS.out.tt.1
              · exact HS.out.tt.2
            · cases e
    · have e1 : decide (i < C.L.length) = false := by simpa using hlt
      obtain rfl : i = C.L.length := by omega
      go_wp2_with fail
      go_ret
      exact ⟨-1, L', rfl, HC.out, .inl ⟨rfl, HU.out⟩, HF.out⟩
end
end Go.Proofs.Ytadngogbnjodhaa
