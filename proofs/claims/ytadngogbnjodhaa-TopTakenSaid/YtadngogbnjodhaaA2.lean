/- Rows of servers. -/
import Derived.Test.YtadngogbnjodhaaA1
namespace Go.Proofs.Ytadngogbnjodhaa
open Go.RowKit
def fnv (f : Nat) : Value := .func (.func f) #[] #[]
def fits (l : List Sv) : Prop := l.length ≤ 16 ∧ ∀ (i : Nat) (s : Sv), l[i]? = some s → s.fit
/-- A row of servers, as cells. -/
theorem cellS {w : World} {A : Option Addr} {l : List Sv} (h : RowsAt w A 2 Sv.enc l) (h0 : 0 < l.length) : ∃ b off, A = some ⟨b, off, none⟩ ∧ b < w.heap.size ∧ ∀ (i : Nat) (s : Sv), l[i]? = some s → w.cell? ⟨b, off + i * 2, none⟩ = some (.int .i64 s.bud) ∧ w.cell? ⟨b, off + i * 2 + 1, none⟩ = some (.int .u64 s.per) := by
  obtain ⟨b, off, he, hlt, hc⟩ := h.at_ h0
  exact ⟨b, off, he, hlt, fun i s hs => ⟨by simpa using hc i s hs 0 _ rfl, hc i s hs 1 _ rfl⟩⟩
theorem indexS_c (w : World) (A : Option Addr) (c : Nat) (l : List Sv) (hl : RowsAt w A 2 Sv.enc l) (hf : fits l) :
    Calls Try.prog 46 #[.slice A l.length c, fnv 37] w fun e w' => e = .returned (.int .i64 (-1)) ∧ Frm (fun _ => False) w w' := by
  have HL := Lib.hid hl
  have hlen := hf.1
  have HF := Lib.hid hf.2
  clear hl hf
  unfold fnv
  go_enter Try.func46, Try.ntmps46
  go_wp2_with fail
  go_loopw [8] (fun i wr => ∃ k : Nat, k ≤ l.length ∧ i = .int .i64 k ∧ Hid (Frm (fun _ => False) w wr)) (fun i _ => l.length - (intOf i).toNat)
  case atStart => exact ⟨0, by omega, rfl, Lib.hid (Frm.refl _ _)⟩
  case round =>
    obtain ⟨k, hk, rfl, HX⟩ := hrel
    by_cases hlt : k < l.length
    · have e1 : decide (k < l.length) = true := by simpa using hlt
      obtain ⟨b, off, rfl, hb, hc⟩ := cellS HL.out (by omega)
      obtain ⟨s, hs⟩ : ∃ s, l[k]? = some s := ⟨_, List.getElem?_eq_getElem hlt⟩
      obtain ⟨x0, x1⟩ := hc k s hs
      have x0 := HX.out.cell hb id x0
      have x1 := HX.out.cell hb id x1
      have HS := Lib.hid (HF.out k s hs)
      clear hc hs
      go_wp2_with fail
      with_reducible refine (unfit_c wr s HS.out).mono ?_
      rintro e w1 ⟨rfl, hf⟩
      have H1 := Lib.hid (HX.out.trans hf)
      clear hf HX
      go_wp2_with fail
      go_roundw
      case rel => exact ⟨k + 1, by omega, by go_num, H1⟩
      case measure => simp [intOf]; omega
    · have e1 : decide (k < l.length) = false := by simpa using hlt
      go_wp2_with fail
      go_ret
      exact ⟨rfl, HX.out⟩
theorem containsS_c (w : World) (A : Option Addr) (c : Nat) (l : List Sv) (hl : RowsAt w A 2 Sv.enc l) (hf : fits l) :
    Calls Try.prog 36 #[.slice A l.length c, fnv 37] w fun e w' => e = .returned (.bool false) ∧ Frm (fun _ => False) w w' := by
  have HI := Lib.hid (indexS_c w A c l hl hf)
  clear hl hf
  unfold fnv at HI ⊢
  go_enter Try.func36, Try.ntmps36
  go_wp2_with fail
  with_reducible refine HI.out.mono ?_
  rintro e w1 ⟨rfl, hf⟩
  go_wp2_with fail
  go_ret
  exact ⟨rfl, hf⟩
theorem mayLoads_c (w : World) (A : Option Addr) (c : Nat) (l : List Sv) (hl : RowsAt w A 2 Sv.enc l) (hf : fits l) :
    Calls Try.prog 24 #[.slice A l.length c] w fun e w' => e = .returned (.bool true) ∧ Frm (fun _ => False) w w' := by
  have HI := Lib.hid (containsS_c w A c l hl hf)
  have hl := hf.1
  have e1 : decide ((l.length : Int) ≤ 16) = true := by simp; omega
  clear hf
  unfold fnv at HI
  go_enter Try.func24, Try.ntmps24
  go_wp2_with fail
  with_reducible refine HI.out.mono ?_
  rintro e w1 ⟨rfl, hf⟩
  go_wp2_with fail
  go_ret
  exact ⟨rfl, hf⟩
theorem indexT_c (w : World) (f : Value) : Calls Try.prog 47 #[.slice none 0 0, f] w fun e w' => e = .returned (.int .i64 (-1)) ∧ w' = w := by
  go_enter Try.func47, Try.ntmps47
  go_wp2_with fail
  go_loopw [8] (fun i wr => i = .int .i64 0 ∧ wr = w) (fun _ _ => 0)
  case atStart => exact ⟨rfl, rfl⟩
  case round =>
    obtain ⟨rfl, rfl⟩ := hrel
    go_wp2_with fail
    go_ret
    exact ⟨rfl, rfl⟩
theorem containsT_c (w : World) (f : Value) : Calls Try.prog 39 #[.slice none 0 0, f] w fun e w' => e = .returned (.bool false) ∧ w' = w := by
  go_enter Try.func39, Try.ntmps39
  go_wp2_with fail
  with_reducible refine (indexT_c w f).mono ?_
  rintro e w1 ⟨rfl, rfl⟩
  go_wp2_with fail
  go_ret
  exact ⟨rfl, rfl⟩
theorem mayTasks_c (w : World) : Calls Try.prog 26 #[.slice none 0 0] w fun e w' => e = .returned (.bool true) ∧ w' = w := by
  go_enter Try.func26, Try.ntmps26
  go_wp2_with fail
  with_reducible refine (containsT_c w _).mono ?_
  rintro e w1 ⟨rfl, rfl⟩
  go_wp2_with fail
  go_ret
  exact ⟨rfl, rfl⟩
theorem all_c (w : World) (A : Option Addr) (c : Nat) (l : List Sv) (hl : RowsAt w A 2 Sv.enc l) (hf : fits l) :
    Calls Try.prog 16 #[.slice none 0 0, .slice A l.length c] w fun e w' => e = .returned (.bool true) ∧ Frm (fun _ => False) w w' := by
  have HI := Lib.hid (mayLoads_c w A c l hl hf)
  clear hl hf
  go_enter Try.func16, Try.ntmps16
  go_wp2_with fail
  go_step3
  go_wp2_with fail
  with_reducible refine (mayTasks_c w).mono ?_
  rintro e w1 ⟨rfl, rfl⟩
  go_wp2_with fail
  with_reducible refine HI.out.mono ?_
  rintro e w2 ⟨rfl, hf⟩
  have H2 := Lib.hid hf
  clear hf HI
  go_wp2_with fail
  go_step3
  go_wp2_with fail
  go_loopw [18] (fun i wr => i = .int .i64 0 ∧ wr = w2) (fun _ _ => 0)
  case atStart => exact ⟨rfl, rfl⟩
  case round =>
    obtain ⟨rfl, rfl⟩ := hrel
    go_wp2_with fail
    rw [Exit.noGoto_ret]
    go_ret
    exact ⟨rfl, H2.out⟩
def FitsTo (l : List Sv) (k : Nat) : Prop := ∀ (i : Nat) (s : Sv), i < k → l[i]? = some s → s.fit
theorem loads_c (w : World) (A : Option Addr) (c : Nat) (l : List Sv) (hl : RowsAt w A 2 Sv.enc l) (hp : ∀ (i : Nat) (s : Sv), l[i]? = some s → 0 ≤ s.per ∧ s.per ≤ 18446744073709551615) :
    Calls Try.prog 6 #[.slice A l.length c] w fun e w' => MayR (fits l) e ∧ Frm (fun _ => False) w w' := by
  have HL := Lib.hid hl
  have HP := Lib.hid hp
  have hlen := hl.len
  clear hl hp
  go_enter Try.func6, Try.ntmps6
  go_wp2_with fail
  go_loopw [3] (fun i wr => ∃ k : Nat, k ≤ l.length ∧ i = .int .i64 k ∧ Hid (Frm (fun _ => False) w wr) ∧ Hid (FitsTo l k)) (fun i _ => l.length - (intOf i).toNat)
  case atStart => exact ⟨0, by omega, rfl, Lib.hid (Frm.refl _ _), Lib.hid (fun i s hi => by omega)⟩
  case round =>
    obtain ⟨k, hk, rfl, HX, HF⟩ := hrel
    by_cases hlt : k < l.length
    · have e1 : decide (k < l.length) = true := by simpa using hlt
      obtain ⟨b, off, rfl, hb, hc⟩ := cellS HL.out (by omega)
      obtain ⟨s, hs⟩ : ∃ s, l[k]? = some s := ⟨_, List.getElem?_eq_getElem hlt⟩
      obtain ⟨x0, x1⟩ := hc k s hs
      have X1 := Lib.hid (HX.out.cell hb id x1)
      have x0 := HX.out.cell hb id x0
      have x1 := X1.out
      have HSS := Lib.hid hs
      have hp := HP.out k s hs
      have hb2 : b < wr.heap.size := by have := HX.out.size; omega
      clear hc hs
      go_wp2_with fail
      with_reducible refine (rmay_c wr s hp).mono ?_
      rintro e w1 ⟨⟨b1, rfl, hb1⟩, hf⟩
      have x1 := hf.cell hb2 id X1.out
      have H1 := Lib.hid (HX.out.trans hf)
      clear hf HX
      cases b1
      · clear hb1
        go_wp2_with fail
        go_ret
        exact ⟨⟨_, rfl, fun h => by cases h⟩, H1.out⟩
      · have HO := Lib.hid (hb1 rfl)
        clear hb1
        by_cases hper : 1073741824 < s.per
        · have e2 : decide (1073741824 < s.per) = true := by simpa using hper
          go_wp2_with fail
          go_ret
          exact ⟨⟨_, rfl, fun h => by cases h⟩, H1.out⟩
        · have e2 : decide (1073741824 < s.per) = false := by simpa using hper
          have H2 : Hid (FitsTo l (k + 1)) := Lib.hid (fun i s' hi hs' => by
            by_cases e : i = k
            · subst e
              have := HSS.out
              rw [this] at hs'; injection hs' with hs'; subst hs'
              have := HO.out
              unfold Sv.ok at this
              unfold Sv.fit
              omega
            · exact HF.out i s' (by omega) hs')
          go_wp2_with fail
          go_roundw
          case rel => exact ⟨k + 1, by omega, by go_num, H1, H2⟩
          case measure => simp [intOf]; omega
    · have e1 : decide (k < l.length) = false := by simpa using hlt
      obtain rfl : k = l.length := by omega
      go_wp2_with fail
      go_ret
      refine ⟨⟨_, rfl, fun h => ⟨by simp at h; omega, fun i s hs => HF.out i s (List.getElem?_eq_some_iff.1 hs).1 hs⟩⟩, HX.out⟩
/-- What loads take of a span. -/
def takenN (l : List Sv) (span : Nat) : Nat := (l.map fun s => upN span s.per.toNat * s.bud.toNat).sum
theorem takenN_step {l : List Sv} {k : Nat} {s : Sv} (hs : l[k]? = some s) (span : Nat) : takenN (l.take (k + 1)) span = takenN (l.take k) span + upN span s.per.toNat * s.bud.toNat := by
  have : l.take (k + 1) = l.take k ++ [s] := by
    rw [List.take_add_one, hs]; rfl
  rw [this, takenN, takenN, List.map_append, List.sum_append]
  simp
theorem upN_le (n b : Nat) : upN n b ≤ n + 1 := by
  unfold upN
  have := Nat.div_le_self n b
  split <;> omega
theorem takenN_le {l : List Sv} (h : ∀ (i : Nat) (s : Sv), l[i]? = some s → s.fit) (span : Nat) (hs : span ≤ 1000) : ∀ k, k ≤ l.length → takenN (l.take k) span ≤ k * 200200 := by
  intro k
  induction k with
  | zero => intro _; simp [takenN]
  | succ k ih =>
    intro hk
    obtain ⟨s, hl⟩ : ∃ s, l[k]? = some s := ⟨_, List.getElem?_eq_getElem (by omega)⟩
    rw [takenN_step hl]
    have h1 := ih (by omega)
    have h2 := h k s hl
    have h3 := upN_le span s.per.toNat
    have h4 : s.bud.toNat ≤ 200 := by unfold Sv.fit at h2; omega
    have h5 : upN span s.per.toNat * s.bud.toNat ≤ 1001 * 200 := Nat.mul_le_mul (by omega) h4
    omega
set_option maxHeartbeats 1000000 in
theorem taken_c (w : World) (A : Option Addr) (c : Nat) (l : List Sv) (hl : RowsAt w A 2 Sv.enc l) (hf : fits l) (span : Nat) (hs : span ≤ 1000) :
    Calls Try.prog 25 #[.slice A l.length c, .int .u64 span] w fun e w' => e = .returned (.int .u64 (takenN l span)) ∧ Frm (fun _ => False) w w' := by
  have HL := Lib.hid hl
  have hlen := hf.1
  have HF := Lib.hid hf.2
  clear hl hf
  go_enter Try.func25, Try.ntmps25
  go_wp2_with fail
  go_loopw [5, 10] (fun q i wr => ∃ k : Nat, k ≤ l.length ∧ i = .int .i64 k ∧ q = .int .u64 (takenN (l.take k) span) ∧ Hid (Frm (fun _ => False) w wr)) (fun _ i _ => l.length - (intOf i).toNat)
  case atStart => exact ⟨0, by omega, rfl, rfl, Lib.hid (Frm.refl _ _)⟩
  case round =>
    obtain ⟨k, hk, rfl, rfl, HX⟩ := hrel
    by_cases hlt : k < l.length
    · have e1 : decide (k < l.length) = true := by simpa using hlt
      obtain ⟨b, off, rfl, hb, hc⟩ := cellS HL.out (by omega)
      obtain ⟨s, hs'⟩ : ∃ s, l[k]? = some s := ⟨_, List.getElem?_eq_getElem hlt⟩
      obtain ⟨x0, x1⟩ := hc k s hs'
      have x0 := HX.out.cell hb id x0
      have x1 := HX.out.cell hb id x1
      have hle := takenN_le HF.out span hs k (by omega)
      have hst := takenN_step hs' span
      have hfit := HF.out k s hs'
      obtain ⟨bud, per⟩ := s
      obtain ⟨g1, g2, g3, g4⟩ := hfit
      simp only at g1 g2 g3 g4 x0 x1 hst
      obtain ⟨B, rfl⟩ : ∃ B : Nat, bud = B := ⟨bud.toNat, by omega⟩
      obtain ⟨P, rfl⟩ : ∃ P : Nat, per = P := ⟨per.toNat, by omega⟩
      simp only [Int.toNat_natCast] at hst
      have hP : 0 < P := by omega
      have h3 := upN_le span P
      have h5 : upN span P * B ≤ 1001 * 200 := Nat.mul_le_mul (by omega) (by omega)
      generalize hU : upN span P = U at *
      generalize takenN (l.take k) span = S at *
      have W1 := Lib.hid (show IntKind.u64.wrap ((U : Int) * (B : Int)) = ((U * B : Nat) : Int) from by rw [show ((U : Int) * (B : Int)) = ((U * B : Nat) : Int) by simp]; exact u64_small _ (by omega))
      have W2 := Lib.hid (show IntKind.u64.wrap ((S : Int) + ((U * B : Nat) : Int)) = ((S + U * B : Nat) : Int) from by rw [show ((S : Int) + ((U * B : Nat) : Int)) = ((S + U * B : Nat) : Int) by simp]; exact u64_small _ (by omega))
      have HU := Lib.hid (fun w => up_c w span P ⟨hP, by omega⟩)
      rw [hU] at HU
      have HST := Lib.hid hst
      clear hc hs' hst hle h5 hU h3
      go_wp2_with fail
      go_quiet ((go_at_call 38; exact Calls.quiet_of_same (HU.out _)))
      go_wp2_with fail
      go_roundw
      case rel => exact ⟨k + 1, by omega, by go_num, by rw [W1.out, W2.out, HST.out], Lib.hid ((HX.out.alloc _).drewN _)⟩
      case measure => simp [intOf]; omega
    · have e1 : decide (k < l.length) = false := by simpa using hlt
      obtain rfl : k = l.length := by omega
      rw [show l.take l.length = l from List.take_length]
      go_wp2_with fail
      go_ret
      exact ⟨rfl, HX.out⟩
end Go.Proofs.Ytadngogbnjodhaa
