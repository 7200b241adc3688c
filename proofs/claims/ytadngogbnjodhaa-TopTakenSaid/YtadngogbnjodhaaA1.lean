/- Times, tasks and servers that may be. -/
import Derived.Test.YtadngogbnjodhaaGen
import Derived.Laws.OwnMore
import Derived.Deep.AppendLies
namespace Go.Proofs.Ytadngogbnjodhaa
open Go.RowKit
structure Sv where
  bud : Int
  per : Int
  deriving Inhabited
structure Wk where
  prio : Int
  cost : Int
  per : Int
  dead : Int
  deriving Inhabited
def Sv.enc (s : Sv) : List Value := [.int .i64 s.bud, .int .u64 s.per]
def Wk.enc (s : Wk) : List Value := [.int .i64 s.prio, .int .u64 s.cost, .int .u64 s.per, .int .u64 s.dead]
def Sv.ok (s : Sv) : Prop := 1 ≤ s.bud ∧ s.bud ≤ 200 ∧ s.bud ≤ s.per ∧ s.per ≤ 1099511627776
def Sv.fit (s : Sv) : Prop := 1 ≤ s.bud ∧ s.bud ≤ 200 ∧ s.bud ≤ s.per ∧ s.per ≤ 1073741824
def Wk.ok (s : Wk) : Prop := 0 ≤ s.prio ∧ s.prio ≤ 100 ∧ 1 ≤ s.cost ∧ s.cost ≤ s.dead ∧ s.dead ≤ s.per ∧ s.per ≤ 1073741824
theorem Sv.fit.ok {s : Sv} (h : s.fit) : s.ok := by unfold Sv.fit at h; unfold Sv.ok; omega
theorem tmay_c (w : World) (t : Int) (h : 0 ≤ t ∧ t < 4611686018427387904) : Calls Try.prog 29 #[.int .u64 t] w fun e w' => e = .returned (.bool true) ∧ w' = w := by
  have e1 : decide (t < 4611686018427387904) = true := by simpa using h.2
  go_enter Try.func29, Try.ntmps29
  go_wp2_with fail
  go_ret
  exact ⟨rfl, rfl⟩
theorem add_c (w : World) (t n : Int) (h : 0 ≤ t ∧ 0 ≤ n ∧ t + n < 4611686018427387904) : Calls Try.prog 19 #[.int .u64 t, .int .u64 n] w fun e w' => e = .returned (.tuple #[.int .u64 (t + n), .int .i64 0]) ∧ w' = w := by
  have e1 : decide (4611686018427387904 < n) = false := by simp; omega
  go_enter Try.func19, Try.ntmps19
  go_wp2_with fail
  with_reducible refine (tmay_c w t (by omega)).mono ?_
  rintro e w' ⟨rfl, rfl⟩
  go_wp2_with fail
  with_reducible refine (tmay_c w' (t + n) (by omega)).mono ?_
  rintro e w'' ⟨rfl, rfl⟩
  go_wp2_with fail
  go_ret2
  exact ⟨rfl, rfl⟩
def upN (n b : Nat) : Nat := if n % b = 0 then n / b else n / b + 1
theorem u64_small (q : Nat) (h : q ≤ 18446744073709551615) : IntKind.u64.wrap (q : Int) = (q : Int) := IntWalk.u64_in _ (by omega)
theorem up_c (w : World) (n b : Nat) (h : 0 < b ∧ n < 1000000) : Calls Try.prog 38 #[.int .u64 n, .int .u64 b] w fun e w' => e = .returned (.int .u64 (upN n b)) ∧ w' = w := by
  have e1 : ((b : Int) == 0) = false := by simp; omega
  have hq : n / b ≤ n := Nat.div_le_self _ _
  have W1 := Lib.hid (show IntKind.u64.wrap ((n : Int) / (b : Int)) = ((n / b : Nat) : Int) from by
    rw [show ((n : Int) / (b : Int)) = ((n / b : Nat) : Int) by rfl]; exact u64_small _ (by omega))
  have W2 := Lib.hid (show IntKind.u64.wrap (((n / b : Nat) : Int) + 1) = ((n / b + 1 : Nat) : Int) from u64_small (n / b + 1) (by omega))
  by_cases hm : n % b = 0
  · rw [show upN n b = n / b by rw [upN, if_pos hm]]
    have e2 : ((n : Int) % (b : Int) == 0) = true := by simp; omega
    go_enter Try.func38, Try.ntmps38
    go_wp2_with fail
    rw [W1.out]
    go_ret
    exact ⟨rfl, rfl⟩
  · rw [show upN n b = n / b + 1 by rw [upN, if_neg hm]]
    have e2 : ((n : Int) % (b : Int) == 0) = false := by simp; omega
    go_enter Try.func38, Try.ntmps38
    go_wp2_with fail
    rw [W1.out, W2.out]
    go_ret
    exact ⟨rfl, rfl⟩
theorem smay_c (w : World) (s : Sv) (h : s.ok) : Calls Try.prog 28 #[.agg #[.int .i64 s.bud, .int .u64 s.per]] w fun e w' => e = .returned (.bool true) ∧ Frm (fun _ => False) w w' := by
  obtain ⟨bud, per⟩ := s
  obtain ⟨h1, h2, h3, h4⟩ := h
  simp only at h1 h2 h3 h4
  have e1 : decide (1 ≤ bud) = true := by simpa using h1
  have e2 : decide (bud ≤ 200) = true := by simpa using h2
  have e3 : decide (bud ≤ per) = true := by simpa using h3
  have e4 : decide (per ≤ 1099511627776) = true := by simpa using h4
  go_enter Try.func28, Try.ntmps28
  go_wp2_with fail
  go_ret
  exact ⟨rfl, (Frm.refl _ _).alloc _⟩
/-- A bool comes back that is true only where P is. -/
def MayR (P : Prop) (e : Ending) : Prop := ∃ b, e = .returned (.bool b) ∧ (b = true → P)
theorem rmay_c (w : World) (s : Sv) (hp : 0 ≤ s.per ∧ s.per ≤ 18446744073709551615) : Calls Try.prog 13 #[.agg #[.int .i64 s.bud, .int .u64 s.per]] w fun e w' => MayR s.ok e ∧ Frm (fun _ => False) w w' := by
  obtain ⟨bud, per⟩ := s
  simp only at hp
  go_enter Try.func13, Try.ntmps13
  go_wp2_with fail
  all_goals
    go_ret
    refine ⟨⟨_, rfl, fun h => ?_⟩, (Frm.refl _ _).alloc _⟩
    first | (cases h; done) | (simp at h; unfold Sv.ok; simp only; omega)
theorem wmay_c (w : World) (s : Wk) : Calls Try.prog 5 #[.agg #[.int .i64 s.prio, .int .u64 s.cost, .int .u64 s.per, .int .u64 s.dead]] w fun e w' => MayR s.ok e ∧ Frm (fun _ => False) w w' := by
  obtain ⟨prio, cost, per, dead⟩ := s
  go_enter Try.func5, Try.ntmps5
  go_wp2_with fail
  all_goals
    go_ret
    refine ⟨⟨_, rfl, fun h => ?_⟩, (Frm.refl _ _).alloc _⟩
    first | (cases h; done) | (simp at h; unfold Wk.ok; simp only; omega)
theorem wok_c (w : World) (s : Wk) (h : s.ok) : Calls Try.prog 15 #[.agg #[.int .i64 s.prio, .int .u64 s.cost, .int .u64 s.per, .int .u64 s.dead]] w fun e w' => e = .returned (.bool true) ∧ Frm (fun _ => False) w w' := by
  obtain ⟨prio, cost, per, dead⟩ := s
  obtain ⟨h1, h2, h3, h4, h5, h6⟩ := h
  simp only at h1 h2 h3 h4 h5 h6
  have e1 : decide (0 ≤ prio) = true := by simpa using h1
  have e2 : decide (prio ≤ 100) = true := by simpa using h2
  have e3 : decide (1 ≤ cost) = true := by simpa using h3
  have e4 : decide (cost ≤ dead) = true := by simpa using h4
  have e5 : decide (dead ≤ per) = true := by simpa using h5
  have e6 : decide (per ≤ 1073741824) = true := by simpa using h6
  go_enter Try.func15, Try.ntmps15
  go_wp2_with fail
  go_ret
  exact ⟨rfl, (Frm.refl _ _).alloc _⟩
/-- The test of a load: it tells what may not be. -/
theorem unfit_c (w : World) (s : Sv) (h : s.fit) : Calls Try.prog 37 #[.agg #[.int .i64 s.bud, .int .u64 s.per]] w fun e w' => e = .returned (.bool false) ∧ Frm (fun _ => False) w w' := by
  have HO := Lib.hid h.ok
  obtain ⟨bud, per⟩ := s
  obtain ⟨h1, h2, h3, h4⟩ := h
  simp only at h1 h2 h3 h4
  have e4 : decide (1073741824 < per) = false := by simp; omega
  go_enter Try.func37, Try.ntmps37
  go_wp2_with fail
  with_reducible refine (smay_c _ ⟨bud, per⟩ HO.out).mono ?_
  rintro e w1 ⟨rfl, hf⟩
  have c1 : w1.cell? ⟨w.heap.size, 1, none⟩ = some (.int .u64 per) := hf.cell (by simp) id (by simp)
  have H1 := Lib.hid hf
  clear hf
  go_wp2_with fail
  go_ret
  exact ⟨rfl, ((Frm.refl _ _).alloc _).trans H1.out⟩
theorem snew_c (w : World) (s : Sv) (h : s.ok) : Calls Try.prog 17 #[.agg #[.int .i64 s.bud, .int .u64 s.per]] w fun e w' => ∃ b, e = .returned (.tuple #[.pointer (some ⟨b, 0, none⟩), .int .i64 0]) ∧
    VecAt w' b 81 [.int .i64 s.bud, .int .u64 s.per, .slice none 0 0, .int .u64 0] ∧ w.heap.size ≤ b ∧ Frm (fun _ => False) w w' := by
  have HO := Lib.hid h
  obtain ⟨bud, per⟩ := s
  clear h
  go_enter Try.func17, Try.ntmps17
  go_wp2_with fail
  with_reducible refine (smay_c _ ⟨bud, per⟩ HO.out).mono ?_
  rintro e w1 ⟨rfl, hf⟩
  have c0 : w1.cell? ⟨w.heap.size, 0, none⟩ = some (.int .i64 bud) := hf.cell (by simp) id (by simp)
  have c1 : w1.cell? ⟨w.heap.size, 1, none⟩ = some (.int .u64 per) := hf.cell (by simp) id (by simp)
  have hs := hf.size
  have H1 := Lib.hid (((Frm.refl (fun _ => False) w).alloc (.cells #[.int .i64 bud, .int .u64 per] 47)).trans hf)
  clear hf
  go_wp2_with fail
  go_ret2
  refine ⟨w1.heap.size, rfl, VecAt.new _ _ _, ?_, H1.out.alloc _⟩
  simp at hs; omega
end Go.Proofs.Ytadngogbnjodhaa
