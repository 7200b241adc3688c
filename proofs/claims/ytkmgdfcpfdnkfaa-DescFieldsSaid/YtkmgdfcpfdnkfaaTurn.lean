/- One byte turned; descriptors compared. -/
import Derived.Test.YtkmgdfcpfdnkfaaAw
namespace Go.Proofs.Ytkmgdfcpfdnkfaa
open Go.RowKit
def sameD (d o : DM) : Bool := decide (d = o)
theorem eq_run (a0 a1 a2 a3 a4 a5 a8 b0 b1 b2 b3 b4 b5 b8 : Int) (a6 a7 b6 b7 : Bool) (w : World) :
    (binOp .eql 26 (.agg #[.int .i64 a0, .int .i64 a1, .int .i64 a2, .int .u64 a3, .int .i64 a4, .int .i64 a5, .bool a6, .bool a7, .int .i64 a8]) (.agg #[.int .i64 b0, .int .i64 b1, .int .i64 b2, .int .u64 b3, .int .i64 b4, .int .i64 b5, .bool b6, .bool b7, .int .i64 b8])).run Try.prog w =
      .ok (.bool (sameD ⟨a0, a1, a2, a3, a4, a5, a6, a7, a8⟩ ⟨b0, b1, b2, b3, b4, b5, b6, b7, b8⟩)) w := by
  have hv : ∀ b : Bool, sameD ⟨a0, a1, a2, a3, a4, a5, a6, a7, a8⟩ ⟨b0, b1, b2, b3, b4, b5, b6, b7, b8⟩ = b ↔ (b = true ↔ (a0 = b0 ∧ a1 = b1 ∧ a2 = b2 ∧ a3 = b3 ∧ a4 = b4 ∧ a5 = b5 ∧ a6 = b6 ∧ a7 = b7 ∧ a8 = b8)) := by
    intro b; cases b <;> simp [sameD]
  generalize sameD ⟨a0, a1, a2, a3, a4, a5, a6, a7, a8⟩ ⟨b0, b1, b2, b3, b4, b5, b6, b7, b8⟩ = r at *
  have hr : r = decide (a0 = b0 ∧ a1 = b1 ∧ a2 = b2 ∧ a3 = b3 ∧ a4 = b4 ∧ a5 = b5 ∧ a6 = b6 ∧ a7 = b7 ∧ a8 = b8) := by rw [hv]; simp
  subst hr
  clear hv
  rw [run_eql_struct]
  go_simp
  (repeat' split) <;> simp_all
attribute [go_sem high] eq_run
theorem sameD_self (d : DM) : sameD d d = true := by simp [sameD]
theorem xor_fix {x b : Nat} (h : x ^^^ b = x) : b = 0 := by
  have h1 : x ^^^ (x ^^^ b) = b := by rw [← Nat.xor_assoc, Nat.xor_self, Nat.zero_xor]
  rw [h, Nat.xor_self] at h1
  exact h1.symm
theorem chk_eq {l l' : List Nat} (h : big 3 (chk l) = big 3 (chk l')) : chk l = chk l' :=
  big_inj (Nat.mod_lt _ (by decide)) (Nat.mod_lt _ (by decide)) h
/-- With one byte turned it is none's. -/
theorem turned_bad {d : DM} {i x y : Nat} (hx : (encB d)[i]? = some x) (hy : y < 256) (hne : y ≠ x) : fromB ((encB d).set i y) = ⟨DM.zero, 9⟩ := by
  have hi : i < 20 := by have := (List.getElem?_eq_some_iff.1 hx).1; rwa [encB_len] at this
  have hx8 : x < 256 := encB_lt d x (List.mem_of_getElem? hx)
  unfold fromB
  rw [if_neg]
  rintro ⟨_, hb⟩
  generalize hD : decB ((encB d).set i y) = d' at hb
  unfold bytesB at hb
  split at hb
  · have hl' := bodyB_len d'
    have hl := bodyB_len d
    unfold encB at hb hx
    by_cases h17 : i < 17
    · rw [List.set_append_left _ _ (by omega)] at hb
      rw [List.getElem?_append_left (by omega)] at hx
      have hbody : bodyB d' = (bodyB d).set i y := by
        have := congrArg (List.take 17) hb
        rwa [List.take_append_of_le_length (by omega), List.take_append_of_le_length (by simp; omega), List.take_of_length_le (by omega), List.take_of_length_le (by simp; omega)] at this
      have htail : big 3 (chk (bodyB d')) = big 3 (chk (bodyB d)) := by
        have := congrArg (List.drop 17) hb
        rwa [List.drop_append_of_le_length (by omega), List.drop_append_of_le_length (by simp; omega), List.drop_of_length_le (by omega), List.drop_of_length_le (by simp; omega)] at this
      have hc := chk_eq htail
      rw [hbody] at hc
      have hw := wsum_set (bodyB d) 0 i x y hx
      rw [Nat.zero_add] at hw
      unfold chk at hc
      generalize wsum 0 ((bodyB d).set i y) = a at *
      generalize wsum 0 (bodyB d) = b at *
      have hmul : ∀ z, z < 256 → (i + 1) * z ≤ 17 * 255 := fun z hz => Nat.mul_le_mul (by omega) (by omega)
      have e1 := hmul x hx8
      have e2 := hmul y hy
      have e3 : (i + 1) * x = (i + 1) * y := by omega
      exact hne (Nat.eq_of_mul_eq_mul_left (by omega) e3).symm
    · rw [List.set_append_right _ _ (by omega)] at hb
      have hbody : bodyB d' = bodyB d := by
        have := congrArg (List.take 17) hb
        rwa [List.take_append_of_le_length (by omega), List.take_append_of_le_length (by omega), List.take_of_length_le (by omega), List.take_of_length_le (by omega)] at this
      have htail : big 3 (chk (bodyB d')) = (big 3 (chk (bodyB d))).set (i - (bodyB d).length) y := by
        have := congrArg (List.drop 17) hb
        rwa [List.drop_append_of_le_length (by omega), List.drop_append_of_le_length (by omega), List.drop_of_length_le (by omega), List.drop_of_length_le (by omega)] at this
      rw [hbody] at htail
      rw [List.getElem?_append_right (by omega), htail, List.getElem?_set_self (by rw [big_length]; omega)] at hx
      injection hx with hx
      exact hne hx
  · have := congrArg List.length hb
    simp [encB_len] at this
theorem set_same {l : List Nat} {i x : Nat} (h : l[i]? = some x) : l.set i x = l := by
  apply List.ext_getElem?
  intro j
  by_cases e : i = j
  · subst e; rw [List.getElem?_set_self (List.getElem?_eq_some_iff.1 h).1, h]
  · rw [List.getElem?_set_ne e]
theorem OwnB.set {w : World} {base g c : Nat} {l : List Nat} (h : OwnB w base (.slice (some ⟨g, 0, none⟩) l.length c) l) (i y : Nat) : OwnB (w.setCell ⟨g, i, none⟩ (.int .u8 (y : Int))) base (.slice (some ⟨g, 0, none⟩) l.length c) (l.set i y) := by
  have h1 := World.ownsRow.stored h i (.int .u8 (y : Int))
  unfold OwnB
  rw [List.length_set, ← bcells_set]
  exact h1.1
theorem OwnB.cell {w : World} {base g c n : Nat} {l : List Nat} (h : OwnB w base (.slice (some ⟨g, 0, none⟩) n c) l) (hn : l.length = n) {j x : Nat} (hj : l[j]? = some x) : w.cell? ⟨g, j, none⟩ = some (.int .u8 (x : Int)) ∧ w.frozen? ⟨g, j, none⟩ = false := by
  subst hn
  have hl := (List.getElem?_eq_some_iff.1 hj).1
  exact ⟨(World.ownsRow.cellAt h j (by omega)).trans (bcells_get hj), World.ownsRow.frozenAt h j⟩
theorem OwnB.setn {w : World} {base g c n : Nat} {l : List Nat} (h : OwnB w base (.slice (some ⟨g, 0, none⟩) n c) l) (hn : l.length = n) (i y : Nat) : OwnB (w.setCell ⟨g, i, none⟩ (.int .u8 (y : Int))) base (.slice (some ⟨g, 0, none⟩) n c) (l.set i y) := by
  subst hn; exact h.set i y
theorem OwnB.byt {w : World} {base c n : Nat} {A : Option Addr} {l : List Nat} (h : OwnB w base (.slice A n c) l) (hl : ∀ x ∈ l, x < 256) : Byt w A l ∧ l.length = n ∧ n ≤ c := by
  obtain ⟨A', c', e, hb, hc, _⟩ := h.open2 hl
  simp only [Value.slice.injEq] at e
  obtain ⟨rfl, rfl, rfl⟩ := e
  exact ⟨hb, rfl, hc⟩
theorem set_lt {l : List Nat} (h : ∀ x ∈ l, x < 256) {i y : Nat} (hy : y < 256) : ∀ x ∈ l.set i y, x < 256 := by
  intro x hx
  rcases List.mem_or_eq_of_mem_set hx with hx | hx
  · exact h x hx
  · rw [hx]; exact hy
theorem enc_inj {d o : DM} (hd : mayB d = true) (ho : mayB o = true) (gd : 0 ≤ d.gen) (go : 0 ≤ o.gen) (h : encB d = encB o) : d = o := by
  have h1 := read_back hd gd
  have h2 := read_back ho go
  rw [h, h2] at h1
  injection h1 with h1
  exact h1.symm
end Go.Proofs.Ytkmgdfcpfdnkfaa
