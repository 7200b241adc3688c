/- Rings in memory. -/
import Derived.Test.YtnbbaggmkinfkaaBase
namespace Go.Proofs.Ytnbbaggmkinfkaa
open Go.RowKit
def encP : Option DM → Value
  | none => .nilIface
  | some d => .iface 33 (.agg d.cells.toArray)
structure RingIs (w : World) (p b n : Nat) (L : List DM) (t r : Nat) (P : List (Option DM)) : Prop where
  hn : 1 ≤ n ∧ n ≤ 64
  hl : L.length ≤ 1000000
  ord : r ≤ t ∧ t ≤ L.length ∧ L.length ≤ r + n
  hp : w.heap[p]? = some (.cells #[.slice (some ⟨b, 0, none⟩) n n, .int .i64 L.length, .int .i64 t, .int .i64 r] 62 (0, 0))
  vb : VecAt w b 20 (P.map encP)
  plen : P.length = n
  here : ∀ (no : Nat) (d : DM), r ≤ no → L[no]? = some d → P[no % n]? = some (some d)
  gone : ∀ j : Nat, j < n → (∀ no : Nat, r ≤ no → no < L.length → no % n ≠ j) → P[j]? = some none
  fresh : ∀ (no : Nat) (d : DM), t ≤ no → L[no]? = some d → d.done = false
  ne : p ≠ b
section
variable {w : World} {p b n t r : Nat} {L : List DM} {P : List (Option DM)}
theorem RingIs.c0 (h : RingIs w p b n L t r P) : w.cell? ⟨p, 0, none⟩ = some (.slice (some ⟨b, 0, none⟩) n n) := by simp [World.cell?, h.hp]
theorem RingIs.c1 (h : RingIs w p b n L t r P) : w.cell? ⟨p, 1, none⟩ = some (.int .i64 L.length) := by simp [World.cell?, h.hp]
theorem RingIs.c2 (h : RingIs w p b n L t r P) : w.cell? ⟨p, 2, none⟩ = some (.int .i64 t) := by simp [World.cell?, h.hp]
theorem RingIs.c3 (h : RingIs w p b n L t r P) : w.cell? ⟨p, 3, none⟩ = some (.int .i64 r) := by simp [World.cell?, h.hp]
theorem RingIs.fp (h : RingIs w p b n L t r P) (i : Nat) : w.frozen? ⟨p, i, none⟩ = false := by simp [World.frozen?, h.hp]
theorem RingIs.cb (h : RingIs w p b n L t r P) {j : Nat} {x : Option DM} (hx : P[j]? = some x) : w.cell? ⟨b, j, none⟩ = some (encP x) := h.vb.cell (by simp [hx])
theorem RingIs.fb (h : RingIs w p b n L t r P) (i : Nat) : w.frozen? ⟨b, i, none⟩ = false := h.vb.frozen i
theorem RingIs.lt (h : RingIs w p b n L t r P) : p < w.heap.size ∧ b < w.heap.size := ⟨lt_of_block h.hp, h.vb.lt⟩
theorem RingIs.frm {S : Nat → Prop} {w' : World} (h : RingIs w p b n L t r P) (hf : Frm S w w') (h1 : ¬ S p) (h2 : ¬ S b) : RingIs w' p b n L t r P :=
  ⟨h.hn, h.hl, h.ord, hf.blk h.hp h1, h.vb.frm hf h2, h.plen, h.here, h.gone, h.fresh, h.ne⟩
theorem RingIs.keep {w' : World} (h : RingIs w p b n L t r P) (hf : Frm (fun _ => False) w w') : RingIs w' p b n L t r P := h.frm hf id id
theorem RingIs.alloc (h : RingIs w p b n L t r P) (o : Obj) : RingIs (w.alloc o) p b n L t r P := h.keep ((Frm.refl _ _).alloc o)
theorem mod_ne {a c n : Nat} (h1 : a < c) (h2 : c < a + n) : a % n ≠ c % n := by
  intro e
  have h := Nat.sub_mod_eq_zero_of_mod_eq e.symm
  rw [Nat.mod_eq_of_lt (by omega)] at h
  omega
theorem mod_ne' {a c n : Nat} (h1 : a ≠ c) (h2 : c < a + n) (h3 : a < c + n) : a % n ≠ c % n := by
  rcases Nat.lt_or_gt_of_ne h1 with h | h
  · exact mod_ne h h2
  · exact (mod_ne h h3).symm
theorem RingIs.next_free (h : RingIs w p b n L t r P) (hlt : L.length < r + n) : P[L.length % n]? = some none := by
  obtain ⟨o1, o2, o3⟩ := h.ord
  refine h.gone _ (Nat.mod_lt _ (by have := h.hn; omega)) fun no h1 h2 => ?_
  exact mod_ne h2 (by omega)
/-- One is put. -/
theorem RingIs.put (h : RingIs w p b n L t r P) (hlt : L.length < r + n) (hl : L.length < 1000000) (d : DM) (hd : d.done = false) :
    RingIs ((w.setCell ⟨b, L.length % n, none⟩ (encP (some d))).setCell ⟨p, 1, none⟩ (.int .i64 ((L.length : Int) + 1))) p b n (L ++ [d]) t r (P.set (L.length % n) (some d)) := by
  obtain ⟨o1, o2, o3⟩ := h.ord
  have hm : L.length % n < n := Nat.mod_lt _ (by have := h.hn; omega)
  refine ⟨h.hn, by simp; omega, by simp; omega, ?_, ?_, by simpa using h.plen, ?_, ?_, ?_, h.ne⟩
  · have := blk_setCell (i := 1) (blk_other h.hp (a := ⟨b, L.length % n, none⟩) h.ne (encP (some d))) (.int .i64 ((L.length : Int) + 1))
    rw [this]; simp
  · rw [List.map_set]
    exact (h.vb.set _ _).other (a := ⟨p, 1, none⟩) h.ne.symm _
  · intro no d' hr hno
    by_cases hx : no < L.length
    · rw [List.getElem?_append_left hx] at hno
      rw [List.getElem?_set_ne (fun e => mod_ne hx (by omega) e.symm)]
      exact h.here no d' hr hno
    · rw [List.getElem?_append_right (by omega)] at hno
      have : no = L.length := by
        have := (List.getElem?_eq_some_iff.1 hno).1
        simp at this; omega
      subst this
      simp at hno
      subst hno
      exact List.getElem?_set_self (by rw [h.plen]; exact hm)
  · intro j hj hall
    have h1 := hall L.length (by omega) (by simp)
    rw [List.getElem?_set_ne h1]
    exact h.gone j hj fun no a c => hall no a (by simp; omega)
  · intro no d' ht hno
    by_cases hx : no < L.length
    · rw [List.getElem?_append_left hx] at hno
      exact h.fresh no d' ht hno
    · rw [List.getElem?_append_right (by omega)] at hno
      have : no - L.length = 0 := by
        have := (List.getElem?_eq_some_iff.1 hno).1
        simp at this; omega
      rw [this] at hno
      simp at hno
      subst hno; exact hd
/-- One is taken. -/
theorem RingIs.take (h : RingIs w p b n L t r P) (hlt : t < L.length) :
    RingIs (w.setCell ⟨p, 2, none⟩ (.int .i64 ((t : Int) + 1))) p b n L (t + 1) r P := by
  obtain ⟨o1, o2, o3⟩ := h.ord
  refine ⟨h.hn, h.hl, by omega, ?_, h.vb.other (a := ⟨p, 2, none⟩) h.ne.symm _, h.plen, h.here, h.gone, fun no d a c => h.fresh no d (by omega) c, h.ne⟩
  rw [blk_setCell (i := 2) h.hp]; simp
/-- One is done. -/
theorem RingIs.finish (h : RingIs w p b n L t r P) {no : Nat} (h1 : r ≤ no) (h2 : no < t) (d : DM) :
    RingIs (w.setCell ⟨b, no % n, none⟩ (encP (some d))) p b n (L.set no d) t r (P.set (no % n) (some d)) := by
  obtain ⟨o1, o2, o3⟩ := h.ord
  have hm : no % n < n := Nat.mod_lt _ (by have := h.hn; omega)
  refine ⟨h.hn, by simpa using h.hl, by simpa using h.ord, ?_, ?_, by simpa using h.plen, ?_, ?_, ?_, h.ne⟩
  · rw [List.length_set]; exact blk_other h.hp (a := ⟨b, no % n, none⟩) h.ne _
  · rw [List.map_set]; exact h.vb.set _ _
  · intro k d' hr hk
    have hkl : k < L.length := by have := (List.getElem?_eq_some_iff.1 hk).1; simpa using this
    by_cases hx : no = k
    · subst hx
      rw [List.getElem?_set_self hkl] at hk
      injection hk with hk; subst hk
      exact List.getElem?_set_self (by rw [h.plen]; exact hm)
    · rw [List.getElem?_set_ne hx] at hk
      rw [List.getElem?_set_ne (mod_ne' hx (by omega) (by omega))]
      exact h.here k d' hr hk
  · intro j hj hall
    rw [List.getElem?_set_ne (hall no h1 (by simp; omega))]
    exact h.gone j hj fun k a c => hall k a (by simpa using c)
  · intro k d' ht hk
    rw [List.getElem?_set_ne (by omega)] at hk
    exact h.fresh k d' ht hk
/-- One is reaped. -/
theorem RingIs.reap (h : RingIs w p b n L t r P) (hlt : r < t) :
    RingIs ((w.setCell ⟨b, r % n, none⟩ .nilIface).setCell ⟨p, 3, none⟩ (.int .i64 ((r : Int) + 1))) p b n L t (r + 1) (P.set (r % n) none) := by
  obtain ⟨o1, o2, o3⟩ := h.ord
  have hm : r % n < n := Nat.mod_lt _ (by have := h.hn; omega)
  refine ⟨h.hn, h.hl, by omega, ?_, ?_, by simpa using h.plen, ?_, ?_, h.fresh, h.ne⟩
  · rw [blk_setCell (i := 3) (blk_other h.hp (a := ⟨b, r % n, none⟩) h.ne _)]; simp
  · rw [List.map_set]
    exact (h.vb.set _ _).other (a := ⟨p, 3, none⟩) h.ne.symm _
  · intro no d hr hno
    have hkl : no < L.length := (List.getElem?_eq_some_iff.1 hno).1
    rw [List.getElem?_set_ne (mod_ne (by omega) (by omega))]
    exact h.here no d (by omega) hno
  · intro j hj hall
    by_cases hx : r % n = j
    · rw [hx]; exact List.getElem?_set_self (by rw [h.plen]; exact hj)
    · rw [List.getElem?_set_ne hx]
      refine h.gone j hj fun no a c => ?_
      by_cases he : no = r
      · subst he; exact hx
      · exact hall no (by omega) c
theorem ta_ok (v : Value) (w : World) : (Instr.typeAssert (.iface 33 v) 20 33 true).run Try.prog w = .ok (.tuple #[v, .bool true]) w := by
  simp [Instr.typeAssert, run_underlying Try.underlying33]
theorem ta_nil (w : World) : (Instr.typeAssert .nilIface 20 33 true).run Try.prog w = .ok (.tuple #[.agg #[.int .i64 0, .int .i64 0, .int .i64 0, .int .u64 0, .int .i64 0, .int .i64 0, .bool false, .bool false, .int .i64 0], .bool false]) w := by kernel_rfl
theorem ta_one (v : Value) (w : World) : (Instr.typeAssert (.iface 33 v) 20 33 false).run Try.prog w = .ok v w := by
  simp [Instr.typeAssert, run_underlying Try.underlying33]
attribute [go_sem] ta_ok ta_nil ta_one
theorem place_c (h : RingIs w p b n L t r P) (no : Nat) : Calls Try.prog 26 #[.pointer (some ⟨p, 0, none⟩), .int .i64 no] w fun e w' => e = .returned (.int .i64 ((no % n : Nat) : Int)) ∧ w = w' := by
  have h0 := h.c0
  have hn := h.hn
  have kz : ((n : Int) == 0) = false := by simp; omega
  clear h
  go_enter Try.func26, Try.ntmps26
  go_wp2
  go_ret
  exact ⟨by simp, rfl⟩
end
end Go.Proofs.Ytnbbaggmkinfkaa
