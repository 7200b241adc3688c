/- RingLate: the walk. -/
import Derived.Test.YtnbbaggmkinfkaaAw
import Derived.Test.YtnbbaggmkinfkaaDos
namespace Go.Proofs.Ytnbbaggmkinfkaa
open Go.RowKit
theorem mayB_D (q : Int) (h0 : 0 ≤ q) (h1 : q ≤ 65535) : mayB (D q).fresh = true := by
  simp [mayB, inB, D, DM.zero, DM.fresh, h0, h1]
def upd (F : Nat → Bool) (k : Nat) (m : Nat) : Bool := if m = k then true else F m
theorem info4 : (Try.prog.info? 4).map (fun i => (i.zero, i.size, i.bytes)) = some (some (.bool false), 1, 1) := by kernel_rfl
structure LRing (w wr : World) (p b s a t R : Nat) (G : Nat → Bool) : Prop where
  hp : w.heap.size ≤ p ∧ w.heap.size ≤ b
  frm : Frm (fun k => w.heap.size ≤ k) w wr
  ring : ∃ L P, RingIs wr p b s L t R P ∧ L.length = a ∧ ∀ m, m < a → ∃ d, L[m]? = some d ∧ d.req = m ∧ d.done = G m ∧ (d.done = true → d.device = false)
section
variable {w wr : World} {p b q s a t R n : Nat} {F G : Nat → Bool}
theorem LRing.frame {w' : World} (h : LRing w wr p b s a t R G) (hf : Frm (fun k => k = q) wr w') (h1 : q ≠ p) (h2 : q ≠ b) (hq : w.heap.size ≤ q) : LRing w w' p b s a t R G := by
  obtain ⟨hp, hf0, L, P, hr, e, hi⟩ := h
  exact ⟨hp, hf0.trans (hf.up (by omega)), L, P, hr.frm hf h1.symm h2.symm, e, hi⟩
theorem LRing.keep {w' : World} (h : LRing w wr p b s a t R G) (hf : Frm (fun _ => False) wr w') : LRing w w' p b s a t R G := by
  obtain ⟨hp, hf0, L, P, hr, e, hi⟩ := h
  exact ⟨hp, hf0.trans hf.of_none, L, P, hr.keep hf, e, hi⟩
theorem LRing.alloc (h : LRing w wr p b s a t R G) (o : Obj) : LRing w (wr.alloc o) p b s a t R G := h.keep ((Frm.refl _ _).alloc o)
theorem LRing.lt (h : LRing w wr p b s a t R G) : (p < wr.heap.size ∧ b < wr.heap.size) ∧ R ≤ t ∧ t ≤ a ∧ a ≤ R + s := by
  obtain ⟨hp, hf, L, P, hr, rfl, hi⟩ := h
  exact ⟨hr.lt, hr.ord⟩
theorem LRing.put (h : LRing w wr p b s a t R G) (ha : a < R + s) (hm : a ≤ 65535) (hg : G a = false) :
    Calls Try.prog 10 #[.pointer (some ⟨p, 0, none⟩), .agg #[.int .i64 0, .int .i64 a, .int .i64 0, .int .u64 0, .int .i64 0, .int .i64 0, .bool false, .bool false, .int .i64 0]] wr fun e w' =>
      e = .returned (.tuple #[.int .i64 a, .int .i64 0]) ∧ LRing w w' p b s (a + 1) t R G ∧ Frm (fun k => k = p ∨ k = b) wr w' := by
  obtain ⟨hp, hf, L, P, hr, rfl, hi⟩ := h
  have := put_ok hr (D (L.length : Int)) (mayB_D _ (by omega) (by omega)) ha (by omega)
  simp only [DM.cells, D, DM.zero] at this
  refine this.mono ?_
  rintro e w' ⟨rfl, hr', hf'⟩
  refine ⟨rfl, ⟨hp, hf.trans (hf'.up (by omega)), _, _, hr', by simp, ?_⟩, hf'⟩
  intro m h1
  by_cases hx : m < L.length
  · rw [List.getElem?_append_left hx]; exact hi m hx
  · obtain rfl : m = L.length := by omega
    rw [List.getElem?_append_right (by omega)]
    simp [DM.fresh, hg]
theorem LRing.take (h : LRing w wr p b s a t R G) (ht : t < a) :
    Calls Try.prog 11 #[.pointer (some ⟨p, 0, none⟩)] wr fun e w' =>
      ∃ op sl ge fr le de dn st, e = .returned (.tuple #[.int .i64 t, .agg #[.int .i64 op, .int .i64 t, .int .i64 sl, .int .u64 ge, .int .i64 fr, .int .i64 le, .bool de, .bool dn, .int .i64 st], .int .i64 0]) ∧ LRing w w' p b s a (t + 1) R G ∧ Frm (fun k => k = p ∨ k = b) wr w' := by
  obtain ⟨hp, hf, L, P, hr, rfl, hi⟩ := h
  obtain ⟨d, hd, e1, e2⟩ := hi t ht
  have := take_ok hr _ hd
  obtain ⟨op, req, sl, ge, fr, le, de, dn, st⟩ := d
  simp only [DM.cells] at this e1
  subst e1
  refine this.mono ?_
  rintro e w' ⟨rfl, hr', hf'⟩
  exact ⟨op, sl, ge, fr, le, de, dn, st, rfl, ⟨hp, hf.trans (hf'.up (by omega)), _, _, hr', rfl, hi⟩, hf'⟩
theorem LRing.finish (h : LRing w wr p b s a t R G) (k : Nat) (st : Int) (hs : 0 ≤ st ∧ st ≤ 255) (h1 : R ≤ k) (h2 : k < t) :
    Calls Try.prog 12 #[.pointer (some ⟨p, 0, none⟩), .int .i64 k, .int .i64 st] wr fun e w' =>
      e = .returned (.int .i64 (if G k then 12 else 0)) ∧ LRing w w' p b s a t R (upd G k) ∧ Frm (fun k => k = p ∨ k = b) wr w' := by
  obtain ⟨hp, hf, L, P, hr, rfl, hi⟩ := h
  have hta := hr.ord
  obtain ⟨d, hd, e1, e2, e3⟩ := hi k (by omega)
  have := finish_in hr k st hs h1 h2 _ hd
  rw [e2] at this
  refine this.mono ?_
  rintro e w' ⟨rfl, hr', hf'⟩
  refine ⟨rfl, ⟨hp, hf.trans (hf'.up (by omega)), _, _, hr', by split <;> simp, ?_⟩, hf'⟩
  intro m hm
  by_cases hx : m = k
  · subst hx
    cases hg : G m with
    | true => exact ⟨d, by simpa using hd, e1, by simp [upd, e2, hg], e3⟩
    | false => exact ⟨d.finished st, by simp [hm], e1, by simp [upd, DM.finished], by simp [DM.finished]⟩
  · obtain ⟨d', hd', q1, q2, q3⟩ := hi m hm
    refine ⟨d', ?_, q1, by simp [upd, hx, q2], q3⟩
    split
    · exact hd'
    · rw [List.getElem?_set_ne (fun e => hx e.symm)]; exact hd'
theorem LRing.reap (h : LRing w wr p b s a t R G) (hR : R < a) (hg : G R = true) :
    Calls Try.prog 13 #[.pointer (some ⟨p, 0, none⟩)] wr fun e w' =>
      ∃ op sl ge fr le st, e = .returned (.tuple #[.agg #[.int .i64 op, .int .i64 R, .int .i64 sl, .int .u64 ge, .int .i64 fr, .int .i64 le, .bool false, .bool true, .int .i64 st], .int .i64 0]) ∧ LRing w w' p b s a t (R + 1) G ∧ Frm (fun k => k = p ∨ k = b) wr w' := by
  obtain ⟨hp, hf, L, P, hr, rfl, hi⟩ := h
  obtain ⟨d, hd, e1, e2, e3⟩ := hi R hR
  rw [hg] at e2
  have := reap_ok hr _ hd e2
  obtain ⟨op, req, sl, ge, fr, le, de, dn, st⟩ := d
  simp only [DM.cells] at this e1 e2 e3
  subst e1 e2
  rw [e3 rfl] at this
  refine this.mono ?_
  rintro e w' ⟨rfl, hr', hf'⟩
  exact ⟨op, sl, ge, fr, le, st, rfl, ⟨hp, hf.trans (hf'.up (by omega)), _, _, hr', rfl, hi⟩, hf'⟩
theorem LRing.stop (h : LRing w wr p b s a t R G) (hg : R < a → G R = false) :
    Calls Try.prog 13 #[.pointer (some ⟨p, 0, none⟩)] wr fun e w' =>
      ∃ c : Int, e = .returned (.tuple #[.agg #[.int .i64 0, .int .i64 0, .int .i64 0, .int .u64 0, .int .i64 0, .int .i64 0, .bool false, .bool false, .int .i64 0], .int .i64 c]) ∧ c ≠ 0 ∧ Frm (fun _ => False) wr w' := by
  obtain ⟨hp, hf, L, P, hr, rfl, hi⟩ := h
  refine (reap_not hr fun d hd => ?_).mono ?_
  · have hl := (List.getElem?_eq_some_iff.1 hd).1
    obtain ⟨d', hd', q1, q2, _⟩ := hi R hl
    rw [hd] at hd'; injection hd' with hd'; subst hd'
    rw [q2]; exact hg hl
  · rintro e w' ⟨rfl, hf'⟩
    exact ⟨_, rfl, by split <;> omega, hf'⟩
end
structure Late (w wr : World) (p b q n R : Nat) (F G : Nat → Bool) : Prop where
  ring : LRing w wr p b 64 n n R G
  hq : w.heap.size ≤ q ∧ q ≠ p ∧ q ≠ b
  vec : VecAt wr q 4 (vals (n + 1) fun m => .bool (F m))
  below : ∀ m, m < R → G m = true
section
variable {w wr : World} {p b q n R : Nat} {F G : Nat → Bool}
theorem Late.finish (h : Late w wr p b q n R F F) (k : Nat) (hk : k < n) (hn : n ≤ 64) :
    Calls Try.prog 12 #[.pointer (some ⟨p, 0, none⟩), .int .i64 k, .int .i64 k] wr fun e w' =>
      e = .returned (.int .i64 (if R ≤ k ∧ F k = false then 0 else 12)) ∧ Late w w' p b q n R F (upd F k) := by
  obtain ⟨hr, ⟨q1, q2, q3⟩, hv, hb⟩ := h
  by_cases hR : R ≤ k
  · refine (hr.finish k k (by omega) hR hk).mono ?_
    rintro e w' ⟨rfl, hr', hf'⟩
    refine ⟨by cases F k <;> simp [hR], hr', ⟨q1, q2, q3⟩, hv.frm hf' (by omega), fun m hm => ?_⟩
    simp [upd, hb m hm]
  · obtain ⟨hp, hf, L, P, hrr, rfl, hi⟩ := hr
    refine (finish_state hrr k k (by omega) (by omega)).mono ?_
    rintro e w' ⟨rfl, rfl⟩
    have hu : upd F k = F := by
      funext m
      by_cases hm : m = k
      · subst hm; simp [upd, hb m (by omega)]
      · simp [upd, hm]
    rw [hu]
    exact ⟨by simp [hR], ⟨hp, hf, L, P, hrr, rfl, hi⟩, ⟨q1, q2, q3⟩, hv, hb⟩
theorem Late.mark {k : Nat} (h : Late w wr p b q n R F (upd F k)) : Late w (wr.setCell ⟨q, k, none⟩ (.bool true)) p b q n R (upd F k) (upd F k) := by
  obtain ⟨hr, ⟨q1, q2, q3⟩, hv, hb⟩ := h
  refine ⟨hr.frame ((Frm.refl (fun k => k = q) _).setCell (.inl rfl) _) q2 q3 q1, ⟨q1, q2, q3⟩, ?_, hb⟩
  have := hv.set k (.bool true)
  rw [vals_set] at this
  rw [show (vals (n + 1) fun m => .bool (upd F k m)) = (vals (n + 1) fun m => if m = k then .bool true else .bool (F m)) from vals_congr fun i _ => by unfold upd; split <;> rfl]
  exact this
theorem Late.reap (h : Late w wr p b q n R F F) (hR : R < n) (hg : F R = true) :
    Calls Try.prog 13 #[.pointer (some ⟨p, 0, none⟩)] wr fun e w' =>
      ∃ op sl ge fr le st, e = .returned (.tuple #[.agg #[.int .i64 op, .int .i64 R, .int .i64 sl, .int .u64 ge, .int .i64 fr, .int .i64 le, .bool false, .bool true, .int .i64 st], .int .i64 0]) ∧ Late w w' p b q n (R + 1) F F := by
  obtain ⟨hr, ⟨q1, q2, q3⟩, hv, hb⟩ := h
  refine (hr.reap hR hg).mono ?_
  rintro e w' ⟨op, sl, ge, fr, le, st, rfl, hr', hf'⟩
  refine ⟨op, sl, ge, fr, le, st, rfl, hr', ⟨q1, q2, q3⟩, hv.frm hf' (by omega), fun m hm => ?_⟩
  by_cases e : m = R
  · rw [e]; exact hg
  · exact hb m (by omega)
theorem Late.keep {w' : World} (h : Late w wr p b q n R F G) (hf : Frm (fun _ => False) wr w') : Late w w' p b q n R F G :=
  ⟨h.ring.keep hf, h.hq, h.vec.keep hf, h.below⟩
end
set_option maxRecDepth 100000 in
theorem late_big (w : World) (A : Option Addr) (n c : Nat) (hn : 64 < n) :
    Calls Try.prog 4 #[.slice A n c] w fun e w' => e = .returned (.bool true) ∧ Frm (fun _ => False) w w' := by
  have hd : decide (64 < (n : Int)) = true := by simp; omega
  go_enter Try.func4, Try.ntmps4
  go_wp2_with fail
  refine (awake_c w).mono ?_
  rintro e w1 ⟨rfl, hf1⟩
  go_wp2_with fail
  refine (new_ok w1 64 (by omega) (by omega)).mono ?_
  rintro e w2 ⟨rfl, hr2, hf2⟩
  go_wp2_with fail
  go_ret
  exact ⟨rfl, hf1.trans hf2⟩
set_option maxRecDepth 100000 in
set_option maxHeartbeats 8000000 in
theorem late_ok (w : World) (A : Option Addr) (c : Nat) (l : List UInt8) (hn : l.length ≤ 64) (hl : RowsAt w A 1 enc8 l) :
    Calls Try.prog 4 #[.slice A l.length c] w fun e w' => e = .returned (.bool true) ∧ Frm (fun _ => False) w w' := by
  have hd : decide (64 < (l.length : Int)) = false := by simp; omega
  have HL := Lib.hid hl
  clear hl
  generalize hN : l.length = n at *
  have hmk := run_make_vec (P := Try.prog) 28 4 (.bool false) 1 Try.underlying28 info4 rfl (n + 1) (by omega) (by omega)
  rw [show ((n + 1 : Nat) : Int) = (n : Int) + 1 by omega] at hmk
  go_enter Try.func4, Try.ntmps4
  go_wp2_with fail
  refine (awake_c w).mono ?_
  rintro e w1 ⟨rfl, hf1⟩
  have HF1 := Lib.hid hf1
  clear hf1
  go_wp2_with fail
  refine (new_ok w1 64 (by omega) (by omega)).mono ?_
  rintro e w2 ⟨rfl, hr2, hf2⟩
  have hsz := HF1.out.size
  have H0 : Hid (LRing w w2 (w1.heap.size + 1) w1.heap.size 64 0 0 0 (fun _ => false)) := ⟨⟨by omega, by omega⟩, (HF1.out.trans hf2).of_none, _, _, hr2, rfl, fun m h => by omega⟩
  clear hr2 hf2 HF1
  generalize hpp : w1.heap.size + 1 = p at *
  generalize hbb : w1.heap.size = b at *
  clear hpp hbb
  go_wp2_with fail
  go_loopw [6] (fun i wr => ∃ k : Nat, k ≤ n ∧ i = .int .i64 k ∧ LRing w wr p b 64 k k 0 (fun _ => false)) (fun i _ => n - (intOf i).toNat)
  case atStart => exact ⟨0, by omega, rfl, H0.out⟩
  case round =>
    obtain ⟨k, hk, rfl, hA⟩ := hrel
    have HA := Lib.hid hA
    clear hA H0
    by_cases hlt : k < n
    · have hd2 : decide (k < n) = true := by simpa using hlt
      go_wp2_with fail
      refine (HA.out.put (by omega) (by omega) rfl).mono ?_
      rintro e w3 ⟨rfl, hR3, _⟩
      have H3 := Lib.hid hR3
      clear hR3 HA
      go_wp2_with fail
      refine (H3.out.take (by omega)).mono ?_
      rintro e w4 ⟨op, sl, ge, fr, le, de, dn, st, rfl, hR4, _⟩
      have H4 := Lib.hid hR4
      clear hR4 H3
      go_wp2_with fail
      go_roundw
      case rel => exact ⟨k + 1, by omega, by go_num, H4.out⟩
      case measure => simp [intOf]; omega
    · have hd2 : decide (k < n) = false := by simpa using hlt
      obtain rfl : k = n := by omega
      have hl5 := HA.out.lt
      go_wp2_with fail
      have H5 : Hid (Late w (wr.alloc (.cells (vals (k + 1) fun _ => .bool false).toArray 4)) p b wr.heap.size k 0 (fun _ => false) (fun _ => false)) :=
        ⟨HA.out.alloc _, ⟨HA.out.frm.size, by omega, by omega⟩, VecAt.new _ _ _, fun m hm => by omega⟩
      clear HA hl5 hmk hd2 hlt hk
      generalize wr.heap.size = q at *
      generalize (wr.alloc (.cells (vals (k + 1) fun _ => .bool false).toArray 4)) = wz at *
      have hk0 := H5.out.hq
      go_loopw [8, 9] (fun a i wr => ∃ R m : Nat, ∃ F, m ≤ k ∧ R ≤ k ∧ a = .int .i64 R ∧ i = .int .i64 m ∧ Late w wr p b q k R F F) (fun _ i _ => k - (intOf i).toNat)
      case atStart => exact ⟨0, 0, _, by omega, by omega, rfl, rfl, H5.out⟩
      case round =>
        obtain ⟨R, m, F, hm, hR, rfl, rfl, hA⟩ := hrel
        have HA := Lib.hid hA
        clear hA H5
        by_cases hlm : m < k
        · have hd3 : decide (m < k) = true := by simpa using hlm
          obtain ⟨b0, off, hAe, hb0, hc⟩ := HL.out.at_ (by omega)
          subst hAe
          obtain ⟨o, ho⟩ : ∃ o, l[m]? = some o := ⟨_, List.getElem?_eq_getElem (by omega)⟩
          have x0 := HA.out.ring.frm.cell hb0 (by omega) (hc m o ho 0 _ rfl)
          simp only [Nat.mul_one, Nat.add_zero] at x0
          have ho1 := o.toNat_lt
          have hR1 : ((o.toNat : Int)) % k = ((o.toNat % k : Nat) : Int) := by simp
          have hR2 : o.toNat % k < k := Nat.mod_lt _ (by omega)
          have kz : ((k : Int) == 0) = false := by simp; omega
          clear hc ho
          generalize o.toNat = oo at *
          generalize oo % k = j at *
          go_wp2_with fail
          refine (HA.out.finish j hR2 hn).mono ?_
          rintro e w3 ⟨rfl, hL3⟩
          have H3 := Lib.hid hL3
          have v0 : wr.cell? ⟨q, j, none⟩ = some (.bool (F j)) := HA.out.vec.cell (vals_get (by omega) _)
          have v3 : w3.cell? ⟨q, j, none⟩ = some (.bool (F j)) := hL3.vec.cell (vals_get (by omega) _)
          have f3 := hL3.vec.frozen j
          clear hL3 HA v0
          have H6 : Hid (Late w (w3.setCell ⟨q, j, none⟩ (.bool true)) p b q k R (upd F j) (upd F j)) := H3.out.mark
          have key : (R ≤ j ∧ F j = true) ∨ (R ≤ j ∧ F j = false) ∨ ¬ R ≤ j := by
            cases F j <;> simp <;> omega
          rcases key with ⟨hRj, hF⟩ | ⟨hRj, hF⟩ | hRj
          all_goals first
            | (have hF' : F j = true := hF
               have e1 : decide ((R : Int) ≤ (j : Int)) = true := by simpa using hRj
               simp only [hF', hRj, Bool.true_eq_false, and_false, if_false] at v3 ⊢
               go_wp2_with fail)
            | (have hF' : F j = false := hF
               have e1 : decide ((R : Int) ≤ (j : Int)) = true := by simpa using hRj
               simp only [hF', hRj, and_true, if_true] at v3 ⊢
               go_wp2_with fail)
            | (have e1 : decide ((R : Int) ≤ (j : Int)) = false := by simpa using hRj
               simp only [hRj, false_and, if_false]
               go_wp2_with fail)
          all_goals
            clear hR1 v3 f3 H3
            generalize upd F j = F' at *
            generalize w3.setCell ⟨q, j, none⟩ (.bool true) = wm at *
            go_loopw [8] (fun a wr => ∃ R : Nat, R ≤ k ∧ a = .int .i64 R ∧ Late w wr p b q k R F' F') (fun a _ => k + 1 - (intOf a).toNat)
            case atStart => exact ⟨R, hR, rfl, H6.out⟩
            case round =>
              obtain ⟨R', hR', rfl, hC⟩ := hrel
              have HC := Lib.hid hC
              clear hC H6
              by_cases hrl : R' < k ∧ F' R' = true
              · obtain ⟨hr1, hr2⟩ := hrl
                have y1 : decide (R' < k) = true := by simpa using hr1
                go_wp2_with fail
                refine (HC.out.reap hr1 hr2).mono ?_
                rintro e w4 ⟨op, sl, ge, fr, le, st, rfl, hL4⟩
                have v4 : w4.cell? ⟨q, R', none⟩ = some (.bool (F' R')) := hL4.vec.cell (vals_get (by omega) _)
                rw [hr2] at v4
                have q4 := hL4.vec.lt
                have H4 := Lib.hid (hL4.keep ((Frm.refl _ _).alloc (.cells (DM.cells ⟨op, R', sl, ge, fr, le, false, true, st⟩).toArray 33)))
                clear hL4 HC
                go_wp2_with fail
                go_roundw
                case rel => exact ⟨R' + 1, by omega, by go_num, H4.out⟩
                case measure => simp [intOf]; omega
              · go_wp2_with fail
                have hst : R' < k → F' R' = false := fun h => by
                  cases hh : F' R' with
                  | true => exact absurd ⟨h, hh⟩ hrl
                  | false => rfl
                refine (HC.out.ring.stop hst).mono ?_
                rintro e w4 ⟨cc, rfl, hcc, hf4⟩
                have hcc' : (cc == 0) = false := by simpa using hcc
                have hL4 := HC.out.keep hf4
                have v4 : w4.cell? ⟨q, R', none⟩ = some (.bool (F' R')) := hL4.vec.cell (vals_get (by omega) _)
                have q4 := hL4.vec.lt
                have H4 := Lib.hid (hL4.keep ((Frm.refl _ _).alloc (.cells (DM.cells DM.zero).toArray 33)))
                clear hL4 HC hf4
                by_cases hrk : R' < k
                · have y1 : decide (R' < k) = true := by simpa using hrk
                  rw [hst hrk] at v4
                  go_wp2_with fail
                  go_roundw
                  case rel => exact ⟨R', m + 1, F', by omega, by omega, rfl, by go_num, H4.out⟩
                  case measure => simp [intOf]; omega
                · have y1 : decide (R' < k) = false := by simpa using hrk
                  go_wp2_with fail
                  go_roundw
                  case rel => exact ⟨R', m + 1, F', by omega, by omega, rfl, by go_num, H4.out⟩
                  case measure => simp [intOf]; omega
        · have hd3 : decide (m < k) = false := by simpa using hlm
          go_wp2_with fail
          go_ret
          exact ⟨rfl, HA.out.ring.frm.down⟩
theorem late_c (w : World) (A : Option Addr) (c : Nat) (l : List UInt8) (hl : RowsAt w A 1 enc8 l) :
    Calls Try.prog 4 #[.slice A l.length c] w fun e w' => e = .returned (.bool true) ∧ Frm (fun _ => False) w w' := by
  by_cases hn : 64 < l.length
  · exact late_big w A _ c hn
  · exact late_ok w A c l (by omega) hl
end Go.Proofs.Ytnbbaggmkinfkaa
