/- RingRound: the walk. -/
import Derived.Test.YtnbbaggmkinfkaaAw
namespace Go.Proofs.Ytnbbaggmkinfkaa
open Go.RowKit
def itemR (nx c m : Nat) : DM := if m < c then ⟨0, (m % 60000 : Nat), 0, 0, 0, 0, false, true, (m - nx : Nat)⟩ else ⟨0, (m % 60000 : Nat), 0, 0, 0, 0, true, false, 0⟩
structure Rnd (w wr : World) (p b s nx a c r : Nat) : Prop where
  hp : w.heap.size ≤ p ∧ w.heap.size ≤ b
  frm : Frm (fun k => w.heap.size ≤ k) w wr
  ring : ∃ L P, RingIs wr p b s L c r P ∧ L.length = a ∧ ∀ m, nx ≤ m → m < a → L[m]? = some (itemR nx c m)
theorem mayB_D (q : Int) (h0 : 0 ≤ q) (h1 : q ≤ 65535) : mayB (D q).fresh = true := by
  simp [mayB, inB, D, DM.zero, DM.fresh, h0, h1]
section
variable {w wr : World} {p b s nx a c r : Nat}
theorem Rnd.put (h : Rnd w wr p b s nx a c r) (ha : a < r + s) (hm : a < 1000000) (hc : c ≤ a) (hn : nx ≤ a) (q : Int) (hq : q = (a % 60000 : Nat)) :
    Calls Try.prog 10 #[.pointer (some ⟨p, 0, none⟩), .agg #[.int .i64 0, .int .i64 q, .int .i64 0, .int .u64 0, .int .i64 0, .int .i64 0, .bool false, .bool false, .int .i64 0]] wr fun e w' =>
      e = .returned (.tuple #[.int .i64 a, .int .i64 0]) ∧ Rnd w w' p b s nx (a + 1) c r := by
  obtain ⟨hp, hf, L, P, hr, rfl, hi⟩ := h
  subst hq
  have := put_ok hr (D ((L.length % 60000 : Nat) : Int)) (mayB_D _ (by omega) (by omega)) ha hm
  simp only [DM.cells, D, DM.zero] at this
  refine this.mono ?_
  rintro e w' ⟨rfl, hr', hf'⟩
  refine ⟨rfl, hp, hf.trans (hf'.up (by omega)), _, _, hr', by simp, ?_⟩
  intro m h1 h2
  by_cases hx : m < L.length
  · rw [List.getElem?_append_left hx]; exact hi m h1 hx
  · obtain rfl : m = L.length := by omega
    rw [List.getElem?_append_right (by omega)]
    simp [itemR, show ¬ L.length < c by omega, DM.fresh]
theorem Rnd.take (h : Rnd w wr p b s nx a c r) (hc : c < a) (hn : nx ≤ c) :
    Calls Try.prog 11 #[.pointer (some ⟨p, 0, none⟩)] wr fun e w' =>
      e = .returned (.tuple #[.int .i64 c, .agg #[.int .i64 0, .int .i64 (c % 60000 : Nat), .int .i64 0, .int .u64 0, .int .i64 0, .int .i64 0, .bool true, .bool false, .int .i64 0], .int .i64 0]) ∧
      (∀ j : Int, j = (c - nx : Nat) → j ≤ 255 → ∀ o : Obj, r ≤ c → Calls Try.prog 12 #[.pointer (some ⟨p, 0, none⟩), .int .i64 c, .int .i64 j] (w'.alloc o) fun e w'' => e = .returned (.int .i64 0) ∧ Rnd w w'' p b s nx a (c + 1) r ∧ Frm (fun k => k = p ∨ k = b) (w'.alloc o) w'') ∧
      p < w'.heap.size ∧ b < w'.heap.size := by
  obtain ⟨hp, hf, L, P, hr, rfl, hi⟩ := h
  have hd := hi c hn hc
  have hit : itemR nx c c = ⟨0, (c % 60000 : Nat), 0, 0, 0, 0, true, false, 0⟩ := by simp [itemR]
  rw [hit] at hd
  have := take_ok hr _ hd
  simp only [DM.cells] at this
  refine this.mono ?_
  rintro e w' ⟨rfl, hr', hf'⟩
  refine ⟨rfl, ?_, hr'.lt⟩
  intro j hj hj' o hrc
  have := finish_in (hr'.alloc o) c j (by omega) hrc (by omega) _ hd
  refine this.mono ?_
  rintro e w'' ⟨rfl, hr'', hf''⟩
  refine ⟨rfl, ⟨hp, ((hf.trans (hf'.up (by omega))).alloc o).trans (hf''.up (by omega)), _, _, hr'', by simp, ?_⟩, hf''⟩
  intro m h1 h2
  simp only [Bool.false_eq_true, if_false]
  by_cases hx : m = c
  · subst hx
    rw [List.getElem?_set_self hc]
    simp [itemR, DM.finished, hj]
  · rw [List.getElem?_set_ne (fun e => hx e.symm), hi m h1 h2]
    simp only [itemR]
    by_cases hh : m < c
    · rw [if_pos hh, if_pos (by omega)]
    · rw [if_neg hh, if_neg (by omega)]
theorem Rnd.reap (h : Rnd w wr p b s nx a c r) (hc : r < c) (hn : nx ≤ r) (hca : c ≤ a) :
    Calls Try.prog 13 #[.pointer (some ⟨p, 0, none⟩)] wr fun e w' =>
      e = .returned (.tuple #[.agg #[.int .i64 0, .int .i64 (r % 60000 : Nat), .int .i64 0, .int .u64 0, .int .i64 0, .int .i64 0, .bool false, .bool true, .int .i64 (r - nx : Nat)], .int .i64 0]) ∧
      Rnd w w' p b s nx a c (r + 1) := by
  obtain ⟨hp, hf, L, P, hr, rfl, hi⟩ := h
  have hd := hi r hn (by omega)
  have hit : itemR nx c r = ⟨0, (r % 60000 : Nat), 0, 0, 0, 0, false, true, (r - nx : Nat)⟩ := by simp [itemR, hc]
  rw [hit] at hd
  have := reap_ok hr _ hd rfl
  simp only [DM.cells] at this
  refine this.mono ?_
  rintro e w' ⟨rfl, hr', hf'⟩
  exact ⟨rfl, hp, hf.trans (hf'.up (by omega)), _, _, hr', rfl, hi⟩
theorem Rnd.alloc (h : Rnd w wr p b s nx a c r) (o : Obj) : Rnd w (wr.alloc o) p b s nx a c r := by
  obtain ⟨hp, hf, L, P, hr, e, hi⟩ := h
  exact ⟨hp, hf.alloc o, L, P, hr.alloc o, e, hi⟩
theorem Rnd.next (h : Rnd w wr p b s nx a a a) : Rnd w wr p b s a a a a := by
  obtain ⟨hp, hf, L, P, hr, e, hi⟩ := h
  exact ⟨hp, hf, L, P, hr, e, fun m h1 h2 => by omega⟩
theorem Rnd.counts (h : Rnd w wr p b s nx a c r) :
    Calls Try.prog 14 #[.pointer (some ⟨p, 0, none⟩)] wr fun e w' => e = .returned (.tuple #[.int .i64 a, .int .i64 c, .int .i64 r]) ∧ Frm (fun _ => False) wr w' := by
  obtain ⟨hp, hf, L, P, hr, rfl, hi⟩ := h
  exact counts_c hr
end
set_option maxRecDepth 100000 in
set_option maxHeartbeats 8000000 in
theorem round_c (w : World) (x y : Int) (hx : 0 ≤ x ∧ x ≤ 255) (hy : 0 ≤ y ∧ y ≤ 255) :
    Calls Try.prog 5 #[.int .u8 x, .int .u8 y] w fun e w' => e = .returned (.bool true) ∧ Frm (fun _ => False) w w' := by
  obtain ⟨hx0, hx1⟩ := hx
  obtain ⟨hy0, hy1⟩ := hy
  go_enter Try.func5, Try.ntmps5
  go_wp2_with fail
  refine (awake_c w).mono ?_
  rintro e w1 ⟨rfl, hf1⟩
  have HF1 := Lib.hid hf1
  clear hf1
  go_wp2_with fail
  have hn1 : 1 ≤ 1 + x % 64 := by omega
  have hn2 : 1 + x % 64 ≤ 64 := by omega
  generalize 1 + x % 64 = N at *
  obtain ⟨s, rfl⟩ := Int.eq_ofNat_of_zero_le (show 0 ≤ N by omega)
  refine (new_ok w1 s (by omega) (by omega)).mono ?_
  rintro e w2 ⟨rfl, hr2, hf2⟩
  have hsz := HF1.out.size
  have H0 : Hid (∃ nx i : Nat, i = 0 ∧ nx = 0 ∧ Rnd w w2 (w1.heap.size + 1) w1.heap.size s nx nx nx nx) := ⟨0, 0, rfl, rfl, ⟨by omega, by omega⟩, (HF1.out.trans hf2).of_none, _, _, hr2, rfl, fun m _ h => by omega⟩
  clear hr2 hf2 HF1
  generalize hpp : w1.heap.size + 1 = p at *
  generalize hbb : w1.heap.size = b at *
  clear hpp hbb
  have ht0 : 0 ≤ y % 200 := by omega
  have ht1 : y % 200 < 200 := by omega
  go_wp2_with fail
  go_loopw [8, 9] (fun a i wr => ∃ nx k : Nat, nx ≤ k * 64 ∧ (k : Int) ≤ y % 200 ∧ a = .int .i64 nx ∧ i = .int .i64 k ∧ Rnd w wr p b s nx nx nx nx) (fun _ i _ => (y % 200 - intOf i).toNat)
  case atStart =>
    obtain ⟨nx, i, rfl, rfl, hR⟩ := H0.out
    exact ⟨0, 0, by omega, by omega, rfl, rfl, hR⟩
  case round =>
    obtain ⟨nx, i, hni, hiT, rfl, rfl, hR⟩ := hrel
    obtain ⟨wo, rfl⟩ : ∃ wo : World, wo = wr := ⟨_, rfl⟩
    have HR := Lib.hid hR
    clear hR H0
    by_cases hlt : (i : Int) < y % 200
    · have hd : decide ((i : Int) < y % 200) = true := by simpa using hlt
      have kz : ((s : Int) == 0) = false := by simp; omega
      have hR1 : (i : Int) % s = ((i % s : Nat) : Int) := by simp
      have hR2 : i % s < s := Nat.mod_lt _ (by omega)
      generalize i % s = R at *
      generalize hk : 1 + R = k
      go_wp2_with fail
      go_loopw [11] (fun j wr => ∃ m : Nat, m ≤ k ∧ j = .int .i64 m ∧ Rnd w wr p b s nx (nx + m) nx nx) (fun j _ => k - (intOf j).toNat)
      case atStart => exact ⟨0, by omega, rfl, HR.out⟩
      case round =>
        obtain ⟨m, hm, rfl, hA⟩ := hrel
        have HA := Lib.hid hA
        clear hA HR hR1
        by_cases hlm : m < k
        · have hd2 : decide ((m : Int) < 1 + (R : Int)) = true := by simp; omega
          go_wp2_with fail
          refine (HA.out.put (by omega) (by omega) (by omega) (by omega) _ (by omega)).mono ?_
          rintro e w3 ⟨rfl, hR3⟩
          have H3 := Lib.hid hR3
          clear hR3 HA
          go_wp2_with fail
          go_roundw
          case rel => exact ⟨m + 1, by omega, by go_num, H3.out⟩
          case measure => simp [intOf]; omega
        · have hd2 : decide ((m : Int) < 1 + (R : Int)) = false := by simp; omega
          obtain rfl : m = k := by omega
          go_wp2_with fail
          go_loopw [14] (fun j wr => ∃ q : Nat, q ≤ m ∧ j = .int .i64 q ∧ Rnd w wr p b s nx (nx + m) (nx + q) nx) (fun j _ => m - (intOf j).toNat)
          case atStart => exact ⟨0, by omega, rfl, HA.out⟩
          case round =>
            obtain ⟨q, hq, rfl, hB⟩ := hrel
            have HB := Lib.hid hB
            clear hB HA
            by_cases hlq : q < m
            · have hd3 : decide ((q : Int) < 1 + (R : Int)) = true := by simp; omega
              go_wp2_with fail
              refine (HB.out.take (by omega) (by omega)).mono ?_
              rintro e w3 ⟨rfl, hfin, hp3, hb3⟩
              have hfin2 := hfin q (by omega) (by omega) (.cells (DM.cells ⟨0, ((nx + q) % 60000 : Nat), 0, 0, 0, 0, true, false, 0⟩).toArray 33) (by omega)
              have HF := Lib.hid hfin2
              clear hfin hfin2 HB
              go_wp2_with (go_at_call 12; refine HF.out.mono ?_; rintro e w4 ⟨rfl, hR4, hf4⟩)
              all_goals
                go_wp2_with fail
                go_roundw
                case rel => exact ⟨q + 1, by omega, by go_num, hR4⟩
                case measure => simp [intOf]; omega
            · have hd3 : decide ((q : Int) < 1 + (R : Int)) = false := by simp; omega
              obtain rfl : q = m := by omega
              go_wp2_with fail
              go_loopw [18] (fun j wr => ∃ u : Nat, u ≤ q ∧ j = .int .i64 u ∧ Rnd w wr p b s nx (nx + q) (nx + q) (nx + u)) (fun j _ => q - (intOf j).toNat)
              case atStart => exact ⟨0, by omega, rfl, HB.out⟩
              case round =>
                obtain ⟨u, hu, rfl, hC⟩ := hrel
                have HC := Lib.hid hC
                clear hC HB
                by_cases hlu : u < q
                · have hd4 : decide ((u : Int) < 1 + (R : Int)) = true := by simp; omega
                  go_wp2_with fail
                  refine (HC.out.reap (by omega) (by omega) (by omega)).mono ?_
                  rintro e w3 ⟨rfl, hR3⟩
                  have H3 := Lib.hid hR3
                  clear hR3 HC
                  go_wp2_with fail
                  go_roundw
                  case rel => exact ⟨u + 1, by omega, by go_num, H3.out.alloc _⟩
                  case measure => simp [intOf]; omega
                · have hd4 : decide ((u : Int) < 1 + (R : Int)) = false := by simp; omega
                  obtain rfl : u = q := by omega
                  go_wp2_with fail
                  go_roundw
                  case rel => exact ⟨nx + u, i + 1, by omega, by omega, by go_num, by go_num, HC.out.next⟩
                  case measure => simp [intOf]; omega
    · have hd : decide ((i : Int) < y % 200) = false := by simpa using hlt
      go_wp2_with fail
      refine HR.out.counts.mono ?_
      rintro e w3 ⟨rfl, hf3⟩
      go_wp2_with fail
      go_ret
      exact ⟨rfl, Frm.down (HR.out.frm.trans hf3.of_none)⟩
end Go.Proofs.Ytnbbaggmkinfkaa
