/- TablePlays: the walk. -/
import Derived.Test.YtogjnclliaagbaaR3
import Derived.Test.YtogjnclliaagbaaDos
import Derived.Deep.RegionHeld3
namespace Go.Proofs.Ytogjnclliaagbaa
open Go.RowKit
theorem PutR.det {L : List Slot} {v s g c s' g' c' : Int} {L' L'' : List Slot} (h : PutR L v s g c L') (h' : PutR L v s' g' c' L'') : s = s' ∧ g = g' ∧ c = c' ∧ L' = L'' := by
  rcases h with ⟨n, rfl, rfl, hn, ha, rfl⟩ | ⟨rfl, rfl, rfl, rfl, ha⟩ <;> rcases h' with ⟨m, rfl, rfl, hm, hb, rfl⟩ | ⟨rfl, rfl, rfl, rfl, hb⟩
  · have e : n = m := by
      rcases Nat.lt_trichotomy n m with h | h | h
      · obtain ⟨_, _, hx⟩ := hb n h; rw [hn] at hx; cases hx
      · exact h
      · obtain ⟨_, _, hx⟩ := ha m h; rw [hm] at hx; cases hx
    subst e
    rw [hn] at hm; injection hm with hm; injection hm with hm; subst hm
    exact ⟨rfl, rfl, rfl, rfl⟩
  · obtain ⟨_, _, hx⟩ := hb n (List.getElem?_eq_some_iff.1 hn).1; rw [hn] at hx; cases hx
  · obtain ⟨_, _, hx⟩ := ha m (List.getElem?_eq_some_iff.1 hm).1; rw [hm] at hx; cases hx
  · exact ⟨rfl, rfl, rfl, rfl⟩
theorem DropR.det {L : List Slot} {s g v c v' c' : Int} {L' L'' : List Slot} (h : DropR L s g v c L') (h' : DropR L s g v' c' L'') : v = v' ∧ c = c' ∧ L' = L'' := by
  rcases h with ⟨n, rfl, rfl, hn, rfl⟩ | ⟨rfl, rfl, rfl, ha⟩ <;> rcases h' with ⟨m, hm0, rfl, hm, rfl⟩ | ⟨rfl, rfl, rfl, hb⟩
  · obtain rfl : n = m := by omega
    rw [hn] at hm; injection hm with hm; injection hm with _ hm; subst hm
    exact ⟨rfl, rfl, rfl⟩
  · rw [at?_nat hn, if_pos rfl] at hb; cases hb
  · subst hm0; rw [at?_nat hm, if_pos rfl] at ha; cases ha
  · exact ⟨rfl, rfl, rfl⟩
theorem SetR.det {L : List Slot} {s g v c c' : Int} {L' L'' : List Slot} (h : SetR L s g v c L') (h' : SetR L s g v c' L'') : c = c' ∧ L' = L'' := by
  rcases h with ⟨n, x, rfl, rfl, hn, rfl⟩ | ⟨rfl, rfl, ha⟩ <;> rcases h' with ⟨m, y, hm0, rfl, hm, rfl⟩ | ⟨rfl, rfl, hb⟩
  · obtain rfl : n = m := by omega
    exact ⟨rfl, rfl⟩
  · rw [at?_nat hn, if_pos rfl] at hb; cases hb
  · subst hm0; rw [at?_nat hm, if_pos rfl] at ha; cases ha
  · exact ⟨rfl, rfl⟩
theorem get_c {w : World} {p b cap : Nat} {L : List Slot} (h : TabAt w p b cap L) (s g : Int) :
    Calls Try.prog 14 #[.pointer (some ⟨p, 0, none⟩), .agg #[.int .i64 s, .int .u64 g]] w fun e w' => ∃ x c, e = .returned (.tuple #[.int .i64 x, .int .i64 c]) ∧ GetR L s g x c ∧ Frm (fun _ => False) w w' := by
  cases hx : at? L s g with
  | none => exact (get_none h s g hx).mono fun e w' ⟨he, hf⟩ => ⟨0, 3, he, .inr ⟨hx, rfl, rfl⟩, hf⟩
  | some v => exact (get_some h s g v hx).mono fun e w' ⟨he, hf⟩ => ⟨v, 0, he, .inl ⟨hx, rfl⟩, hf⟩
theorem GetR.det {L : List Slot} {s g v c v' c' : Int} (h : GetR L s g v c) (h' : GetR L s g v' c') : v = v' ∧ c = c' := by
  rcases h with ⟨h1, h2⟩ | ⟨h1, h2, h3⟩ <;> rcases h' with ⟨k1, k2⟩ | ⟨k1, k2, k3⟩
  · rw [h1] at k1; injection k1 with k1; exact ⟨k1, by omega⟩
  · rw [h1] at k1; cases k1
  · rw [h1] at k1; cases k1
  · exact ⟨by omega, by omega⟩
structure PlayAt (w wr : World) (p b cap r g u v : Nat) (L : List Slot) (V : List Int) : Prop where
  full : FullAt w wr p b cap L
  ref : RefAt wr r g u v L V
  hr : (w.heap.size ≤ r ∧ w.heap.size ≤ g ∧ w.heap.size ≤ u ∧ w.heap.size ≤ v) ∧ (p ≠ r ∧ p ≠ g ∧ p ≠ u ∧ p ≠ v) ∧ (b ≠ r ∧ b ≠ g ∧ b ≠ u ∧ b ≠ v)
theorem PlayAt.keep {w wr w' : World} {p b cap r g u v : Nat} {L : List Slot} {V : List Int} (h : PlayAt w wr p b cap r g u v L V) (hf : Frm (fun _ => False) wr w') : PlayAt w w' p b cap r g u v L V :=
  ⟨h.full.keep hf, h.ref.keep hf, h.hr⟩
theorem PlayAt.alloc {w wr : World} {p b cap r g u v : Nat} {L : List Slot} {V : List Int} (h : PlayAt w wr p b cap r g u v L V) (o : Obj) : PlayAt w (wr.alloc o) p b cap r g u v L V := h.keep ((Frm.refl _ _).alloc o)
/-- Both have taken their step. -/
theorem PlayAt.next {w wr w1 wx w2 : World} {p b cap r g u v : Nat} {L L' : List Slot} {V V' : List Int} (h : PlayAt w wr p b cap r g u v L V) (ht : TabAt w1 p b cap L') (hf : Frm (fun k => k = p ∨ k = b) wr w1)
    (hx : Frm (fun _ => False) w1 wx) (hr : RefAt w2 r g u v L' V') (hf2 : Frm (fun k => k = g ∨ k = u ∨ k = v) wx w2) : PlayAt w w2 p b cap r g u v L' V' := by
  obtain ⟨⟨h1, h2, h3, h4⟩, ⟨p1, p2, p3, p4⟩, b1, b2, b3, b4⟩ := h.hr
  have a := (h.full.next ht hf).keep hx
  refine ⟨⟨a.tab.frm hf2 (by omega) (by omega), a.frm.trans (hf2.up (by omega)), a.hp, a.hb⟩, hr, h.hr⟩
/-- The box of a step. -/
structure DBox (w : World) (q : Nat) (d : DoM) : Prop where
  c0 : w.cell? ⟨q, 0, none⟩ = some (.int .i64 d.kind)
  c1 : w.cell? ⟨q, 1, none⟩ = some (.int .i64 d.v)
  c2 : w.cell? ⟨q, 2, none⟩ = some (.int .i64 d.slot)
  c3 : w.cell? ⟨q, 3, none⟩ = some (.int .u64 d.gen)
theorem DBox.via {S : Nat → Prop} {w w' : World} {q : Nat} {d : DoM} (h : DBox w q d) (hf : Frm S w w') (hs : ¬ S q) : DBox w' q d :=
  ⟨hf.cell (lt_of_cell h.c0) hs h.c0, hf.cell (lt_of_cell h.c0) hs h.c1, hf.cell (lt_of_cell h.c0) hs h.c2, hf.cell (lt_of_cell h.c0) hs h.c3⟩
theorem DBox.new (w : World) (d : DoM) : DBox (w.alloc (.cells #[.int .i64 d.kind, .int .i64 d.v, .int .i64 d.slot, .int .u64 d.gen] 35)) w.heap.size d := ⟨by simp, by simp, by simp, by simp⟩
set_option maxRecDepth 100000 in
theorem plays_bad (w : World) (a : Int) (A : Option Addr) (n c : Nat) (ha : a < 1 ∨ 1000 < a) :
    Calls Try.prog 8 #[.int .i64 a, .slice A n c] w fun e w' => e = .returned (.bool true) ∧ Frm (fun _ => False) w w' := by
  rcases ha with ha | ha
  · have hd : decide (a < 1) = true := by simpa using ha
    go_enter Try.func8, Try.ntmps8
    go_wp2_with fail
    refine (awake_c w).mono ?_
    rintro e w1 ⟨rfl, hf⟩
    go_wp2_with fail
    refine (new_bad w1 a (.inl ha)).mono ?_
    rintro e w2 ⟨rfl, rfl⟩
    go_wp2
    go_ret
    exact ⟨rfl, hf⟩
  · have hd : decide (a < 1) = false := by simp; omega
    have hd2 : decide (1000 < a) = true := by simpa using ha
    go_enter Try.func8, Try.ntmps8
    go_wp2_with fail
    refine (awake_c w).mono ?_
    rintro e w1 ⟨rfl, hf⟩
    go_wp2_with fail
    refine (new_bad w1 a (.inr ha)).mono ?_
    rintro e w2 ⟨rfl, rfl⟩
    go_wp2
    go_ret
    exact ⟨rfl, hf⟩
set_option maxRecDepth 100000 in
set_option maxHeartbeats 8000000 in
theorem plays_ok (w : World) (n : Nat) (h1 : 1 ≤ n) (h2 : n ≤ 1000) (A : Option Addr) (c : Nat) (l : List DoM) (hl : RowsAt w A 4 DoM.enc l) :
    Calls Try.prog 8 #[.int .i64 n, .slice A l.length c] w fun e w' => e = .returned (.bool true) ∧ Frm (fun _ => False) w w' := by
  have hd : decide ((n : Int) < 1) = false := by simp; omega
  have hd2 : decide (1000 < (n : Int)) = false := by simp; omega
  have HL := Lib.hid hl
  have hlen := hl.len
  clear hl
  go_enter Try.func8, Try.ntmps8
  go_wp2_with fail
  refine (awake_c w).mono ?_
  rintro e w1 ⟨rfl, hf1⟩
  go_wp2_with fail
  refine (new_ok w1 n h1 h2).mono ?_
  rintro e w2 ⟨b, cap, rfl, ht2, hb, hf2⟩
  have s1 := hf1.size
  have H2 : Hid (FullAt w w2 w1.heap.size b cap (fresh n)) := ⟨ht2, (hf1.trans hf2).of_none, s1, by omega⟩
  have p2 := ht2.ltp
  have q2 := ht2.ltb
  clear ht2 hf2 hf1
  generalize w1.heap.size = p at *
  go_wp2_with fail
  refine (rnew_c w2 n h2).mono ?_
  rintro e w3 ⟨r, g, u, v, V, rfl, hr3, hbs, hf3⟩
  have H3 : Hid (PlayAt w w3 p b cap r g u v (fresh n) V) := ⟨H2.out.keep hf3, hr3, by have := H2.out.frm.size; omega, by omega, by omega⟩
  clear hr3 hbs hf3 H2
  go_wp2_with fail
  go_loopw [8] (fun i wr => ∃ k : Nat, k ≤ l.length ∧ k ≤ 120 ∧ i = .int .i64 k ∧ ∃ L V, PlayAt w wr p b cap r g u v L V) (fun i _ => 120 - (intOf i).toNat)
  case atStart => exact ⟨0, by omega, by omega, rfl, _, _, H3.out⟩
  case round =>
    obtain ⟨k, hk, hk60, rfl, L, V, hta⟩ := hrel
    have HTA := Lib.hid hta
    clear hta H3
    by_cases hlt : k < l.length ∧ k < 120
    · obtain ⟨hl1, hl2⟩ := hlt
      have e1 : decide (k < l.length) = true := by simpa using hl1
      have e2 : decide ((k : Int) < 120) = true := by simp; omega
      obtain ⟨b0, off, hAe, hb0, hc⟩ := HL.out.at_ (by omega)
      subst hAe
      obtain ⟨d, hd⟩ : ∃ d, l[k]? = some d := ⟨_, List.getElem?_eq_getElem hl1⟩
      have hcc := fun j v hj => HTA.out.full.frm.cell hb0 (by omega) (hc k d hd j v hj)
      have x0 := hcc 0 _ rfl
      have x1 := hcc 1 _ rfl
      have x2 := hcc 2 _ rfl
      have x3 := hcc 3 _ rfl
      clear hcc hc hd
      simp only [Nat.add_zero] at x0
      go_wp2_with fail
      · refine (put_c (HTA.out.full.tab.alloc _) d.v).mono ?_
        rintro e w5 ⟨s, a, cc, L6, rfl, ht5, hf5, hp5⟩
        obtain ⟨⟨m1, m2, m3, m4⟩, ⟨q1, q2, q3, q4⟩, q5, q6, q7, q8⟩ := HTA.out.hr
        have tp := HTA.out.full.tab.ltp
        have tb := HTA.out.full.tab.ltb
        have hbx := (DBox.new wr d).via hf5 (by omega)
        obtain ⟨y0, y1, y2, y3⟩ := hbx
        have HR5 := Lib.hid ((HTA.out.ref.alloc (.cells #[.int .i64 d.kind, .int .i64 d.v, .int .i64 d.slot, .int .u64 d.gen] 35)).frm hf5 (by omega) (by omega) (by omega) (by omega))
        have HT5 := Lib.hid ht5
        have HF5 := Lib.hid hf5
        have HP5 := Lib.hid hp5
        obtain ⟨k1, k2, k3, k4⟩ := HR5.out.lt
        have l5 := lt_of_cell y0
        clear ht5 hf5 hp5 x0 x1 x2 x3
        go_wp2_with fail
        refine (rput_c (HR5.out.alloc (.cells #[.int .i64 s, .int .u64 a] 31)) d.v).mono ?_
        rintro e w6 ⟨s', a', cc', L6', V6, rfl, hr6, hp6, hf6⟩
        obtain ⟨rfl, rfl, rfl, rfl⟩ := HP5.out.det hp6
        have P6 := Lib.hid ((HTA.out.alloc _).next HT5.out HF5.out ((Frm.refl _ _).alloc _) hr6 hf6)
        have b0' : w6.cell? ⟨w5.heap.size, 0, none⟩ = some (.int .i64 s) := hf6.cell (by simp) (by omega) (by simp)
        have b1' : w6.cell? ⟨w5.heap.size, 1, none⟩ = some (.int .u64 a) := hf6.cell (by simp) (by omega) (by simp)
        have l6 := lt_of_cell b0'
        clear hr6 hf6 hp6 HT5 HF5 HR5 HP5 y0 y1 y2 y3 HTA q1 q2 q3 q4 q5 q6 q7 q8 m1 m2 m3 m4
        go_wp2_with fail
        refine (rall_c (P6.out.ref.alloc _)).mono ?_
        rintro e w7 ⟨A7, c7, rfl, hr7, hf7⟩
        have P7 := Lib.hid ((P6.out.alloc _).keep hf7)
        have R7 := Lib.hid hr7
        clear P6 hr7 hf7 b0' b1'
        generalize hH : hands L6 L6.length = H at *
        have HH := Lib.hid hH
        clear hH
        go_wp2_with fail
        refine (all_rows P7.out.full.tab).mono ?_
        rintro e w8 ⟨A8, c8, rfl, hr8, _, hf8⟩
        rw [HH.out] at hr8
        rw [HH.out]
        have P8 := Lib.hid (P7.out.keep hf8)
        have R78 := Lib.hid (R7.out.via hf8 (fun _ _ _ => id))
        have R8 := Lib.hid hr8
        clear hr8 hf8 P7 R7
        go_wp2_with fail
        refine (rsame_c _ A8 A7 c8 c7 H R8.out R78.out).mono ?_
        rintro e w9 ⟨rfl, hf9⟩
        have P9 := Lib.hid (P8.out.keep hf9)
        clear hf9 P8 R8 R78
        go_wp2_with fail
        have hcnt := count_c P9.out.full.tab
        rw [← hands_length, HH.out] at hcnt
        refine hcnt.mono ?_
        rintro e w10 ⟨rfl, rfl⟩
        clear hcnt
        go_wp2_with fail
        go_roundw
        case rel => exact ⟨k + 1, by omega, by omega, by go_num, _, _, P9.out⟩
        case measure => simp [intOf]; omega
      · refine (get_c (HTA.out.full.tab.alloc _) d.slot d.gen).mono ?_
        rintro e w5 ⟨z, cc, rfl, hg5, hf5⟩
        have hbx := (DBox.new wr d).via hf5 id
        obtain ⟨y0, y1, y2, y3⟩ := hbx
        have P5 := Lib.hid ((HTA.out.alloc _).keep hf5)
        have HG5 := Lib.hid hg5
        clear hf5 hg5 x0 x1 x2 x3
        go_wp2_with fail
        refine (rget_c P5.out.ref d.slot d.gen).mono ?_
        rintro e w6 ⟨z', cc', rfl, hg6, hf6⟩
        obtain ⟨rfl, rfl⟩ := HG5.out.det hg6
        obtain ⟨L6, hL6⟩ : ∃ L6, L6 = L := ⟨_, rfl⟩
        subst hL6
        have P6 := Lib.hid (P5.out.keep hf6)
        clear hf6 hg6 HG5 P5 y0 y1 y2 y3 HTA
        go_wp2_with fail
        refine (rall_c (P6.out.ref)).mono ?_
        rintro e w7 ⟨A7, c7, rfl, hr7, hf7⟩
        have P7 := Lib.hid (P6.out.keep hf7)
        have R7 := Lib.hid hr7
        clear P6 hr7 hf7
        generalize hH : hands L6 L6.length = H at *
        have HH := Lib.hid hH
        clear hH
        go_wp2_with fail
        refine (all_rows P7.out.full.tab).mono ?_
        rintro e w8 ⟨A8, c8, rfl, hr8, _, hf8⟩
        rw [HH.out] at hr8
        rw [HH.out]
        have P8 := Lib.hid (P7.out.keep hf8)
        have R78 := Lib.hid (R7.out.via hf8 (fun _ _ _ => id))
        have R8 := Lib.hid hr8
        clear hr8 hf8 P7 R7
        go_wp2_with fail
        refine (rsame_c _ A8 A7 c8 c7 H R8.out R78.out).mono ?_
        rintro e w9 ⟨rfl, hf9⟩
        have P9 := Lib.hid (P8.out.keep hf9)
        clear hf9 P8 R8 R78
        go_wp2_with fail
        have hcnt := count_c P9.out.full.tab
        rw [← hands_length, HH.out] at hcnt
        refine hcnt.mono ?_
        rintro e w10 ⟨rfl, rfl⟩
        clear hcnt
        go_wp2_with fail
        go_roundw
        case rel => exact ⟨k + 1, by omega, by omega, by go_num, _, _, P9.out⟩
        case measure => simp [intOf]; omega
      · obtain ⟨⟨m1, m2, m3, m4⟩, ⟨q1, q2, q3, q4⟩, q5, q6, q7, q8⟩ := HTA.out.hr
        have tp := HTA.out.full.tab.ltp
        have tb := HTA.out.full.tab.ltb
        have D0 : Hid (DBox (wr.alloc (.cells #[.int .i64 d.kind, .int .i64 d.v, .int .i64 d.slot, .int .u64 d.gen] 35)).drew wr.heap.size d) := Lib.hid (DBox.via (S := fun _ => False) (DBox.new wr d) (Frm.refl _ _).drew id)
        obtain ⟨k1, k2, k3, k4⟩ := HTA.out.ref.lt
        have P0 : Hid (PlayAt w (wr.alloc (.cells #[.int .i64 d.kind, .int .i64 d.v, .int .i64 d.slot, .int .u64 d.gen] 35)).drew p b cap r g u v L V) := HTA.out.keep (((Frm.refl _ _).alloc _).drew)
        clear HTA
        have HTA := P0
        go_region_held3 (fun w' => w'.cell? ⟨wr.heap.size, 0, none⟩ = some (.int .i64 d.kind) ∧ w'.cell? ⟨wr.heap.size, 1, none⟩ = some (.int .i64 d.v) ∧ w'.cell? ⟨wr.heap.size, 2, none⟩ = some (.int .i64 d.slot) ∧ w'.cell? ⟨wr.heap.size, 3, none⟩ = some (.int .u64 d.gen))
          (first | exact ⟨D0.out.c0, D0.out.c1, D0.out.c2, D0.out.c3⟩ | exact ⟨D5.out.c0, D5.out.c1, D5.out.c2, D5.out.c3⟩ | exact ⟨D6.out.c0, D6.out.c1, D6.out.c2, D6.out.c3⟩)
          (first
            | (go_at_call 15; refine (set_c P0.out.full.tab d.slot d.gen d.v).mono ?_; rintro e w5 ⟨cc, L6, rfl, ht5, hf5, hp5⟩; have D5 := Lib.hid (D0.out.via hf5 (by omega)); have HR5 := Lib.hid (P0.out.ref.frm hf5 (by omega) (by omega) (by omega) (by omega)); have HT5 := Lib.hid ht5; have HF5 := Lib.hid hf5; have HP5 := Lib.hid hp5; clear ht5 hf5 hp5)
            | (go_at_call 21; refine (rset_c HR5.out d.slot d.gen d.v).mono ?_; rintro e w6 ⟨cc', L6', V6, rfl, hr6, hp6, hf6⟩; obtain ⟨rfl, rfl⟩ := HP5.out.det hp6; have D6 := Lib.hid (D5.out.via hf6 (by omega)); have P6 := Lib.hid (P0.out.next HT5.out HF5.out (Frm.refl _ _) hr6 hf6); clear hr6 hf6 hp6))
        clear x0 x1 x2 x3 q1 q2 q3 q4 q5 q6 q7 q8 m1 m2 m3 m4 HT5 HF5 HR5 HP5 D0 D5 D6 HTA P0
        go_wp2_with fail
        refine (rall_c (P6.out.ref)).mono ?_
        rintro e w7 ⟨A7, c7, rfl, hr7, hf7⟩
        have P7 := Lib.hid (P6.out.keep hf7)
        have R7 := Lib.hid hr7
        clear P6 hr7 hf7
        generalize hH : hands L6 L6.length = H at *
        have HH := Lib.hid hH
        clear hH
        go_wp2_with fail
        refine (all_rows P7.out.full.tab).mono ?_
        rintro e w8 ⟨A8, c8, rfl, hr8, _, hf8⟩
        rw [HH.out] at hr8
        rw [HH.out]
        have P8 := Lib.hid (P7.out.keep hf8)
        have R78 := Lib.hid (R7.out.via hf8 (fun _ _ _ => id))
        have R8 := Lib.hid hr8
        clear hr8 hf8 P7 R7
        go_wp2_with fail
        refine (rsame_c _ A8 A7 c8 c7 H R8.out R78.out).mono ?_
        rintro e w9 ⟨rfl, hf9⟩
        have P9 := Lib.hid (P8.out.keep hf9)
        clear hf9 P8 R8 R78
        go_wp2_with fail
        have hcnt := count_c P9.out.full.tab
        rw [← hands_length, HH.out] at hcnt
        refine hcnt.mono ?_
        rintro e w10 ⟨rfl, rfl⟩
        clear hcnt
        go_wp2_with fail
        go_roundw
        case rel => exact ⟨k + 1, by omega, by omega, by go_num, _, _, P9.out⟩
        case measure => simp [intOf]; omega
      · refine (drop_c (HTA.out.full.tab.alloc _) d.slot d.gen).mono ?_
        rintro e w5 ⟨z, cc, L6, rfl, ht5, hf5, hp5⟩
        obtain ⟨⟨m1, m2, m3, m4⟩, ⟨q1, q2, q3, q4⟩, q5, q6, q7, q8⟩ := HTA.out.hr
        have tp := HTA.out.full.tab.ltp
        have tb := HTA.out.full.tab.ltb
        have hbx := (DBox.new wr d).via hf5 (by omega)
        obtain ⟨y0, y1, y2, y3⟩ := hbx
        have HR5 := Lib.hid ((HTA.out.ref.alloc (.cells #[.int .i64 d.kind, .int .i64 d.v, .int .i64 d.slot, .int .u64 d.gen] 35)).frm hf5 (by omega) (by omega) (by omega) (by omega))
        have HT5 := Lib.hid ht5
        have HF5 := Lib.hid hf5
        have HP5 := Lib.hid hp5
        obtain ⟨k1, k2, k3, k4⟩ := HR5.out.lt
        have l5 := lt_of_cell y0
        clear ht5 hf5 hp5 x0 x1 x2 x3
        go_wp2_with fail
        refine (rdrop_c HR5.out d.slot d.gen).mono ?_
        rintro e w6 ⟨z', cc', L6', V6, rfl, hr6, hp6, hf6⟩
        obtain ⟨rfl, rfl, rfl⟩ := HP5.out.det hp6
        have P6 := Lib.hid ((HTA.out.alloc _).next HT5.out HF5.out (Frm.refl _ _) hr6 hf6)
        clear hr6 hf6 hp6 HT5 HF5 HR5 HP5 y0 y1 y2 y3 HTA q1 q2 q3 q4 q5 q6 q7 q8 m1 m2 m3 m4
        go_wp2_with fail
        refine (rall_c (P6.out.ref)).mono ?_
        rintro e w7 ⟨A7, c7, rfl, hr7, hf7⟩
        have P7 := Lib.hid (P6.out.keep hf7)
        have R7 := Lib.hid hr7
        clear P6 hr7 hf7
        generalize hH : hands L6 L6.length = H at *
        have HH := Lib.hid hH
        clear hH
        go_wp2_with fail
        refine (all_rows P7.out.full.tab).mono ?_
        rintro e w8 ⟨A8, c8, rfl, hr8, _, hf8⟩
        rw [HH.out] at hr8
        rw [HH.out]
        have P8 := Lib.hid (P7.out.keep hf8)
        have R78 := Lib.hid (R7.out.via hf8 (fun _ _ _ => id))
        have R8 := Lib.hid hr8
        clear hr8 hf8 P7 R7
        go_wp2_with fail
        refine (rsame_c _ A8 A7 c8 c7 H R8.out R78.out).mono ?_
        rintro e w9 ⟨rfl, hf9⟩
        have P9 := Lib.hid (P8.out.keep hf9)
        clear hf9 P8 R8 R78
        go_wp2_with fail
        have hcnt := count_c P9.out.full.tab
        rw [← hands_length, HH.out] at hcnt
        refine hcnt.mono ?_
        rintro e w10 ⟨rfl, rfl⟩
        clear hcnt
        go_wp2_with fail
        go_roundw
        case rel => exact ⟨k + 1, by omega, by omega, by go_num, _, _, P9.out⟩
        case measure => simp [intOf]; omega
    · have hex : (decide (k < l.length) = true ∧ decide ((k : Int) < 120) = false) ∨ decide (k < l.length) = false := by
        by_cases h : k < l.length
        · left; simp; omega
        · right; simpa using h
      clear hlt
      rcases hex with ⟨e1, e2⟩ | e1
      all_goals
        go_wp2_with fail
        go_ret
        exact ⟨rfl, Frm.down HTA.out.full.frm⟩
theorem plays_all (w : World) (a : Int) (A : Option Addr) (c : Nat) (l : List DoM) (hl : RowsAt w A 4 DoM.enc l) :
    Calls Try.prog 8 #[.int .i64 a, .slice A l.length c] w fun e w' => e = .returned (.bool true) ∧ Frm (fun _ => False) w w' := by
  by_cases h : a < 1 ∨ 1000 < a
  · exact plays_bad w a A l.length c h
  · obtain ⟨n, rfl⟩ := Int.eq_ofNat_of_zero_le (show 0 ≤ a by omega)
    exact plays_ok w n (by omega) (by omega) A c l hl
end Go.Proofs.Ytogjnclliaagbaa
