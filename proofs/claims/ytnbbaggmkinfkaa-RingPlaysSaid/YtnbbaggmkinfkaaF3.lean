/- Reap, At, New. -/
import Derived.Test.YtnbbaggmkinfkaaF1
import Derived.Deep.RegionHeld3
namespace Go.Proofs.Ytnbbaggmkinfkaa
open Go.RowKit
section
variable {w : World} {p b n t r : Nat} {L : List DM} {P : List (Option DM)}
theorem RingIs.head (h : RingIs w p b n L t r P) : P[r % n]? = some L[r]? := by
  have hm : r % n < n := Nat.mod_lt _ (by have := h.hn; omega)
  cases hx : L[r]? with
  | some d => exact h.here r d (Nat.le_refl _) hx
  | none =>
    rw [List.getElem?_eq_none_iff] at hx
    exact h.gone _ hm fun no h1 h2 => by omega
set_option maxHeartbeats 2000000 in
theorem reap_not (h : RingIs w p b n L t r P) (hd : ∀ d, L[r]? = some d → d.done = false) :
    Calls Try.prog 13 #[.pointer (some ⟨p, 0, none⟩)] w fun e w' => e = .returned (.tuple #[.agg DM.zero.cells.toArray, .int .i64 (if r < L.length then 10 else 5)]) ∧ Frm (fun _ => False) w w' := by
  obtain ⟨o1, o2, o3⟩ := h.ord
  obtain ⟨n1, n2⟩ := h.hn
  have hl := h.hl
  have hmod : r % n < n := Nat.mod_lt _ (by omega)
  have c0 := h.c0
  have c3 := h.c3
  have hb := h.cb h.head
  obtain ⟨l1, l2⟩ := h.lt
  have HP1 := Lib.hid (place_c (h.keep (((Frm.refl (fun _ => False) _).alloc (.cells DM.zero.cells.toArray 33)).drew)) r)
  have HP2 := Lib.hid (place_c (h.keep ((((Frm.refl (fun _ => False) _).alloc (.cells DM.zero.cells.toArray 33)).alloc (.cells DM.zero.cells.toArray 33)).drew)) r)
  generalize r % n = m at *
  have m0 : (0 : Int) ≤ (m : Int) := by omega
  have m1 : (m : Int) < (n : Int) := by omega
  cases hx : L[r]? with
  | none =>
    have hr : ¬ r < L.length := by rw [List.getElem?_eq_none_iff] at hx; omega
    rw [if_neg hr]
    rw [hx] at hb
    simp only [encP, DM.cells, DM.zero] at hb HP1 HP2 ⊢
    clear h hd hx
    go_enter Try.func13, Try.ntmps13
    go_wp2_with fail
    go_region_held3 (fun w' => w'.cell? ⟨p, 0, none⟩ = some (.slice (some ⟨b, 0, none⟩) n n) ∧ w'.cell? ⟨p, 3, none⟩ = some (.int .i64 r) ∧ w'.cell? ⟨b, m, none⟩ = some .nilIface)
      (first | (refine ⟨?_, ?_, ?_⟩ <;> simp [World.cell?_alloc_past, l1, l2, c0, c3, hb, Nat.lt_succ_of_lt]) | go_keep)
      (first | (go_at_call 26; with_reducible refine HP1.out.mono ?_; rintro e w' ⟨rfl, rfl⟩) | (go_at_call 26; with_reducible refine HP2.out.mono ?_; rintro e w' ⟨rfl, rfl⟩))
    all_goals
      go_wp2_with fail
      refine bodyPost_ret (v := .tuple #[.agg DM.zero.cells.toArray, .int .i64 5]) (by simp [results, Try.results13, go_sem, DM.zero, DM.cells]) rfl ⟨rfl, ?_⟩
      exact (((Frm.refl _ _).alloc _).alloc _).drew
  | some d =>
    have hr : r < L.length := (List.getElem?_eq_some_iff.1 hx).1
    rw [if_pos hr]
    have hdd := hd d hx
    rw [hx] at hb
    obtain ⟨op, req, slot, gen, frm, len, device, done, status⟩ := d
    simp only at hdd
    subst hdd
    simp only [encP, DM.cells, DM.zero] at hb HP1 HP2 ⊢
    clear h hd hx
    go_enter Try.func13, Try.ntmps13
    go_wp2_with fail
    go_region_held3 (fun w' => w'.cell? ⟨p, 0, none⟩ = some (.slice (some ⟨b, 0, none⟩) n n) ∧ w'.cell? ⟨p, 3, none⟩ = some (.int .i64 r) ∧ w'.cell? ⟨b, m, none⟩ = some (.iface 33 (.agg #[.int .i64 op, .int .i64 req, .int .i64 slot, .int .u64 gen, .int .i64 frm, .int .i64 len, .bool device, .bool false, .int .i64 status])))
      (first | (refine ⟨?_, ?_, ?_⟩ <;> simp [World.cell?_alloc_past, l1, l2, c0, c3, hb, Nat.lt_succ_of_lt]) | go_keep)
      (first | (go_at_call 26; with_reducible refine HP1.out.mono ?_; rintro e w' ⟨rfl, rfl⟩) | (go_at_call 26; with_reducible refine HP2.out.mono ?_; rintro e w' ⟨rfl, rfl⟩))
    all_goals
      go_wp2_with fail
      refine bodyPost_ret (v := .tuple #[.agg DM.zero.cells.toArray, .int .i64 10]) (by simp [results, Try.results13, go_sem, DM.zero, DM.cells]) rfl ⟨rfl, ?_⟩
      exact (((Frm.refl _ _).alloc _).alloc _).drew
set_option maxHeartbeats 2000000 in
theorem reap_ok (h : RingIs w p b n L t r P) (d : DM) (hd : L[r]? = some d) (hdone : d.done = true) :
    Calls Try.prog 13 #[.pointer (some ⟨p, 0, none⟩)] w fun e w' => e = .returned (.tuple #[.agg d.cells.toArray, .int .i64 0]) ∧ RingIs w' p b n L t (r + 1) (P.set (r % n) none) ∧ Frm (fun k => k = p ∨ k = b) w w' := by
  obtain ⟨o1, o2, o3⟩ := h.ord
  obtain ⟨n1, n2⟩ := h.hn
  have hl := h.hl
  have hrt : r < t := by
    rcases Nat.lt_or_ge r t with hh | hh
    · exact hh
    · rw [h.fresh r d hh hd] at hdone; cases hdone
  have hmod : r % n < n := Nat.mod_lt _ (by omega)
  have c0 := h.c0
  have c3 := h.c3
  have c3f := h.fp 3
  have hb := h.cb h.head
  have hbf := h.fb (r % n)
  have hne := h.ne
  obtain ⟨l1, l2⟩ := h.lt
  have q1 : p ≠ w.heap.size := by omega
  have q2 : b ≠ w.heap.size := by omega
  have q3 : p ≠ w.heap.size + 1 := by omega
  have q4 : b ≠ w.heap.size + 1 := by omega
  have HP1 := Lib.hid (place_c (h.keep (((Frm.refl (fun _ => False) _).alloc (.cells DM.zero.cells.toArray 33)).drew)) r)
  have HP2 := Lib.hid (place_c (h.keep ((((Frm.refl (fun _ => False) _).alloc (.cells DM.zero.cells.toArray 33)).alloc (.cells DM.zero.cells.toArray 33)).drew)) r)
  have HP3 := Lib.hid (place_c (h.keep (((((Frm.refl (fun _ => False) _).alloc (.cells DM.zero.cells.toArray 33)).alloc (.cells d.cells.toArray 33)).drew).drew)) r)
  have HRE := Lib.hid (h.reap hrt)
  have HFR : Hid (∀ v v', Frm (fun k => k = p ∨ k = b) w ((w.setCell ⟨b, r % n, none⟩ v).setCell ⟨p, 3, none⟩ v')) := fun v v' => ((Frm.refl (fun k => k = p ∨ k = b) w).setCell (.inl (.inr rfl)) v).setCell (.inl (.inl rfl)) v'
  generalize r % n = m at *
  have m0 : (0 : Int) ≤ (m : Int) := by omega
  have m1 : (m : Int) < (n : Int) := by omega
  rw [hd] at hb
  obtain ⟨op, req, slot, gen, frm, len, device, done, status⟩ := d
  simp only at hdone
  subst hdone
  simp only [encP, DM.cells, DM.zero] at hb HP1 HP2 HP3 ⊢
  clear h hd
  go_enter Try.func13, Try.ntmps13
  go_wp2_with fail
  go_region_held3 (fun w' => w'.cell? ⟨p, 0, none⟩ = some (.slice (some ⟨b, 0, none⟩) n n) ∧ w'.cell? ⟨p, 3, none⟩ = some (.int .i64 r) ∧ w'.cell? ⟨b, m, none⟩ = some (.iface 33 (.agg #[.int .i64 op, .int .i64 req, .int .i64 slot, .int .u64 gen, .int .i64 frm, .int .i64 len, .bool device, .bool true, .int .i64 status])))
    (first | (refine ⟨?_, ?_, ?_⟩ <;> simp [World.cell?_alloc_past, l1, l2, c0, c3, hb, Nat.lt_succ_of_lt]) | go_keep)
    (first | (go_at_call 26; with_reducible refine HP1.out.mono ?_; rintro e w' ⟨rfl, rfl⟩) | (go_at_call 26; with_reducible refine HP2.out.mono ?_; rintro e w' ⟨rfl, rfl⟩))
  all_goals
    go_wp2_with fail
    go_region_held3 (fun w' => w'.cell? ⟨p, 0, none⟩ = some (.slice (some ⟨b, 0, none⟩) n n) ∧ w'.cell? ⟨p, 3, none⟩ = some (.int .i64 r))
      (first | (refine ⟨?_, ?_⟩ <;> simp [World.cell?_alloc_past, World.cell?_setCell_other, l1, c0, c3, Nat.lt_succ_of_lt]) | go_keep)
      (first | (go_at_call 26; with_reducible refine HP3.out.mono ?_; rintro e w' ⟨rfl, rfl⟩))
    all_goals
      go_wp2_with fail
      refine bodyPost_ret (v := .tuple #[.agg #[.int .i64 op, .int .i64 req, .int .i64 slot, .int .u64 gen, .int .i64 frm, .int .i64 len, .bool device, .bool true, .int .i64 status], .int .i64 0]) (by simp [results, Try.results13, go_sem]) rfl ⟨rfl, ?_, ?_⟩
      · exact HRE.out.keep (((((Frm.refl _ _).alloc _).alloc _).drew).drew)
      · exact (((((HFR.out _ _).alloc _).alloc _).drew).drew)
theorem at_far (h : RingIs w p b n L t r P) (k : Int) (hk : k < 0 ∨ (n : Int) ≤ k) :
    Calls Try.prog 23 #[.pointer (some ⟨p, 0, none⟩), .int .i64 k] w fun e w' => e = .returned (.tuple #[.agg DM.zero.cells.toArray, .int .i64 6]) ∧ Frm (fun _ => False) w w' := by
  have c0 := h.c0
  obtain ⟨l1, l2⟩ := h.lt
  clear h
  simp only [DM.cells, DM.zero]
  rcases hk with hk | hk
  · have e1 : decide (k < 0) = true := by simpa using hk
    go_enter Try.func23, Try.ntmps23
    go_wp2_with fail
    refine bodyPost_ret (v := .tuple #[.agg DM.zero.cells.toArray, .int .i64 6]) (by simp [results, Try.results23, go_sem, DM.zero, DM.cells]) rfl ⟨rfl, ?_⟩
    exact (Frm.refl _ _).alloc _
  · have e1 : decide (k < 0) = false := by simp; omega
    have e2 : decide ((n : Int) ≤ k) = true := by simpa using hk
    go_enter Try.func23, Try.ntmps23
    go_wp2_with fail
    refine bodyPost_ret (v := .tuple #[.agg DM.zero.cells.toArray, .int .i64 6]) (by simp [results, Try.results23, go_sem, DM.zero, DM.cells]) rfl ⟨rfl, ?_⟩
    exact (Frm.refl _ _).alloc _
theorem at_none (h : RingIs w p b n L t r P) (k : Nat) (hk : P[k]? = some none) :
    Calls Try.prog 23 #[.pointer (some ⟨p, 0, none⟩), .int .i64 k] w fun e w' => e = .returned (.tuple #[.agg DM.zero.cells.toArray, .int .i64 6]) ∧ Frm (fun _ => False) w w' := by
  have c0 := h.c0
  obtain ⟨l1, l2⟩ := h.lt
  have hb := h.cb hk
  have hkn : k < n := by have := (List.getElem?_eq_some_iff.1 hk).1; rw [h.plen] at this; exact this
  have e1 : decide ((k : Int) < 0) = false := by simp
  have e2 : decide (n ≤ k) = false := by simpa using hkn
  simp only [DM.cells, DM.zero, encP] at hb ⊢
  clear h hk
  go_enter Try.func23, Try.ntmps23
  go_wp2_with fail
  all_goals
    refine bodyPost_ret (v := .tuple #[.agg DM.zero.cells.toArray, .int .i64 6]) (by simp [results, Try.results23, go_sem, DM.zero, DM.cells]) rfl ⟨rfl, ?_⟩
    exact ((Frm.refl _ _).alloc _).alloc _
theorem at_some (h : RingIs w p b n L t r P) (k : Nat) (d : DM) (hk : P[k]? = some (some d)) :
    Calls Try.prog 23 #[.pointer (some ⟨p, 0, none⟩), .int .i64 k] w fun e w' => e = .returned (.tuple #[.agg d.cells.toArray, .int .i64 0]) ∧ Frm (fun _ => False) w w' := by
  have c0 := h.c0
  obtain ⟨l1, l2⟩ := h.lt
  have hb := h.cb hk
  have hkn : k < n := by have := (List.getElem?_eq_some_iff.1 hk).1; rw [h.plen] at this; exact this
  have e1 : decide ((k : Int) < 0) = false := by simp
  have e2 : decide (n ≤ k) = false := by simpa using hkn
  obtain ⟨op, req, slot, gen, frm, len, device, done, status⟩ := d
  simp only [DM.cells, encP] at hb ⊢
  clear h hk
  go_enter Try.func23, Try.ntmps23
  go_wp2_with fail
  all_goals
    refine bodyPost_ret (v := .tuple #[.agg #[.int .i64 op, .int .i64 req, .int .i64 slot, .int .u64 gen, .int .i64 frm, .int .i64 len, .bool device, .bool done, .int .i64 status], .int .i64 0]) (by simp [results, Try.results23, go_sem]) rfl ⟨rfl, ?_⟩
    exact ((Frm.refl _ _).alloc _).alloc _
end
theorem new_bad (w : World) (s : Int) (hs : s < 1 ∨ 64 < s) :
    Calls Try.prog 9 #[.int .i64 s] w fun e w' => e = .returned (.tuple #[.pointer none, .int .i64 1]) ∧ w = w' := by
  rcases hs with hs | hs
  · have hd : decide (s < 1) = true := by simpa using hs
    go_enter Try.func9, Try.ntmps9
    go_wp2
    go_ret2
    exact ⟨rfl, rfl⟩
  · have hd : decide (s < 1) = false := by simp; omega
    have hd2 : decide (64 < s) = true := by simpa using hs
    go_enter Try.func9, Try.ntmps9
    go_wp2
    go_ret2
    exact ⟨rfl, rfl⟩
theorem info20 : (Try.prog.info? 20).map (fun i => (i.zero, i.size, i.bytes)) = some (some .nilIface, 1, 16) := by kernel_rfl
theorem new_ok (w : World) (n : Nat) (h1 : 1 ≤ n) (h2 : n ≤ 64) :
    Calls Try.prog 9 #[.int .i64 n] w fun e w' => e = .returned (.tuple #[.pointer (some ⟨w.heap.size + 1, 0, none⟩), .int .i64 0]) ∧
      RingIs w' (w.heap.size + 1) w.heap.size n [] 0 0 (List.replicate n none) ∧ Frm (fun _ => False) w w' := by
  have hd : decide ((n : Int) < 1) = false := by simp; omega
  have hd2 : decide (64 < (n : Int)) = false := by simp; omega
  have hmk := run_make_vec (P := Try.prog) 60 20 .nilIface 16 Try.underlying60 info20 rfl n (by omega) (by omega)
  go_enter Try.func9, Try.ntmps9
  go_wp2
  go_ret2
  refine ⟨rfl, ?_, ((Frm.refl _ _).alloc _).alloc _⟩
  refine ⟨⟨h1, h2⟩, by simp, by simp, ?_, ?_, by simp, by simp, ?_, by simp, by omega⟩
  · have := heap_alloc_new (w.alloc (.cells (vals n fun _ => .nilIface).toArray 20)) (.cells #[.slice (some ⟨w.heap.size, 0, none⟩) n n, .int .i64 0, .int .i64 0, .int .i64 0] 62)
    rw [World.size_alloc] at this
    exact this
  · have e : (List.replicate n (none : Option DM)).map encP = vals n fun _ => .nilIface := by
      rw [← vals_replicate]; simp [encP]
    rw [e]
    exact (VecAt.new w 20 (vals n fun _ => .nilIface)).alloc _
  · intro j hj _
    simp [hj]
end Go.Proofs.Ytnbbaggmkinfkaa
