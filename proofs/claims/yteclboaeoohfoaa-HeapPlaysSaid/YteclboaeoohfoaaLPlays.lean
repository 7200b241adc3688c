/- HeapPlays: the walk. -/
import Derived.Test.YteclboaeoohfoaaRf
import Derived.Deep.RegionHeld3
namespace Go.Proofs.Yteclboaeoohfoaa
open Go.RowKit
/-- What a heap may hold beside the reference's and the box of a step. -/
def Far (w : World) (r g u q k : Nat) : Prop := w.heap.size ≤ k ∧ k ≠ r ∧ k ≠ g ∧ k ≠ u ∧ k ≠ q
theorem far_q {w : World} {r g u q : Nat} : ¬ Far w r g u q q := fun e => e.2.2.2.2 rfl
/-- A heap, the reference's beside it, and a step's box. -/
structure Pl (w wr : World) (p r g u q n : Nat) (K K' : Nat → Option Int) : Prop where
  heap : HeapR wr (Far w r g u q) p n K
  ref : ∃ Z, RefR wr r g u n K' Z
  frm : Frm (fun _ => False) w wr
  lo : (w.heap.size ≤ r ∧ w.heap.size ≤ g ∧ w.heap.size ≤ u ∧ w.heap.size ≤ q) ∧ q ≠ r ∧ q ≠ g ∧ q ≠ u
section
variable {w wr : World} {p r g u q n : Nat} {K K' : Nat → Option Int}
theorem Pl.keep {w' : World} (h : Pl w wr p r g u q n K K') (hf : Frm (fun _ => False) wr w') : Pl w w' p r g u q n K K' :=
  ⟨h.heap.keep hf (fun _ _ => id), h.ref.imp fun _ h => h.keep hf, h.frm.trans hf, h.lo⟩
theorem Pl.lt (h : Pl w wr p r g u q n K K') : r < wr.heap.size ∧ g < wr.heap.size ∧ u < wr.heap.size := by
  obtain ⟨Z, hr⟩ := h.ref
  exact ⟨hr.str.lt, hr.ins.lt, hr.keys.lt⟩
/-- A new box. -/
theorem Pl.box (h : Pl w wr p r g u q n K K') : Pl w wr p r g u wr.heap.size n K K' := by
  have h1 := h.lt
  have h2 := h.frm.size
  have h3 := h.lo
  exact ⟨h.heap.mono fun k hk hh => ⟨hh.1, hh.2.1, hh.2.2.1, hh.2.2.2.1, by omega⟩, h.ref, h.frm, ⟨by omega, by omega, by omega, by omega⟩, by omega, by omega, by omega⟩
theorem Pl.step {w' : World} {T' : Nat → Prop} {K2 : Nat → Option Int} (h : Pl w wr p r g u q n K K') (hq : q < wr.heap.size) (h' : HeapR w' T' p n K2) (hg : Grow (Far w r g u q) T' wr w') : Pl w w' p r g u q n K2 K' ∧ Frm (Far w r g u q) wr w' := by
  have h1 := h.frm.size
  have h2 := h.lt
  refine ⟨⟨h'.mono fun k _ hk => ?_, h.ref.imp fun _ h => h.frm hg.2 (fun e => e.2.1 rfl) (fun e => e.2.2.1 rfl) (fun e => e.2.2.2.1 rfl), (h.frm.of_none.trans (hg.2.mono fun k _ hk => hk.1)).down, h.lo⟩, hg.2⟩
  rcases (hg.1 k hk).2 with e | e
  · exact e
  · exact ⟨by omega, by omega, by omega, by omega, by omega⟩
theorem Pl.rstep {w' : World} {K2 : Nat → Option Int} (h : Pl w wr p r g u q n K K') (h' : ∃ Z, RefR w' r g u n K2 Z) (hf : Frm (fun k => k = g ∨ k = u) wr w') : Pl w w' p r g u q n K K2 ∧ Frm (fun k => k ≠ q) wr w' := by
  have h1 := h.lo
  refine ⟨⟨h.heap.keep hf (fun k hk e => by have := hk.2.2; omega), h', (h.frm.of_none.trans (hf.mono fun k _ hk => by omega)).down, h.lo⟩, hf.mono fun k _ hk => by omega⟩
theorem put_p (h : Pl w wr p r g u q n K K') (hq : q < wr.heap.size) (id key : Int) : Calls Try.prog 12 #[.pointer (some ⟨p, 0, none⟩), .int .i64 id, .int .u64 key] wr fun e w' =>
    e = .returned (.int .i64 (putC n id)) ∧ Pl w w' p r g u q n (putK n K id key) K' ∧ Frm (Far w r g u q) wr w' :=
  (put_k h.heap id key).mono fun _ _ ⟨he, _, h1, h2⟩ => ⟨he, h.step hq h1 h2⟩
theorem drop_p (h : Pl w wr p r g u q n K K') (hq : q < wr.heap.size) (id : Int) : Calls Try.prog 14 #[.pointer (some ⟨p, 0, none⟩), .int .i64 id] wr fun e w' =>
    e = .returned (.int .i64 (dropC K id)) ∧ Pl w w' p r g u q n (dropK K id) K' ∧ Frm (Far w r g u q) wr w' :=
  (drop_k h.heap id).mono fun _ _ ⟨he, _, h1, h2⟩ => ⟨he, h.step hq h1 h2⟩
theorem take_p (h : Pl w wr p r g u q n K K') (hq : q < wr.heap.size) {j : Nat} {x : Int} (hn : FirstIs K j x) : Calls Try.prog 16 #[.pointer (some ⟨p, 0, none⟩)] wr fun e w' =>
    e = .returned (.tuple #[.int .i64 j, .int .u64 x, .int .i64 0]) ∧ Pl w w' p r g u q n (dropK K j) K' ∧ Frm (Far w r g u q) wr w' :=
  (take_s h.heap hn).mono fun _ _ ⟨he, _, h1, h2⟩ => ⟨he, h.step hq h1 h2⟩
theorem taken_p (h : Pl w wr p r g u q n K K') (hn : ∀ j, K j = none) : Calls Try.prog 16 #[.pointer (some ⟨p, 0, none⟩)] wr fun e w' =>
    e = .returned (.tuple #[.int .i64 0, .int .u64 0, .int .i64 5]) ∧ Pl w w' p r g u q n K K' ∧ Frm (fun _ => False) wr w' :=
  (take_n h.heap hn).mono fun _ _ ⟨he, h1⟩ => ⟨he, h.keep h1, h1⟩
/-- What First tells. -/
def FstV (K : Nat → Option Int) (x k c : Int) : Prop := (x = 0 ∧ k = 0 ∧ c = 5 ∧ ∀ j, K j = none) ∨ ∃ j : Nat, x = j ∧ c = 0 ∧ FirstIs K j k
theorem FstV.det {x k c x' k' c' : Int} (h : FstV K x k c) (h' : FstV K x' k' c') : x = x' ∧ k = k' ∧ c = c' := by
  rcases h with ⟨h1, h2, h3, h4⟩ | ⟨j, h1, h2, h3⟩ <;> rcases h' with ⟨k1, k2, k3, k4⟩ | ⟨j', k1, k2, k3⟩
  · omega
  · have := k3.1; rw [h4] at this; cases this
  · have := h3.1; rw [k4] at this; cases this
  · obtain ⟨rfl, rfl⟩ := h3.det k3; omega
theorem Pl.fst (h : Pl w wr p r g u q n K K') : ∃ x k c, FstV K x k c := by
  rcases h.heap.first with hn | ⟨j, x, hf⟩
  · exact ⟨0, 0, 5, .inl ⟨rfl, rfl, rfl, hn⟩⟩
  · exact ⟨j, x, 0, .inr ⟨j, rfl, rfl, hf⟩⟩
theorem first_p (h : Pl w wr p r g u q n K K') {x k c : Int} (hv : FstV K x k c) : Calls Try.prog 18 #[.pointer (some ⟨p, 0, none⟩)] wr fun e w' =>
    e = .returned (.tuple #[.int .i64 x, .int .u64 k, .int .i64 c]) ∧ Pl w w' p r g u q n K K' ∧ Frm (fun _ => False) wr w' := by
  refine (first_k h.heap).mono ?_
  rintro e w' ⟨⟨rfl, h1⟩ | ⟨j, y, rfl, h1⟩, hf⟩
  · obtain ⟨rfl, rfl, rfl⟩ := hv.det (.inl ⟨rfl, rfl, rfl, h1⟩)
    exact ⟨rfl, h.keep hf, hf⟩
  · obtain ⟨rfl, rfl, rfl⟩ := hv.det (.inr ⟨j, rfl, rfl, h1⟩)
    exact ⟨rfl, h.keep hf, hf⟩
theorem rfirst_p (h : Pl w wr p r g u q n K K') {x k c : Int} (hv : FstV K' x k c) : Calls Try.prog 17 #[.pointer (some ⟨r, 0, none⟩)] wr fun e w' =>
    e = .returned (.tuple #[.int .i64 x, .int .u64 k, .int .i64 c]) ∧ Pl w w' p r g u q n K K' ∧ Frm (fun _ => False) wr w' := by
  obtain ⟨Z, hr⟩ := h.ref
  refine (rfirst_c hr).mono ?_
  rintro e w' ⟨⟨rfl, h1⟩ | ⟨j, y, rfl, h1⟩, hf⟩
  · obtain ⟨rfl, rfl, rfl⟩ := hv.det (.inl ⟨rfl, rfl, rfl, h1⟩)
    exact ⟨rfl, h.keep hf, hf⟩
  · obtain ⟨rfl, rfl, rfl⟩ := hv.det (.inr ⟨j, rfl, rfl, h1⟩)
    exact ⟨rfl, h.keep hf, hf⟩
theorem rput_p (h : Pl w wr p r g u q n K K') (id key : Int) : Calls Try.prog 13 #[.pointer (some ⟨r, 0, none⟩), .int .i64 id, .int .u64 key] wr fun e w' =>
    e = .returned (.int .i64 (putC n id)) ∧ Pl w w' p r g u q n K (putK n K' id key) ∧ Frm (fun k => k ≠ q) wr w' := by
  obtain ⟨Z, hr⟩ := h.ref
  exact (rput_c hr id key).mono fun _ _ ⟨he, h1, h2⟩ => ⟨he, h.rstep h1 h2⟩
theorem rdrop_p (h : Pl w wr p r g u q n K K') (id : Int) : Calls Try.prog 15 #[.pointer (some ⟨r, 0, none⟩), .int .i64 id] wr fun e w' =>
    e = .returned (.int .i64 (dropC K' id)) ∧ Pl w w' p r g u q n K (dropK K' id) ∧ Frm (fun k => k ≠ q) wr w' := by
  obtain ⟨Z, hr⟩ := h.ref
  exact (rdrop_c hr id).mono fun _ _ ⟨he, h1, h2⟩ => ⟨he, h.rstep ⟨_, h1⟩ h2⟩
theorem keys_p (h : Pl w wr p r g u q n K K') {id x : Int} (hk : getK K id = some x) : Calls Try.prog 19 #[.pointer (some ⟨p, 0, none⟩), .int .i64 id] wr fun e w' =>
    e = .returned (.tuple #[.int .u64 x, .int .i64 0]) ∧ Pl w w' p r g u q n K K' ∧ Frm (fun _ => False) wr w' := by
  have := key_k h.heap id
  rw [hk] at this
  exact this.mono fun _ _ ⟨he, hf⟩ => ⟨he, h.keep hf, hf⟩
theorem keyn_p (h : Pl w wr p r g u q n K K') {id : Int} (hk : getK K id = none) : Calls Try.prog 19 #[.pointer (some ⟨p, 0, none⟩), .int .i64 id] wr fun e w' =>
    e = .returned (.tuple #[.int .u64 0, .int .i64 6]) ∧ Pl w w' p r g u q n K K' ∧ Frm (fun _ => False) wr w' := by
  have := key_k h.heap id
  rw [hk] at this
  exact this.mono fun _ _ ⟨he, hf⟩ => ⟨he, h.keep hf, hf⟩
theorem len_p (h : Pl w wr p r g u q n K K') : Calls Try.prog 20 #[.pointer (some ⟨p, 0, none⟩)] wr fun e w' => e = .returned (.int .i64 (countK n K)) ∧ w' = wr :=
  (len_k h.heap).mono fun _ _ ⟨he, h⟩ => ⟨he, h.symm⟩
theorem rlen_p (h : Pl w wr p r g u q n K K') : Calls Try.prog 21 #[.pointer (some ⟨r, 0, none⟩)] wr fun e w' => e = .returned (.int .i64 (countK n K')) ∧ w' = wr := by
  obtain ⟨Z, hr⟩ := h.ref
  exact rlen_c hr
theorem ris_p (h : Pl w wr p r g u q n K K') (id : Int) : Calls Try.prog 22 #[.pointer (some ⟨r, 0, none⟩), .int .i64 id] wr fun e w' => e = .returned (.bool (getK K' id).isSome) ∧ w' = wr := by
  obtain ⟨Z, hr⟩ := h.ref
  exact ris_c hr id
theorem ris_n (h : Pl w wr p r g u q n K K') {id : Int} (hk : getK K' id = none) : Calls Try.prog 22 #[.pointer (some ⟨r, 0, none⟩), .int .i64 id] wr fun e w' => e = .returned (.bool false) ∧ w' = wr := by
  have := ris_p h id
  rwa [hk] at this
theorem ris_s (h : Pl w wr p r g u q n K K') {id x : Int} (hk : getK K' id = some x) : Calls Try.prog 22 #[.pointer (some ⟨r, 0, none⟩), .int .i64 id] wr fun e w' => e = .returned (.bool true) ∧ w' = wr := by
  have := ris_p h id
  rwa [hk] at this
theorem Pl.nn (h : Pl w wr p r g u q n K K') (m : Nat) : Pl w (wr.drewN m) p r g u q n K K' := h.keep ((Frm.refl _ _).drewN _)
end
set_option maxRecDepth 100000 in
theorem plays_bad (w : World) (a : Int) (A : Option Addr) (n c : Nat) (ha : a < 1 ∨ 1000 < a) :
    Calls Try.prog 3 #[.int .i64 a, .slice A n c] w fun e w' => e = .returned (.bool true) ∧ Frm (fun _ => False) w w' := by
  have hex : decide (a < 1) = true ∨ decide (a < 1) = false ∧ decide (1000 < a) = true := by
    by_cases h : a < 1
    · exact .inl (by simpa using h)
    · exact .inr ⟨by simpa using h, by simp; omega⟩
  have HB := Lib.hid (fun w => new_bad w a ha)
  clear ha
  rcases hex with e1 | ⟨e1, e2⟩
  all_goals
    go_enter Try.func3, Try.ntmps3
    go_wp2_with fail
    with_reducible refine (awake_c w).mono ?_
    rintro e w1 ⟨rfl, hf⟩
    go_wp2_with fail
    with_reducible refine (HB.out w1).mono ?_
    rintro e w2 ⟨rfl, rfl⟩
    go_wp2_with fail
    go_ret
    exact ⟨rfl, hf⟩
set_option maxRecDepth 100000 in
set_option maxHeartbeats 4000000 in
theorem plays_ok (w : World) (n : Nat) (h1 : 1 ≤ n) (h2 : n ≤ 1000) (A : Option Addr) (c : Nat) (l : List DoM) (hl : RowsAt w A 3 DoM.enc l) :
    Calls Try.prog 3 #[.int .i64 n, .slice A l.length c] w fun e w' => e = .returned (.bool true) ∧ Frm (fun _ => False) w w' := by
  have hd : decide ((n : Int) < 1) = false := by simp; omega
  have hd2 : decide (1000 < (n : Int)) = false := by simp; omega
  have HL := Lib.hid hl
  have hlen := hl.len
  clear hl
  go_enter Try.func3, Try.ntmps3
  go_wp2_with fail
  with_reducible refine (awake_c w).mono ?_
  rintro e w1 ⟨rfl, hf1⟩
  have F1 := Lib.hid hf1
  clear hf1
  go_wp2_with fail
  with_reducible refine (new_k w1 n ⟨h1, h2⟩).mono ?_
  rintro e w2 ⟨rfl, T2, h3, hg3⟩
  have H2 := Lib.hid h3
  have G2 := Lib.hid hg3
  clear h3 hg3
  go_wp2_with fail
  with_reducible refine (rnew_c w2 n ⟨h1, h2⟩).mono ?_
  rintro e w3 ⟨r, g, u, rfl, hr, hlo, hf3⟩
  have H3 : Hid (∃ q K, Pl w1 w3 w1.heap.size r g u q n K K) := by
    have s2 := G2.out.2.size
    have s3 := hf3.size
    obtain ⟨l1, l2, l3⟩ := hr.ne
    have m1 := hr.str.lt
    have m2 := hr.ins.lt
    have m3 := hr.keys.lt
    refine Lib.hid ⟨w3.heap.size, _, (H2.out.keep hf3 (fun _ _ => id)).mono fun k _ hk => ?_, ⟨_, hr⟩, G2.out.2.trans hf3, ⟨by omega, by omega, by omega, by omega⟩, by omega, by omega, by omega⟩
    have := G2.out.1 k hk
    rcases this.2 with e | e
    · exact e.elim
    · exact ⟨e, by omega, by omega, by omega, by omega⟩
  clear hr hlo hf3 H2 G2
  generalize w1.heap.size = p at *
  go_wp2_with fail
  go_loopw [8] (fun i wr => ∃ k : Nat, k ≤ l.length ∧ k ≤ 150 ∧ i = .int .i64 k ∧ Hid (∃ q K, Pl w1 wr p r g u q n K K)) (fun i _ => 150 - (intOf i).toNat)
  case atStart => exact ⟨0, by omega, by omega, rfl, H3⟩
  case round =>
    obtain ⟨k, hk, hk1, rfl, HX⟩ := hrel
    clear H3
    by_cases hlt : k < l.length ∧ k < 150
    · obtain ⟨hl1, hl2⟩ := hlt
      have e1 : decide (k < l.length) = true := by simpa using hl1
      have e2 : decide ((k : Int) < 150) = true := by simp; omega
      obtain ⟨b0, off, hAe, hb0, hc⟩ := HL.out.at_ (by omega)
      subst hAe
      obtain ⟨d, hd⟩ : ∃ d, l[k]? = some d := ⟨_, List.getElem?_eq_getElem hl1⟩
      obtain ⟨kind, nid, key⟩ := d
      obtain ⟨q0, K, hP⟩ := HX.out
      have hcc := fun j v hj => hP.frm.cell (by have := F1.out.size; omega) id (F1.out.cell hb0 id (hc k _ hd j v hj))
      have x0 := hcc 0 _ rfl
      have x1 := hcc 1 _ rfl
      have x2 := hcc 2 _ rfl
      simp only [Nat.add_zero] at x0
      have HP := Lib.hid (hP.box.keep ((Frm.refl _ wr).alloc (.cells #[.int .i64 kind, .int .i64 nid, .int .u64 key] 32)))
      have HB := Lib.hid (DBox.new wr ⟨kind, nid, key⟩)
      simp only at x0 x1 x2 HB
      clear hcc hc hd hP HX
      go_upto_block 2 with (fail)
      go_cut [] (fun wx => Hid (∃ K, Pl w1 wx p r g u wr.heap.size n K K ∧ DBox wx wr.heap.size ⟨kind, nid, key⟩))
      case first =>
        clear x0 x1 x2
        by_cases k0 : kind = 0
        · subst k0
          have P0 := Lib.hid (HP.out.keep (Frm.refl _ _).drew)
          have D0 := Lib.hid (HB.out.via (Frm.refl (fun _ => False) _).drew id)
          have LQ := lt_of_cell D0.out.c0
          clear HP HB
          go_wp2_with fail
          go_region_held3 (fun w' => w'.cell? ⟨wr.heap.size, 1, none⟩ = some (.int .i64 nid) ∧ w'.cell? ⟨wr.heap.size, 2, none⟩ = some (.int .u64 key))
            (first | exact ⟨D0.out.c1, D0.out.c2⟩ | exact ⟨D5.out.c1, D5.out.c2⟩ | exact ⟨D6.out.c1, D6.out.c2⟩)
            (first
              | (go_at_call 12; (with_reducible refine (put_p P0.out LQ nid key).mono ?_); rintro e w5 ⟨rfl, h5, f5⟩; have D5 := Lib.hid (D0.out.via f5 far_q); have P5 := Lib.hid h5; clear h5 f5)
              | (go_at_call 13; (with_reducible refine (rput_p P5.out nid key).mono ?_); rintro e w6 ⟨rfl, h6, f6⟩; have D6 := Lib.hid (D5.out.via f6 (fun e => e rfl)); have P6 := Lib.hid h6; clear h6 f6))
          go_wp2_with fail
          go_meet
          exact Lib.hid ⟨_, P6.out, D6.out⟩
        · have e0 : (kind == 0) = false := by simpa using k0
          clear k0
          by_cases k1 : kind = 1
          · subst k1
            have P0 := Lib.hid (HP.out.keep (Frm.refl _ _).drew)
            have D0 := Lib.hid (HB.out.via (Frm.refl (fun _ => False) _).drew id)
            have LQ := lt_of_cell D0.out.c0
            clear HP HB
            go_wp2_with fail
            go_region_held3 (fun w' => w'.cell? ⟨wr.heap.size, 1, none⟩ = some (.int .i64 nid))
              (first | exact D0.out.c1 | exact D5.out.c1 | exact D6.out.c1)
              (first
                | (go_at_call 14; (with_reducible refine (drop_p P0.out LQ nid).mono ?_); rintro e w5 ⟨rfl, h5, f5⟩; have D5 := Lib.hid (D0.out.via f5 far_q); have P5 := Lib.hid h5; clear h5 f5)
                | (go_at_call 15; (with_reducible refine (rdrop_p P5.out nid).mono ?_); rintro e w6 ⟨rfl, h6, f6⟩; have D6 := Lib.hid (D5.out.via f6 (fun e => e rfl)); have P6 := Lib.hid h6; clear h6 f6))
            go_wp2_with fail
            go_meet
            exact Lib.hid ⟨_, P6.out, D6.out⟩
          · have e1' : (kind == 1) = false := by simpa using k1
            clear k1
            have LQ := lt_of_cell HB.out.c0
            obtain ⟨x, y, cc, hv⟩ := HP.out.fst
            have HV := Lib.hid hv
            rcases hv with ⟨rfl, rfl, rfl, hno⟩ | ⟨j, rfl, rfl, hf⟩
            · have HN := Lib.hid hno
              clear hno
              go_wp2_with fail
              with_reducible refine (taken_p HP.out HN.out).mono ?_
              rintro e w5 ⟨rfl, h5, f5⟩
              have P5 := Lib.hid h5
              have D5 := Lib.hid (HB.out.via f5 (fun e => e))
              clear h5 f5 HP HB
              go_wp2_with fail
              with_reducible refine (rfirst_p P5.out HV.out).mono ?_
              rintro e w6 ⟨rfl, h6, f6⟩
              have P6 := Lib.hid h6
              have D6 := Lib.hid (D5.out.via f6 (fun e => e))
              clear h6 f6 P5 D5
              go_wp2_with fail
              with_reducible refine (rdrop_p P6.out 0).mono ?_
              rintro e w7 ⟨rfl, h7, f7⟩
              have hdk : dropK K 0 = K := none_of (by show getK K ((0 : Nat) : Int) = none; rw [getK_nat]; exact HN.out 0)
              rw [hdk] at h7
              have P7 := Lib.hid h7
              have D7 := Lib.hid (D6.out.via f7 (fun e => e rfl))
              clear h7 f7 P6 D6
              go_wp2_with fail
              go_meet
              exact Lib.hid ⟨_, P7.out, D7.out⟩
            · have HF := Lib.hid hf
              clear hf
              go_wp2_with fail
              with_reducible refine (take_p HP.out LQ HF.out).mono ?_
              rintro e w5 ⟨rfl, h5, f5⟩
              have P5 := Lib.hid h5
              have D5 := Lib.hid (HB.out.via f5 far_q)
              clear h5 f5 HP HB
              go_wp2_with fail
              with_reducible refine (rfirst_p P5.out HV.out).mono ?_
              rintro e w6 ⟨rfl, h6, f6⟩
              have P6 := Lib.hid h6
              have D6 := Lib.hid (D5.out.via f6 (fun e => e))
              clear h6 f6 P5 D5
              go_wp2_with fail
              with_reducible refine (rdrop_p P6.out j).mono ?_
              rintro e w7 ⟨rfl, h7, f7⟩
              have P7 := Lib.hid h7
              have D7 := Lib.hid (D6.out.via f7 (fun e => e rfl))
              clear h7 f7 P6 D6
              go_wp2_with fail
              go_meet
              exact Lib.hid ⟨_, P7.out, D7.out⟩
      case rest =>
        clear HP HB x0 x1 x2
        obtain ⟨K, hP, hB⟩ := hcut.out
        have HP := Lib.hid hP
        obtain ⟨x, y, cc, hv⟩ := hP.fst
        have HV := Lib.hid hv
        have HB := Lib.hid hB
        clear hcut hP hB hv
        go_wp2_with fail
        with_reducible refine (first_p HP.out HV.out).mono ?_
        rintro e w5 ⟨rfl, h5, f5⟩
        have P5 := Lib.hid h5
        have D5 := Lib.hid (HB.out.via f5 (fun e => e))
        clear h5 f5 HP HB
        go_wp2_with fail
        with_reducible refine (rfirst_p P5.out HV.out).mono ?_
        rintro e w6 ⟨rfl, h6, f6⟩
        have P6 := Lib.hid h6
        have D6 := Lib.hid (D5.out.via f6 (fun e => e))
        have y1 := D6.out.c1
        clear h6 f6 P5 D5
        cases hg : getK K nid with
        | none =>
          have HG := Lib.hid hg
          clear hg
          go_wp2_with fail
          with_reducible refine (keyn_p P6.out HG.out).mono ?_
          rintro e w7 ⟨rfl, h7, f7⟩
          have P7 := Lib.hid h7
          have y1 := (D6.out.via f7 (fun e => e)).c1
          clear h7 f7 P6 D6
          go_wp2_with fail
          go_quiet (first
            | (go_at_call 20; exact Calls.quiet_of_same (len_p (P7.out.nn _)))
            | (go_at_call 21; exact Calls.quiet_of_same (rlen_p (P7.out.nn _)))
            | (go_at_call 22; exact Calls.quiet_of_same (ris_n (P7.out.nn _) HG.out)))
          go_wp2_with fail
          go_roundw
          case rel => exact ⟨k + 1, by omega, by omega, by go_num, Lib.hid ⟨_, _, P7.out.nn _⟩⟩
          case measure => simp [intOf]; omega
        | some v =>
          have HG := Lib.hid hg
          clear hg
          go_wp2_with fail
          with_reducible refine (keys_p P6.out HG.out).mono ?_
          rintro e w7 ⟨rfl, h7, f7⟩
          have P7 := Lib.hid h7
          have y1 := (D6.out.via f7 (fun e => e)).c1
          clear h7 f7 P6 D6
          have h0 : 0 ≤ nid := by
            have := HG.out
            by_cases h : 0 ≤ nid
            · exact h
            · rw [getK, if_neg h] at this; cases this
          obtain ⟨j, rfl⟩ : ∃ j : Nat, nid = j := ⟨nid.toNat, by omega⟩
          obtain ⟨Z, hr⟩ := P7.out.ref
          have hz := hr.hz j v (by have := HG.out; rwa [getK_nat] at this)
          obtain ⟨hj, hz⟩ := hz
          have z1 := hr.c1
          have z2 := hr.ckey hj
          rw [← hz] at z2
          have hj2 : (j : Int) < (n : Int) := by omega
          clear hr hz h0
          go_wp2_with fail
          go_quiet (first
            | (go_at_call 20; exact Calls.quiet_of_same (len_p (P7.out.nn _)))
            | (go_at_call 21; exact Calls.quiet_of_same (rlen_p (P7.out.nn _)))
            | (go_at_call 22; exact Calls.quiet_of_same (ris_s (P7.out.nn _) HG.out)))
          go_wp2_with fail
          go_roundw
          case rel => exact ⟨k + 1, by omega, by omega, by go_num, Lib.hid ⟨_, _, P7.out.nn _⟩⟩
          case measure => simp [intOf]; omega
    · have hex : (decide (k < l.length) = true ∧ decide ((k : Int) < 150) = false) ∨ decide (k < l.length) = false := by
        by_cases h : k < l.length
        · left; simp; omega
        · right; simpa using h
      clear hlt
      rcases hex with ⟨e1, e2⟩ | e1
      all_goals
        go_wp2_with fail
        go_ret
        obtain ⟨q, K, hP⟩ := HX.out
        exact ⟨rfl, F1.out.trans hP.frm⟩
theorem plays_all (w : World) (a : Int) (A : Option Addr) (c : Nat) (l : List DoM) (hl : RowsAt w A 3 DoM.enc l) :
    Calls Try.prog 3 #[.int .i64 a, .slice A l.length c] w fun e w' => e = .returned (.bool true) ∧ Frm (fun _ => False) w w' := by
  by_cases h : a < 1 ∨ 1000 < a
  · exact plays_bad w a A l.length c h
  · obtain ⟨n, rfl⟩ := Int.eq_ofNat_of_zero_le (show 0 ≤ a by omega)
    exact plays_ok w n (by omega) (by omega) A c l hl
end Go.Proofs.Yteclboaeoohfoaa
