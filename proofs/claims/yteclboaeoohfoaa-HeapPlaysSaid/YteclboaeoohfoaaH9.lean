/- Drop. -/
import Derived.Test.YteclboaeoohfoaaH8
namespace Go.Proofs.Yteclboaeoohfoaa
open Go.RowKit
section
variable {w : World} {p n : Nat} {v vp : Value} {M : List Mb} {pl : Nat → Int}
theorem own_less {g k c : Nat} {L : List Mb} {m : Mb} (h : w.ownsRow 0 57 2 (.slice (some ⟨g, 0, none⟩) (k + 1) c) (k + 1) (mcells (L ++ [m]))) : w.ownsRow 0 57 2 (.slice (some ⟨g, 0, none⟩) k c) k (mcells L) := by
  obtain ⟨h1, h2⟩ := h
  have hL : (mcells L).length = k * 2 := by
    simp only [mcells, List.flatMap_append, List.length_append, List.flatMap_cons, List.flatMap_nil, List.append_nil, mb_len] at h1 ⊢
    omega
  refine ⟨hL, ?_⟩
  rcases h2 with ⟨e, _⟩ | ⟨g', cap, cur, e, hg, hh, hc, hm, hs, ht⟩
  · cases e
  · obtain ⟨rfl, rfl⟩ : g = g' ∧ c = cap := by simpa using e
    refine .inr ⟨g, c, cur, rfl, hg, hh, by omega, hm, hs, ?_⟩
    have h3 := congrArg (List.take (k * 2)) ht
    rw [List.take_take, show min (k * 2) ((k + 1) * 2) = k * 2 by omega] at h3
    rw [h3]
    simp only [mcells, List.flatMap_append]
    rw [List.take_append_of_le_length (by simp only [mcells] at hL; omega)]
    exact List.take_of_length_le (by simp only [mcells] at hL; omega)
theorem HpIs.popped {g k c q c' : Nat} {L : List Mb} {m : Mb} (hk : L.length = k) (h : HpIs w p n (.slice (some ⟨g, 0, none⟩) (k + 1) c) (.slice (some ⟨q, 0, none⟩) n c') (L ++ [m]) pl) :
    HpIs ((w.setCell ⟨p, 0, none⟩ (.slice (some ⟨g, 0, none⟩) k c)).setCell ⟨q, m.id, none⟩ (.int .i64 (-1))) p n (.slice (some ⟨g, 0, none⟩) k c) (.slice (some ⟨q, 0, none⟩) n c') L (fun x => if x = m.id then -1 else pl x) := by
  have hap := h.apart
  have hgp := (hap.1 g rfl).1
  have hqp := hap.2 q rfl
  have hgq : q ≠ g := by have := (hap.1 g rfl).2; intro e; subst e; exact this rfl
  refine ⟨(h.str.set 0 _).other (a := ⟨q, m.id, none⟩) hqp.symm _, ?_, ?_, h.hn, ?_, ?_⟩
  · have h1 := h.own
    rw [show (L ++ [m]).length = k + 1 by simp [hk]] at h1
    have h2 := own_frm (own_less h1) (((Frm.refl (fun z => z = p ∨ z = q) w).setCell (p := ⟨p, 0, none⟩) (.inl (.inl rfl)) (.slice (some ⟨g, 0, none⟩) k c)).setCell (p := ⟨q, m.id, none⟩) (.inl (.inr rfl)) (.int .i64 (-1))) (fun z hz e => by
      have : g = z := by simpa [Value.ownBlock] using hz
      omega)
    rw [hk]
    exact h2
  · have h0 := own_frm h.pla ((Frm.refl (fun z => z = p) w).setCell (p := ⟨p, 0, none⟩) (.inl rfl) (.slice (some ⟨g, 0, none⟩) k c)) (fun z hz e => by
      have : q = z := by simpa [Value.ownBlock] using hz
      omega)
    have h1 := (h0.stored m.id (.int .i64 (-1))).1
    rw [vals_set] at h1
    refine cast ?_ h1
    congr 1
    refine vals_congr fun x _ => ?_
    by_cases e : x = m.id
    · rw [if_pos e, if_pos e]
    · rw [if_neg e, if_neg e]
  · intro i m' hm
    have hi := (List.getElem?_eq_some_iff.1 hm).1
    have hm' : (L ++ [m])[i]? = some m' := by rw [List.getElem?_append_left hi]; exact hm
    have hne : ¬ m'.id = m.id := fun e => by
      have := h.inj hm' (k := L.length) (b := m) (by simp) e
      omega
    have := h.pos i m' hm'
    simp [hne, this]
  · intro x hx hm
    by_cases e : x = m.id
    · simp [e]
    · simp only [e, if_false]
      refine h.out x hx fun m' hm' => ?_
      rcases List.mem_append.1 hm' with h' | h'
      · exact hm m' h'
      · simp at h'; subst h'; exact fun e' => e e'.symm
theorem drop_none (h : HpIs w p n v vp M pl) (id : Int) (hno : ∀ (m : Mb), m ∈ M → (m.id : Int) ≠ id) :
    Calls Try.prog 14 #[.pointer (some ⟨p, 0, none⟩), .int .i64 id] w fun e w' => e = .returned (.int .i64 6) ∧ w = w' := by
  obtain ⟨q, c', rfl, hq, hc', hpl, hqf, hqp⟩ := h.place
  have h1 := h.c1
  have hi := is_c h id
  by_cases hb : 0 ≤ id ∧ id < n
  · obtain ⟨j, rfl⟩ : ∃ j : Nat, id = j := ⟨id.toNat, by omega⟩
    have hj : j < n := by omega
    have p1 := hpl j hj
    rw [h.out j hj (fun m hm e => hno m hm (by omega))] at p1
    rw [show isB n j = true by simp [isB]; omega] at hi
    have HI := Lib.hid hi
    have i2 : (j : Int) < (n : Int) := by omega
    clear h hpl hqf hi hno hb
    go_enter Try.func14, Try.ntmps14
    go_wp2_with fail
    with_reducible refine HI.out.mono ?_
    rintro e w3 ⟨rfl, rfl⟩
    go_wp2_with fail
    go_ret
    exact ⟨rfl, rfl⟩
  · rw [show isB n id = false by simp [isB]; omega] at hi
    have HI := Lib.hid hi
    clear h hpl hqf hi hno hb
    go_enter Try.func14, Try.ntmps14
    go_wp2_with fail
    with_reducible refine HI.out.mono ?_
    rintro e w3 ⟨rfl, rfl⟩
    go_wp2_with fail
    go_ret
    exact ⟨rfl, rfl⟩
set_option maxRecDepth 100000 in
set_option maxHeartbeats 2000000 in
theorem drop_some (h : HpIs w p n v vp M pl) {i : Nat} {m : Mb} (hm : M[i]? = some m) :
    Calls Try.prog 14 #[.pointer (some ⟨p, 0, none⟩), .int .i64 m.id] w fun e w' => e = .returned (.int .i64 0) ∧
      (∃ (v' : Value) (L : List Mb) (l : Mb) (pl' : Nat → Int), M[M.length - 1]? = some l ∧ sw M i (M.length - 1) m l = L ++ [m] ∧ HpIs w' p n v' vp (mendF L i) pl' ∧ v'.ownBlock = v.ownBlock) ∧ Frm (Ter p v vp) w w' := by
  have hl := h.len
  have hn := h.hn
  have hil := (List.getElem?_eq_some_iff.1 hm).1
  obtain ⟨k, hk⟩ : ∃ k, M.length = k + 1 := ⟨M.length - 1, by omega⟩
  rw [show M.length - 1 = k by omega]
  obtain ⟨l, hlast⟩ : ∃ l, M[k]? = some l := ⟨_, List.getElem?_eq_getElem (by omega)⟩
  obtain ⟨g, c, rfl, hg, hc, hgp, hgq⟩ := h.elem hm
  obtain ⟨q, c', rfl, hq, hc', hpl, hqf, hqp⟩ := h.place
  have h0 := h.c0
  have h1 := h.c1
  obtain ⟨b0, b1⟩ := h.pos _ _ hm
  have p1 := hpl _ b0
  rw [b1] at p1
  have i1 : (i : Int) < (M.length : Int) := by omega
  have i2 : (m.id : Int) < (n : Int) := by omega
  have e1 : ((i : Int) == -1) = false := by simp
  have q1 : (M.length : Int) - 1 = (k : Int) := by omega
  have hi := is_c h m.id
  rw [show isB n m.id = true by simp [isB]; omega] at hi
  have HI := Lib.hid hi
  have HM := Lib.hid hm
  obtain ⟨L, hL⟩ : ∃ L, sw M i k m l = L ++ [m] := by
    have hlen : (sw M i k m l).length = k + 1 := by rw [sw_len, hk]
    refine ⟨(sw M i k m l).take k, ?_⟩
    apply List.ext_getElem?
    intro x
    rcases Nat.lt_trichotomy x k with hx | hx | hx
    · rw [List.getElem?_append_left (by simp; omega), List.getElem?_take_of_lt hx]
    · subst hx
      rw [List.getElem?_append_right (by simp; omega)]
      simp only [List.length_take, hlen, show min x (x + 1) = x by omega, Nat.sub_self]
      simp [sw, hk]
    · rw [List.getElem?_eq_none (by omega), List.getElem?_eq_none (by simp; omega)]
  have hLk : L.length = k := by
    have := congrArg List.length hL
    rw [sw_len, hk] at this
    simpa using this.symm
  have HH := Lib.hid h
  have HLast := Lib.hid hlast
  have HL := Lib.hid hL
  have HLK := Lib.hid hLk
  have HK := Lib.hid hk
  clear h hm b1 hpl hqf hi hlast hL hLk
  go_enter Try.func14, Try.ntmps14
  go_wp2_with fail
  with_reducible refine HI.out.mono ?_
  rintro e w3 ⟨rfl, rfl⟩
  clear HI
  go_wp2_with fail
  go_quiet (fail)
  go_wp2_with fail
  with_reducible refine (swap_c (HH.out.keep ((Frm.refl _ _).drewN nq)) HM.out HLast.out).mono ?_
  rintro e w4 ⟨rfl, ⟨pl4, h4⟩, hf4⟩
  rw [HL.out, hk] at h4
  rw [hk] at hf4
  have hc2 : k ≤ c := by omega
  have hc3 : (k : Int) ≤ (c : Int) := by omega
  have F4 := Lib.hid (((Frm.refl _ w).drewN nq).trans hf4)
  have x0 := h4.c0
  have x1 := h4.c1
  have xf := h4.fp 0
  obtain ⟨q', c'', hqe, _, _, hpl2, hqf2, _⟩ := h4.place
  obtain ⟨rfl, rfl⟩ : q = q' ∧ c' = c'' := by simpa using hqe
  have x2 := hpl2 _ b0
  have x3 := hqf2 m.id
  have H4 := Lib.hid (h4.popped HLK.out)
  clear h4 hf4 hpl2 hqf2 hqe h0 h1 p1
  go_wp2_with fail
  go_region
  all_goals
    go_wp2_with fail
    with_reducible refine (mend_c (H4.out.keep (Frm.refl _ _).drew) i).mono ?_
    rintro e w5 ⟨rfl, ⟨pl5, h5⟩, hf5⟩
    have H5 := Lib.hid h5
    have F5 := Lib.hid hf5
    clear h5 hf5
    go_wp2_with fail
    go_ret
    refine ⟨rfl, ⟨_, L, l, pl5, HLast.out, HL.out, H5.out, rfl⟩, ?_⟩
    rw [hk]
    exact (((F4.out.setCell (p := ⟨p, 0, none⟩) (.inl (.inl rfl)) _).setCell (p := ⟨q, m.id, none⟩) (.inl (.inr (.inr rfl))) _).drew).trans (F5.out.mono fun k _ e => e)
end
end Go.Proofs.Yteclboaeoohfoaa
