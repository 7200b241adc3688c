/- Put. -/
import Derived.Test.YteclboaeoohfoaaH7
import Derived.Deep.DeepCutAuto
import Derived.Deep.CutBlock
namespace Go.Proofs.Yteclboaeoohfoaa
open Go.RowKit
def PutM (M Mx : List Mb) (j : Nat) (key : Int) (i : Nat) : Prop := (∃ m, M[i]? = some m ∧ m.id = j ∧ Mx = M.set i ⟨j, key⟩) ∨ ((∀ (m : Mb), m ∈ M → m.id ≠ j) ∧ i = M.length ∧ Mx = M ++ [⟨j, key⟩])
def MidP (w wx : World) (p n : Nat) (v vp : Value) (M : List Mb) (j : Nat) (key : Int) : Prop :=
  ∃ (v1 : Value) (M1 : List Mb) (pl1 : Nat → Int) (i : Nat) (m1 : Mb), M1[i]? = some m1 ∧ m1.id = j ∧ pl1 j = (i : Int) ∧ HpIs wx p n v1 vp M1 pl1 ∧ PutM M (M1.set i ⟨j, key⟩) j key i ∧ (∀ k, v1.ownBlock = some k → v.ownBlock = some k ∨ w.heap.size ≤ k) ∧ Frm (Ter p v vp) w wx
theorem Frm.later {S T : Nat → Prop} {a b c : World} (h : Frm S a b) (k : Frm T b c) (hst : ∀ i, T i → S i ∨ a.heap.size ≤ i) : Frm S a c :=
  ⟨k.os.trans h.os, k.tape.trans h.tape, k.output.trans h.output, Nat.le_trans h.size k.size,
   fun i hi hs => (k.block i (Nat.lt_of_lt_of_le hi h.size) (fun ht => by rcases hst i ht with e | e; exact hs e; omega)).trans (h.block i hi hs)⟩
section
variable {w : World} {p n : Nat} {v vp : Value} {M : List Mb} {pl : Nat → Int}
theorem put_arg (h : HpIs w p n v vp M pl) (id key : Int) (hb : isB n id = false) :
    Calls Try.prog 12 #[.pointer (some ⟨p, 0, none⟩), .int .i64 id, .int .u64 key] w fun e w' => e = .returned (.int .i64 1) ∧ w = w' := by
  have hi := is_c h id
  rw [hb] at hi
  have HI := Lib.hid hi
  clear h hi hb
  go_enter Try.func12, Try.ntmps12
  go_wp2_with fail
  with_reducible refine HI.out.mono ?_
  rintro e w3 ⟨rfl, rfl⟩
  go_wp2_with fail
  go_ret
  exact ⟨rfl, rfl⟩
set_option maxRecDepth 100000 in
set_option maxHeartbeats 2000000 in
theorem put_ok (h : HpIs w p n v vp M pl) {j : Nat} (hj : j < n) (key : Int) :
    Calls Try.prog 12 #[.pointer (some ⟨p, 0, none⟩), .int .i64 j, .int .u64 key] w fun e w' => e = .returned (.int .i64 0) ∧
      (∃ (v' : Value) (Mx : List Mb) (i : Nat) (pl' : Nat → Int), PutM M Mx j key i ∧ HpIs w' p n v' vp (mendF Mx i) pl' ∧ ∀ k, v'.ownBlock = some k → v.ownBlock = some k ∨ w.heap.size ≤ k) ∧ Frm (Ter p v vp) w w' := by
  have hi := is_c h j
  rw [show isB n j = true by simp [isB]; omega] at hi
  have HI := Lib.hid hi
  have hl := h.len
  have hn := h.hn
  obtain ⟨q, c', rfl, hq, hc', hpl, hqf, hqp⟩ := h.place
  have h1 := h.c1
  have p1 := hpl j hj
  have i2 : (j : Int) < (n : Int) := by omega
  have HH := Lib.hid h
  have qf := hqf j
  have hpw := h.lt
  have hpf := h.fp 0
  clear h hi hpl hqf
  go_enter Try.func12, Try.ntmps12
  go_wp2_with fail
  with_reducible refine HI.out.mono ?_
  rintro e w3 ⟨rfl, rfl⟩
  clear HI
  go_upto_if 19 with (fail)
  go_cut [] (fun wx => Hid (MidP w wx p n v (.slice (some ⟨q, 0, none⟩) n c') M j key))
  case first =>
    by_cases hmem : ∃ (i : Nat) (m : Mb), M[i]? = some m ∧ m.id = j
    · obtain ⟨i, m, hm, rfl⟩ := hmem
      have hp2 := (HH.out.pos i m hm).2
      rw [hp2] at p1 ⊢
      have e1 : ((i : Int) == -1) = false := by simp
      have HM : Hid (MidP w w p n v (.slice (some ⟨q, 0, none⟩) n c') M m.id key) := Lib.hid ⟨v, M, pl, i, m, hm, rfl, hp2, HH.out, .inl ⟨m, hm, rfl, rfl⟩, fun k hk => .inl hk, Frm.refl _ _⟩
      clear hm hp2
      go_wp2_with fail
      go_meet
      exact HM
    · have hno : ∀ (m : Mb), m ∈ M → m.id ≠ j := fun m hm e => by
        obtain ⟨i, hi⟩ := List.getElem?_of_mem hm
        exact hmem ⟨i, m, hi, e⟩
      have hp2 := HH.out.out j hj hno
      rw [hp2] at p1 ⊢
      obtain ⟨A, c, rfl⟩ := HH.out.list
      have h0 := HH.out.c0
      have HNO := Lib.hid hno
      have hap := HH.out.apart
      have HW1 := Lib.hid ((((Frm.refl (fun k => k = q) w).setCell (p := ⟨q, j, none⟩) (.inl rfl) (.int .i64 M.length)).alloc (.cells #[.int .i64 j, .int .u64 0] 57)).drew)
      have HO := Lib.hid (own_frm HH.out.own HW1.out (fun k hk e => (hap.1 k hk).2 (by rw [e]; rfl)))
      have HB : Hid (((w.setCell ⟨q, j, none⟩ (.int .i64 M.length)).alloc (.cells #[.int .i64 j, .int .u64 0] 57)).drew.heap[w.heap.size]? = some (.cells (Mb.mk j 0).cells.toArray 57 (0, 0))) := Lib.hid (by
        have h9 := heap_alloc_new (w.setCell ⟨q, j, none⟩ (.int .i64 M.length)) (.cells #[.int .i64 j, .int .u64 0] 57)
        have e9 : (w.setCell ⟨q, j, none⟩ (.int .i64 M.length)).heap.size = w.heap.size := by simp [World.setCell]
        rw [e9] at h9
        exact h9)
      have hqs : ¬ p = q := fun e => hqp e.symm
      have HPN : Hid (¬ (Value.slice A M.length c).ownBlock = some p) := Lib.hid (fun e => (hap.1 p e).1 rfl)
      have HC0 := Lib.hid (HW1.out.cell hpw hqs h0)
      have HC1 := Lib.hid (HW1.out.frozen hpw hqs hpf)
      have HPW := Lib.hid (Nat.lt_of_lt_of_le hpw HW1.out.size)
      have hpl := Lib.hid (((own_frm HH.out.pla (Frm.refl (fun _ => False) w) (fun _ _ => id)).stored j (.int .i64 M.length)).1)
      clear hno hmem hap
      go_wp2_with fail
      go_region
      all_goals
        go_wp2_with (at_builtin; refine app_mb _ rfl (.tmp 35) (.tmp 38) rfl (.slice A M.length c) M.length (mcells M) rfl HO.out ⟨j, 0⟩ w.heap.size rfl HB.out (by omega) ?_; intro g1 c1 w4 hown4 hf4 hg4; have H4 := Lib.hid hown4; have F4 := Lib.hid hf4; have G4 := Lib.hid hg4; have k4 := hf4.cell HPW.out HPN.out HC0.out; have k5 := hf4.frozen HPW.out HPN.out HC1.out; clear hown4 hf4 hg4)
        go_meet
        have e1 : (vals n fun x => Value.int .i64 (if x = j then (M.length : Int) else pl x)) = (vals n fun i => Value.int .i64 (pl i)).set j (.int .i64 M.length) := by
          rw [vals_set]
          refine vals_congr fun x _ => ?_
          by_cases e : x = j
          · rw [if_pos e, if_pos e]
          · rw [if_neg e, if_neg e]
        have hfa := HW1.out.mono (T := fun k => (Value.slice (some ⟨q, 0, none⟩) n c').ownBlock = some k ∨ (Value.slice A M.length c).ownBlock = some k) (fun k _ e => .inl (by rw [e]; rfl))
        have hfb := hfa.trans (F4.out.mono fun _ _ e => .inr e)
        have hqv : ¬ (Value.slice A M.length c).ownBlock = some q := fun e => (HH.out.apart.1 q e).2 rfl
        have hpla := own_frm (own_frm hpl.out (((Frm.refl (fun _ => False) _).alloc (.cells #[.int .i64 j, .int .u64 0] 57)).drew) (fun _ _ => id)) F4.out (fun k hk e => by
          have : q = k := by simpa [Value.ownBlock] using hk
          exact hqv (by rw [this]; exact e))
        rw [← e1] at hpla
        refine Lib.hid ⟨_, M ++ [⟨j, 0⟩], _, M.length, ⟨j, 0⟩, by simp, rfl, by simp, HH.out.pushed hj HNO.out hfb hpla H4.out, .inr ⟨HNO.out, rfl, by simp⟩, ?_, ?_⟩
        · intro k hk
          have : g1 = k := by simpa [Value.ownBlock] using hk
          subst this
          rcases G4.out with e | e
          · exact .inl e
          · exact .inr (by rw [e]; exact HW1.out.size)
        · exact (hfb.mono (fun k _ e => by
            rcases e with e | e
            · exact .inr (.inr e)
            · exact .inr (.inl e))).setCell (.inl (.inl rfl)) _
  case rest =>
    obtain ⟨v1, M1, pl1, i, m1, hm1, hid, hpi, hh1, hpm, hown1, hfr1⟩ := hcut.out
    subst hid
    have hap := hh1.apart
    obtain ⟨g, c, rfl, hg, hc, hgp, hgq⟩ := hh1.elem hm1
    have hil := (List.getElem?_eq_some_iff.1 hm1).1
    obtain ⟨q', c'', hqe, hq2, hc2, hpl2, hqf2, -⟩ := hh1.place
    obtain ⟨rfl, rfl⟩ : q = q' ∧ c' = c'' := by simpa using hqe
    have k0 := hh1.c0
    have k1 := hh1.c1
    have k2 := hpl2 _ hj
    rw [hpi] at k2
    obtain ⟨k3, k4, k5⟩ := hh1.ecell hm1
    have k6 := k5 (i * 2 + 1)
    have i3 : (i : Int) < (M1.length : Int) := by omega
    have hl1 := hh1.len
    have HK := Lib.hid (hh1.keyed hm1 key)
    have HPM := Lib.hid hpm
    have HF := Lib.hid hfr1
    have HOW := Lib.hid hown1
    clear hcut hh1 hpm hown1 hfr1 hpl2 hqf2 k5 hap hm1 h1 p1 HH hpi
    go_wp2_with fail
    with_reducible refine (mend_c HK.out i).mono ?_
    rintro e w5 ⟨rfl, ⟨pl5, h5⟩, hf5⟩
    have H5 := Lib.hid h5
    have F5 := Lib.hid hf5
    clear h5 hf5
    go_wp2_with fail
    go_ret
    refine ⟨rfl, ⟨_, _, i, pl5, HPM.out, H5.out, HOW.out⟩, ?_⟩
    refine (HF.out.setCell (p := ⟨g, i * 2 + 1, none⟩) ?_ (.int .u64 key)).later F5.out ?_
    · rcases HOW.out g rfl with e | e
      · exact .inl (.inr (.inl e))
      · exact .inr e
    · intro k hk
      rcases hk with e | e | e
      · exact .inl (.inl e)
      · rcases HOW.out k e with e | e
        · exact .inl (.inr (.inl e))
        · exact .inr e
      · exact .inl (.inr (.inr e))
end
end Go.Proofs.Yteclboaeoohfoaa
