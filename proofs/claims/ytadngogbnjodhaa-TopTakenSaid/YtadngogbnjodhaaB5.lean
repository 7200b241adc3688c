/- New: the walk. -/
import Derived.Test.YtadngogbnjodhaaB4
namespace Go.Proofs.Ytadngogbnjodhaa
open Go.RowKit
theorem info55 : (Try.prog.info? 55).map (fun i => (i.zero, i.size, i.bytes)) = some (some (.pointer none), 1, 8) := by kernel_rfl
theorem info63 : (Try.prog.info? 63).map (fun i => (i.zero, i.size, i.bytes)) = some (some (.pointer none), 1, 8) := by kernel_rfl
/-- append of a pointer at a step of a region that draws. -/
theorem step_ptr {ops : Array Oper} {o : Oper} {a : Act} {K : Act → World → Prop} {Q : Exit → Act → World → Prop} {E : Prop} (t e : TypeId) (ht : Try.prog.underlying t = some (.slice e)) (hinfo : (Try.prog.info? e).map (fun i => (i.zero, i.size, i.bytes)) = some (some (.pointer none), 1, 8))
    (w : World) (dt : Tmp) (hd : o.dst = some dt) (hgd : o.guard = none) (s x : Operand) (ho : o.op = .call { callee := .builtin .append, args := #[s, x], argTypes := #[t, t] }) (base : Nat)
    (v : Value) (k : Nat) (xs : List Value) (hs : a.eval s = v) (hown : w.ownsRow base e 1 v k xs) (p B : Nat) (hx : a.eval x = .slice (some ⟨B, 0, none⟩) 1 1) (hB : w.heap[B]? = some (.cells #[.pointer (some ⟨p, 0, none⟩)] e (0, 0)))
    (hk : k < 1000000000) (hbase : base ≤ w.heap.size)
    (h : ∀ g' cap w', w'.ownsRow base e 1 (.slice (some ⟨g', 0, none⟩) (k + 1) cap) (k + 1) (xs ++ [.pointer (some ⟨p, 0, none⟩)]) → Frm (fun k => v.ownBlock = some k) w w' → K (a.put (some dt) (.slice (some ⟨g', 0, none⟩) (k + 1) cap)) w') :
    if Region.wanted o (yielded ops a.tmps) = true then Oper.wp Try.prog o a w K Q else E := by
  obtain ⟨i0, hi, hz0, hz1, hz2⟩ := info_parts hinfo
  refine step_append_lies w hgd s x t ho base e i0 _ 1 8 ht hi hz0 hz1 hz2 rfl (by decide) v k xs hs hown ⟨B, 0, none⟩ 1 1 [.pointer (some ⟨p, 0, none⟩)] hx rfl (World.news_of_block hB) (by intro u hu; simp at hu; subst hu; rfl) (by omega) (by unfold maxLen; omega) (by omega) hbase _ rfl ?_
  intro g cap w1 h1 h2 _ _
  rw [hd]
  exact h _ _ _ h1 ⟨h2.os, h2.tape, h2.output, h2.size, fun j hj hs => h2.block j hj (fun e => hs e.symm)⟩
/-- The same in a region that draws nothing. -/
theorem app_ptr {ops : Array Oper} {rest : List Oper} {o : Oper} {a : Act} {Q : Exit → Act → World → Prop} (t e : TypeId) (ht : Try.prog.underlying t = some (.slice e)) (hinfo : (Try.prog.info? e).map (fun i => (i.zero, i.size, i.bytes)) = some (some (.pointer none), 1, 8))
    (w : World) (hgd : o.guard = none) (s x : Operand) (ho : o.op = .call { callee := .builtin .append, args := #[s, x], argTypes := #[t, t] }) (base : Nat)
    (v : Value) (k : Nat) (xs : List Value) (hs : a.eval s = v) (hown : w.ownsRow base e 1 v k xs) (p B : Nat) (hx : a.eval x = .slice (some ⟨B, 0, none⟩) 1 1) (hB : w.heap[B]? = some (.cells #[.pointer (some ⟨p, 0, none⟩)] e (0, 0)))
    (hk : k < 1000000000) (hbase : base ≤ w.heap.size)
    (h : ∀ g' cap w', w'.ownsRow base e 1 (.slice (some ⟨g', 0, none⟩) (k + 1) cap) (k + 1) (xs ++ [.pointer (some ⟨p, 0, none⟩)]) → Frm (fun k => v.ownBlock = some k) w w' → wpList Try.prog ops Q rest (a.put o.dst (.slice (some ⟨g', 0, none⟩) (k + 1) cap)) w') :
    wpList Try.prog ops Q (o :: rest) a w := by
  obtain ⟨i0, hi, hz0, hz1, hz2⟩ := info_parts hinfo
  refine wpList_append_lies w hgd s x t ho base e i0 _ 1 8 ht hi hz0 hz1 hz2 rfl (by decide) v k xs hs hown ⟨B, 0, none⟩ 1 1 [.pointer (some ⟨p, 0, none⟩)] hx rfl (World.news_of_block hB) (by intro u hu; simp at hu; subst hu; rfl) (by omega) (by unfold maxLen; omega) (by omega) hbase _ rfl ?_
  intro g cap w1 h1 h2 _ _
  exact h _ _ _ h1 ⟨h2.os, h2.tape, h2.output, h2.size, fun j hj hs => h2.block j hj (fun e => hs e.symm)⟩
def Wk.nat (K : TK) : Wk := ⟨(K.P : Nat), (K.C : Nat), (K.Pe : Nat), (K.D : Nat)⟩
theorem TK.ok.wk {K : TK} (h : K.ok) : (Wk.nat K).ok := by
  unfold TK.ok at h; unfold Wk.ok Wk.nat; simp only; omega
/-- The servers that were made. -/
def Made (l : List Sv) (i : Nat) (L : List SrvM) : Prop := L.length = i ∧ ∀ (j : Nat) (s : Sv), j < i → l[j]? = some s → ∃ v, L[j]? = some v ∧ (v.B : Int) = s.bud ∧ (v.Pr : Int) = s.per ∧ v.work = 0 ∧ v.l = [] ∧ v.bn = 0
def cs0 (tau q : Nat) (vt vs : Value) (L : List SrvM) : CS := { tau := tau, q := q, vt := vt, vs := vs, vq := nilS, now := 0, job := none, begun := false, last := 0, L := L }
/-- While servers are made. -/
def Half (w0 : World) (c q : Nat) (K : TK) (l : List Sv) (i : Nat) (wr : World) : Prop :=
  ∃ (tau : Nat) (vt vs : Value) (L : List SrvM), CpuAt wr (fun k => w0.heap.size ≤ k) c K (cs0 tau q vt vs L) ∧ Made l i L ∧ wr.ownsRow w0.heap.size 63 1 vs i (ptrs L) ∧ Frm (fun _ => False) w0 wr
/-- The task is made. -/
structure Base (w0 wr : World) (c q tau : Nat) (K : TK) (vt : Value) : Prop where
  str : VecAt wr c 54 [vt, nilS, .pointer (some ⟨q, 0, none⟩), .int .u64 0]
  tasks : wr.ownsRow w0.heap.size 55 1 vt 1 [.pointer (some ⟨tau, 0, none⟩)]
  task : VecAt wr tau 58 [.int .i64 K.P, .int .u64 K.C, .int .u64 K.Pe, .int .u64 K.D, .pointer none, .bool false, .int .u64 0]
  queue : QAt wr q K.P nilS false
  ge : w0.heap.size ≤ c ∧ w0.heap.size ≤ q ∧ w0.heap.size ≤ tau
  frm : Frm (fun _ => False) w0 wr
theorem base_done {w0 w5 : World} {c q tau : Nat} {K : TK} {vt x0 : Value} (h1 : VecAt w5 c 54 [x0, nilS, .pointer (some ⟨q, 0, none⟩), .int .u64 0]) (h2 : w5.ownsRow w0.heap.size 55 1 vt 1 [.pointer (some ⟨tau, 0, none⟩)])
    (h3 : VecAt w5 tau 58 [.int .i64 K.P, .int .u64 K.C, .int .u64 K.Pe, .int .u64 K.D, .pointer none, .bool false, .int .u64 0]) (h4 : QAt w5 q K.P nilS false) (h5 : w0.heap.size ≤ c ∧ w0.heap.size ≤ q ∧ w0.heap.size ≤ tau) (h6 : Frm (fun _ => False) w0 w5) :
    Base w0 (w5.setCell ⟨c, 0, none⟩ vt) c q tau K vt := by
  have hf : Frm (fun k => k = c) w5 (w5.setCell ⟨c, 0, none⟩ vt) := (Frm.refl (fun k => k = c) w5).setCell (p := ⟨c, 0, none⟩) (.inl rfl) _
  have no : ∀ k e, Ty w5 k e → e ≠ 54 → ¬ k = c := fun k e ht he e2 => by subst e2; exact he (ht.det h1.ty)
  exact ⟨h1.set 0 vt, own_frm h2 hf (fun k hk => no _ _ (own_ty h2 hk) (by decide)), h3.frm hf (no _ _ h3.ty (by decide)), h4.frm hf (no _ _ h4.str.ty (by decide)) (fun k hk => no _ _ (own_ty h4.own hk) (by decide)), h5, (h6.of_none.trans (hf.mono (T := fun k => w0.heap.size ≤ k) fun k _ e => by omega)).down⟩
theorem Base.cpu {w0 wr : World} {c q tau : Nat} {K : TK} {vt : Value} (h : Base w0 wr c q tau K vt) (hK : K.ok) : CpuAt wr (fun k => w0.heap.size ≤ k) c K (cs0 tau q vt nilS []) := by
  obtain ⟨g1, g2, g3⟩ := h.ge
  refine ⟨⟨h.str, ?_, World.ownsRow_nil _ _ _ _, g1⟩, ⟨h.task, fun j hj => (by cases hj), h.queue, g3, g2, fun k hk => (by cases hk)⟩, ⟨fun i v hi => by simp [cs0] at hi, fun i j v u hi => by simp [cs0] at hi⟩, hK, ⟨by show 0 < 100000; omega, Nat.le_refl _, by show 0 ≤ 16; omega⟩, fun i v hi => by simp [cs0] at hi⟩
  have := h.tasks
  refine ⟨this.1, ?_⟩
  rcases this.2 with h | ⟨k, cap, cur, rfl, hk, hr⟩
  · exact .inl h
  · exact .inr ⟨k, cap, cur, rfl, by omega, hr⟩
theorem own_any {w : World} {base n : Nat} {e : TypeId} {size : Nat} {v : Value} {xs : List Value} (h : w.ownsRow base e size v n xs) : w.ownsRow 0 e size v n xs := by
  refine ⟨h.1, ?_⟩
  rcases h.2 with h | ⟨k, cap, cur, rfl, hk, hr⟩
  · exact .inl h
  · exact .inr ⟨k, cap, cur, rfl, by omega, hr⟩
theorem half_next {w0 w8 w9 : World} {c q tau bb k m : Nat} {K : TK} {vt vs vs' : Value} {L : List SrvM} {l : List Sv} {s : Sv} (H1 : CpuAt w8 (fun k => w0.heap.size ≤ k) c K (cs0 tau q vt vs L)) (H2 : Made l k L) (O8 : w8.ownsRow w0.heap.size 63 1 vs k (ptrs L)) (F8 : Frm (fun _ => False) w0 w8)
    (HBB : VecAt w8 bb 81 [.int .i64 s.bud, .int .u64 s.per, .slice none 0 0, .int .u64 0]) (fresh : ∀ (i : Nat) (u : SrvM), L[i]? = some u → u.sb < m ∧ u.bb < m) (hbl : m ≤ bb) (hm : m ≤ w8.heap.size) (hm0 : w0.heap.size ≤ m) (hs : l[k]? = some s) (hsf : s.fit) (hk16 : k < 16)
    (F9 : Frm (fun k => vs.ownBlock = some k) ((w8.alloc (.cells #[.pointer (some ⟨bb, 0, none⟩), .int .u64 0] 65)).alloc (.cells #[.pointer (some ⟨w8.heap.size, 0, none⟩)] 63)) w9)
    (HO : w9.ownsRow w0.heap.size 63 1 vs' (k + 1) (ptrs L ++ [.pointer (some ⟨w8.heap.size, 0, none⟩)])) : Half w0 c q K l (k + 1) (w9.setCell ⟨c, 1, none⟩ vs') := by
  obtain ⟨g1, g2, g3, g4⟩ := hsf
  have eB : ((s.bud.toNat : Nat) : Int) = s.bud := by omega
  have eP : ((s.per.toNat : Nat) : Int) = s.per := by omega
  have fW : Frm (fun _ => False) w8 ((w8.alloc (.cells #[.pointer (some ⟨bb, 0, none⟩), .int .u64 0] 65)).alloc (.cells #[.pointer (some ⟨w8.heap.size, 0, none⟩)] 63)) := ((Frm.refl _ w8).alloc _).alloc _
  have hsb0 : VecAt ((w8.alloc (.cells #[.pointer (some ⟨bb, 0, none⟩), .int .u64 0] 65)).alloc (.cells #[.pointer (some ⟨w8.heap.size, 0, none⟩)] 63)) w8.heap.size 65 [.pointer (some ⟨bb, 0, none⟩), .int .u64 0] := (VecAt.new w8 65 _).alloc _
  have hvt : ∀ k, vs.ownBlock = some k → Ty w8 k 63 := fun k hk => own_ty O8 hk
  have hvl : ∀ k, vs.ownBlock = some k → k < w8.heap.size := fun k hk => by obtain ⟨cur, fr, hb⟩ := hvt k hk; exact lt_of_block hb
  have f89 : Frm (fun k => vs.ownBlock = some k) w8 w9 := fW.of_none.trans F9
  have f9c : Frm (fun k => k = c) w9 (w9.setCell ⟨c, 1, none⟩ vs') := (Frm.refl (fun k => k = c) w9).setCell (p := ⟨c, 1, none⟩) (.inl rfl) _
  have f : Frm (fun k => vs.ownBlock = some k ∨ k = c) w8 (w9.setCell ⟨c, 1, none⟩ vs') := (f89.mono fun k _ e => .inl e).trans (f9c.mono fun k _ e => .inr e)
  have ho : Off w8 (fun k => vs.ownBlock = some k ∨ k = c) [55, 58, 70, 76, 3, 65, 81, 22] := fun k hk => by
    rcases hk with e | e
    · exact ⟨_, hvt k e, by decide⟩
    · rw [e]; exact ⟨_, H1.core.str.ty, by decide⟩
  have hcv : ¬ vs.ownBlock = some c := fun e => absurd ((hvt c e).det H1.core.str.ty) (by decide)
  have hc9 := H1.core.str.frm f89 hcv
  have hO5 : (w9.setCell ⟨c, 1, none⟩ vs').ownsRow w0.heap.size 63 1 vs' (k + 1) (ptrs L ++ [.pointer (some ⟨w8.heap.size, 0, none⟩)]) := own_frm HO f9c (fun j hj e => by
    have := own_ty HO hj
    rw [e] at this
    exact absurd (this.det hc9.ty) (by decide))
  have hptr : ptrs (L ++ [(⟨w8.heap.size, bb, s.bud.toNat, s.per.toNat, 0, [], 0⟩ : SrvM)]) = ptrs L ++ [.pointer (some ⟨w8.heap.size, 0, none⟩)] := by simp [ptrs]
  have hL : (L ++ [(⟨w8.heap.size, bb, s.bud.toNat, s.per.toNat, 0, [], 0⟩ : SrvM)]).length = k + 1 := by simp [H2.1]
  have hnew : SrvAt (w9.setCell ⟨c, 1, none⟩ vs') (fun k => w0.heap.size ≤ k) ⟨w8.heap.size, bb, s.bud.toNat, s.per.toNat, 0, [], 0⟩ := by
    have hc8 := H1.core.str.lt
    refine ⟨(hsb0.frm F9 (fun e => by have := hvl _ e; omega)).frm f9c (by omega), ⟨none, 0, ?_, ⟨by simp, fun h => by simp at h⟩, .inl rfl, by simp⟩, ⟨by show 1 ≤ s.bud.toNat ∧ s.bud.toNat ≤ 200; omega, by show s.per.toNat ≤ 1073741824; omega, by simp, by simp⟩, by show w0.heap.size ≤ w8.heap.size; omega, by show w0.heap.size ≤ bb; omega⟩
    simp only [eB, eP]
    exact HBB.frm f (ho.no HBB.ty (by decide))
  have hgetn : ∀ (i : Nat) (v : SrvM), (L ++ [(⟨w8.heap.size, bb, s.bud.toNat, s.per.toNat, 0, [], 0⟩ : SrvM)])[i]? = some v → L[i]? = some v ∨ (i = k ∧ v = ⟨w8.heap.size, bb, s.bud.toNat, s.per.toNat, 0, [], 0⟩) := fun i v hi => by
    by_cases h : i < L.length
    · rw [List.getElem?_append_left h] at hi; exact .inl hi
    · have hil := (List.getElem?_eq_some_iff.1 hi).1
      rw [hL] at hil
      have hik : i = k := by have := H2.1; omega
      subst hik
      rw [List.getElem?_append_right (by have := H2.1; omega), H2.1, Nat.sub_self] at hi
      simp at hi
      exact .inr ⟨rfl, hi.symm⟩
  refine ⟨tau, vt, vs', L ++ [⟨w8.heap.size, bb, s.bud.toNat, s.per.toNat, 0, [], 0⟩], ⟨⟨hc9.set 1 vs', own_frm H1.core.tasks f (fun j hj => ho.no (own_ty H1.core.tasks hj) (by decide)), ?_, H1.core.tt⟩, H1.task.frm f (ho.sub (by decide)), ⟨fun i v hi => ?_, fun i j v u hi hj huv => ?_⟩, H1.hK, ⟨H1.hn.1, H1.hn.2.1, ?_⟩, fun i v hi => ?_⟩, ⟨hL, fun j s' hj hs' => ?_⟩, ?_, ?_⟩
  · show (w9.setCell ⟨c, 1, none⟩ vs').ownsRow 0 63 1 vs' (L ++ [_]).length (ptrs (L ++ [_]))
    rw [hL, hptr]
    exact own_any hO5
  · rcases hgetn i v hi with h | ⟨_, rfl⟩
    · have hv := H1.srvs.all i v h
      obtain ⟨A0, c0, hb⟩ := hv.bud
      exact hv.frm f (ho.no hv.str.ty (by decide)) (ho.no hb.str.ty (by decide)) (fun k _ ht => ho.no ht (by decide))
    · exact hnew
  · rcases hgetn i v hi with h | ⟨h, rfl⟩ <;> rcases hgetn j u hj with h' | ⟨h', rfl⟩
    · exact H1.srvs.inj i j v u h h' huv
    · have := fresh i v h
      simp only at huv
      omega
    · have := fresh j u h'
      simp only at huv
      omega
    · omega
  · show (L ++ [_]).length ≤ 16
    rw [hL]; omega
  · rcases hgetn i v hi with h | ⟨_, rfl⟩
    · exact H1.hb i v h
    · exact Nat.le_refl _
  · by_cases e : j = k
    · subst e
      rw [hs] at hs'; injection hs' with hs'; subst hs'
      refine ⟨_, by rw [List.getElem?_append_right (by have := H2.1; omega), H2.1, Nat.sub_self]; rfl, eB, eP, rfl, rfl, rfl⟩
    · obtain ⟨v, h1, h2⟩ := H2.2 j s' (by omega) hs'
      exact ⟨v, by rw [List.getElem?_append_left (List.getElem?_eq_some_iff.1 h1).1]; exact h1, h2⟩
  · rw [hptr]; exact hO5
  · refine (F8.of_none.trans (f.mono (T := fun k => w0.heap.size ≤ k) fun k _ hk => ?_)).down
    rcases hk with e | e
    · exact own_base O8 k e
    · rw [e]; exact H1.core.tt
section
variable {w : World} {K : TK}
set_option maxRecDepth 100000 in
set_option maxHeartbeats 2000000 in
theorem cnew_c (w : World) (K : TK) (hK : K.ok) (bt ot ct : Nat) (ht : RowsAt w (some ⟨bt, ot, none⟩) 4 Wk.enc [Wk.nat K]) (A : Option Addr) (cl : Nat) (l : List Sv) (hl : RowsAt w A 2 Sv.enc l) (hf : fits l) :
    Calls Try.prog 7 #[.slice (some ⟨bt, ot, none⟩) 1 ct, .slice A l.length cl] w fun e w' => ∃ c q, e = .returned (.tuple #[.pointer (some ⟨c, 0, none⟩), .int .i64 0]) ∧ Half w c q K l l.length w' := by
  have HK : Hid (∀ w, Calls Try.prog 15 #[.agg #[.int .i64 K.P, .int .u64 K.C, .int .u64 K.Pe, .int .u64 K.D]] w fun e w' => e = .returned (.bool true) ∧ Frm (fun _ => False) w w') := Lib.hid (fun w => wok_c w (Wk.nat K) hK.wk)
  obtain ⟨bt', ot', e, hbt, hct⟩ := ht.at_ (by simp)
  obtain ⟨rfl, rfl⟩ : bt = bt' ∧ ot = ot' := by simpa using e
  have y0 := hct 0 _ rfl 0 _ rfl
  have y1 := hct 0 _ rfl 1 _ rfl
  have y2 := hct 0 _ rfl 2 _ rfl
  have y3 := hct 0 _ rfl 3 _ rfl
  simp only [Wk.nat, Nat.zero_mul, Nat.add_zero] at y0 y1 y2 y3
  have HL := Lib.hid hl
  have HF := Lib.hid hf
  have hlen := hf.1
  have hP := hK.1
  clear ht hct e hl hf
  go_enter Try.func7, Try.ntmps7
  go_wp2_with fail
  with_reducible refine (qnew_c w hP).mono ?_
  rintro e w1 ⟨rfl, hq, hf1⟩
  have HQ := Lib.hid hq
  have F1 := Lib.hid hf1
  clear hq hf1
  go_wp2_with fail
  refine world_as fun w2 hw2 => ?_
  have hf2 : Frm (fun _ => False) w1 w2 := by rw [hw2]; exact (Frm.refl _ w1).alloc _
  have hc2 : VecAt w2 w1.heap.size 54 [nilS, nilS, .pointer (some ⟨w.heap.size, 0, none⟩), .int .u64 0] := by rw [hw2]; exact VecAt.new w1 54 _
  have s1 := F1.out.size
  generalize hc : w1.heap.size = c at *
  have HQ2 := Lib.hid (HQ.out.keep hf2)
  have F2 := Lib.hid (F1.out.trans hf2)
  have HC2 := Lib.hid hc2
  clear hw2 hf2 hc2 HQ F1 hc
  go_loopw [21] (fun i wr => (i = .int .i64 0 ∧ wr = w2) ∨ (i = .int .i64 1 ∧ Hid (∃ tau vt, Base w wr c w.heap.size tau K vt))) (fun i _ => 1 - (intOf i).toNat)
  case atStart => exact .inl ⟨rfl, rfl⟩
  case round =>
    rcases hrel with ⟨rfl, rfl⟩ | ⟨rfl, HP⟩
    · have z0 := F2.out.cell hbt id y0
      have z1 := F2.out.cell hbt id y1
      have z2 := F2.out.cell hbt id y2
      have z3 := F2.out.cell hbt id y3
      go_wp2_with fail
      with_reducible refine (HK.out _).mono ?_
      rintro e w4 ⟨rfl, hf4⟩
      have hcl := HC2.out.lt
      have hbx := (VecAt.new wr 24 [.int .i64 K.P, .int .u64 K.C, .int .u64 K.Pe, .int .u64 K.D]).keep hf4
      have b0 := hbx.cell (i := 0) rfl
      have b1 := hbx.cell (i := 1) rfl
      have b2 := hbx.cell (i := 2) rfl
      have b3 := hbx.cell (i := 3) rfl
      have HC4 := (HC2.out.alloc (.cells #[.int .i64 K.P, .int .u64 K.C, .int .u64 K.Pe, .int .u64 K.D] 24)).keep hf4
      have c0 : w4.cell? ⟨c, 0, none⟩ = some (.slice none 0 0) := HC4.cell (i := 0) rfl
      have c0f := HC4.frozen 0
      have HC4' := Lib.hid HC4
      have F4 := Lib.hid ((F2.out.alloc (.cells #[.int .i64 K.P, .int .u64 K.C, .int .u64 K.Pe, .int .u64 K.D] 24)).trans hf4)
      have HQ4 := Lib.hid ((HQ2.out.keep ((Frm.refl _ wr).alloc (.cells #[.int .i64 K.P, .int .u64 K.C, .int .u64 K.Pe, .int .u64 K.D] 24))).keep hf4)
      have L4 := HC4.lt
      clear hf4 HC4 hbx z0 z1 z2 z3
      have m0 : ∀ X, (w4.alloc X).cell? ⟨c, 0, none⟩ = some (.slice none 0 0) := fun X => (World.cell?_alloc_past (w := w4) X c 0 L4).trans c0
      have m1 : ∀ X Y, ((w4.alloc X).alloc Y).cell? ⟨c, 0, none⟩ = some (.slice none 0 0) := fun X Y => (World.cell?_alloc_past (w := w4.alloc X) Y c 0 (by rw [World.size_alloc]; omega)).trans (m0 X)
      go_wp2_with fail
      go_region_law (refine step_ptr 51 55 Try.underlying51 info55 _ 37 rfl rfl (.tmp 32) (.tmp 36) rfl w.heap.size (.slice none 0 0) 0 [] rfl (World.ownsRow_nil _ _ _ _) w4.heap.size (w4.heap.size + 1) rfl (by have h9 := heap_alloc_new (w4.alloc (.cells #[.int .i64 K.P, .int .u64 K.C, .int .u64 K.Pe, .int .u64 K.D, .pointer none, .bool false, .int .u64 0] 58)) (.cells #[.pointer (some ⟨w4.heap.size, 0, none⟩)] 55); rw [World.size_alloc] at h9; exact h9) (by omega) (by show w.heap.size ≤ ((w4.alloc _).alloc _).heap.size; rw [World.size_alloc, World.size_alloc]; have := F4.out.size; omega) ?_; intro g' cap w5 hown hf1; have HO := Lib.hid hown; have hf5 : Frm (fun _ => False) w4 w5 := (((Frm.refl (fun _ => False) w4).alloc _).alloc _).trans (Frm.mono (T := fun _ => False) ⟨hf1.os, hf1.tape, hf1.output, hf1.size, hf1.block⟩ (fun k _ e => by simp [Value.ownBlock] at e)); have HT := Lib.hid ((VecAt.new w4 58 [.int .i64 K.P, .int .u64 K.C, .int .u64 K.Pe, .int .u64 K.D, .pointer none, .bool false, .int .u64 0]).alloc (.cells #[.pointer (some ⟨w4.heap.size, 0, none⟩)] 55) |>.keep (w' := w5) ⟨hf1.os, hf1.tape, hf1.output, hf1.size, fun k hk hs => hf1.block k hk (fun e => by simp [Value.ownBlock] at e)⟩); have F5 := Lib.hid hf5; have k1 := hf5.cell L4 id c0; have kf := hf5.frozen L4 id c0f; clear hown hf1 hf5)
      all_goals
        go_wp2_with fail
        go_roundw
        case rel => exact .inr ⟨rfl, Lib.hid ⟨_, _, base_done (HC4'.out.keep F5.out) HO.out HT.out (HQ4.out.keep F5.out) ⟨s1, Nat.le_refl _, F4.out.size⟩ (F4.out.trans F5.out)⟩⟩
        case measure => simp [intOf]
    · obtain ⟨tau, vt, hB⟩ := HP.out
      have HB := Lib.hid hB
      clear hB HP
      have HALL := Lib.hid (all_c wr A cl l (HL.out.via HB.out.frm (fun _ _ _ => id)) HF.out)
      go_wp2_with fail
      with_reducible refine HALL.out.mono ?_
      rintro e w6 ⟨rfl, hf6⟩
      have H6 : Hid (Half w c w.heap.size K l 0 w6) := Lib.hid ⟨tau, vt, nilS, [], (HB.out.cpu hK).keep hf6, ⟨rfl, fun j s hj => by omega⟩, World.ownsRow_nil _ _ _ _, HB.out.frm.trans hf6⟩
      clear hf6 HALL HB
      go_wp2_with fail
      go_loopw [46] (fun i wr => ∃ k : Nat, k ≤ l.length ∧ i = .int .i64 k ∧ Hid (Half w c w.heap.size K l k wr)) (fun i _ => l.length - (intOf i).toNat)
      case atStart => exact ⟨0, by omega, rfl, H6⟩
      case round =>
        obtain ⟨k, hk, rfl, HP⟩ := hrel
        clear H6
        by_cases hlt : k < l.length
        · have e1 : decide (k < l.length) = true := by simpa using hlt
          obtain ⟨tau, vt, vs, L, h1, h2, h3, h4⟩ := HP.out
          obtain ⟨b, off, rfl, hb, hc⟩ := cellS HL.out (by omega)
          obtain ⟨s, hs⟩ : ∃ s, l[k]? = some s := ⟨_, List.getElem?_eq_getElem hlt⟩
          obtain ⟨x0, x1⟩ := hc k s hs
          have x0 := h4.cell hb id x0
          have x1 := h4.cell hb id x1
          have hsf := HF.out.2 k s hs
          have HS := Lib.hid hs
          have HSO := Lib.hid hsf.ok
          have HSF := Lib.hid hsf
          have H1 := Lib.hid h1
          have H2 := Lib.hid h2
          have H3 := Lib.hid h3
          have H4 := Lib.hid h4
          clear h1 h2 h3 h4 hc hs hsf HP
          go_wp2_with fail
          with_reducible refine (snew_c _ s HSO.out).mono ?_
          rintro e w8 ⟨bb, rfl, hbb, hbl, hf8⟩
          have C8 := Lib.hid ((H1.out.keep ((Frm.refl _ wr).alloc (.cells #[.int .i64 s.bud, .int .u64 s.per] 47))).keep hf8)
          have O8 := Lib.hid (own_frm (own_frm H3.out ((Frm.refl (fun _ => False) wr).alloc (.cells #[.int .i64 s.bud, .int .u64 s.per] 47)) (fun _ _ => id)) hf8 (fun _ _ => id))
          have F8 := Lib.hid ((H4.out.alloc (.cells #[.int .i64 s.bud, .int .u64 s.per] 47)).trans hf8)
          have HBB := Lib.hid hbb
          have fresh : Hid (∀ (i : Nat) (u : SrvM), L[i]? = some u → u.sb < wr.heap.size ∧ u.bb < wr.heap.size) := Lib.hid (fun i u hu => by
            have h9 := H1.out.srvs.all i u hu
            obtain ⟨_, _, h10⟩ := h9.bud
            exact ⟨h9.str.lt, h10.str.lt⟩)
          rw [World.size_alloc] at hbl
          have L8 : c < w8.heap.size := C8.out.core.str.lt
          have c1 : w8.cell? ⟨c, 1, none⟩ = some vs := C8.out.c1
          have c1f := C8.out.core.str.frozen 1
          have hcv : ¬ vs.ownBlock = some c := fun e => absurd ((own_ty O8.out e).det C8.out.core.str.ty) (by decide)
          obtain ⟨A2, cp2, hvs⟩ := own_slice O8.out
          have hs8 := F8.out.size
          have hsz8 := hf8.size
          rw [World.size_alloc] at hsz8
          have HVS := Lib.hid hvs
          rw [hvs] at c1
          have m1 : ∀ X Y, ((w8.alloc X).alloc Y).cell? ⟨c, 1, none⟩ = some (.slice A2 k cp2) := fun X Y => ((((Frm.refl (fun _ => False) w8).alloc X).alloc Y).cell L8 id c1)
          have m0 : ∀ X, (w8.alloc X).cell? ⟨c, 1, none⟩ = some (.slice A2 k cp2) := fun X => (((Frm.refl (fun _ => False) w8).alloc X).cell L8 id c1)
          clear hf8 hbb hvs
          go_wp2_with (at_builtin; refine app_ptr 52 63 Try.underlying52 info63 _ rfl (.tmp 62) (.tmp 66) rfl w.heap.size (.slice A2 k cp2) k (ptrs L) rfl (by rw [← HVS.out]; exact own_frm O8.out (((Frm.refl (fun _ => False) w8).alloc _).alloc _) (fun _ _ => id)) w8.heap.size (w8.heap.size + 1) rfl (by have h9 := heap_alloc_new (w8.alloc (.cells #[.pointer (some ⟨bb, 0, none⟩), .int .u64 0] 65)) (.cells #[.pointer (some ⟨w8.heap.size, 0, none⟩)] 63); rw [World.size_alloc] at h9; exact h9) (by omega) (by rw [World.size_alloc, World.size_alloc]; omega) ?_; intro g' cap w9 hown hf9; have HO := Lib.hid hown; have F9 := Lib.hid hf9; have k1 := hf9.cell (by rw [World.size_alloc, World.size_alloc]; omega) (by rw [← HVS.out]; exact hcv) (m1 _ _); have kf := hf9.frozen (x := false) (by rw [World.size_alloc, World.size_alloc]; omega) (by rw [← HVS.out]; exact hcv) ((((Frm.refl (fun _ => False) w8).alloc _).alloc _).frozen L8 id c1f); clear hown hf9)
          go_roundw
          case rel => exact ⟨k + 1, by omega, by go_num, Lib.hid (half_next C8.out H2.out O8.out F8.out HBB.out fresh.out (by omega) (by omega) (by have := H4.out.size; omega) HS.out HSF.out (by omega) (by rw [HVS.out]; exact F9.out) HO.out)⟩
          case measure => simp [intOf]; omega
        · have e1 : decide (k < l.length) = false := by simpa using hlt
          obtain rfl : k = l.length := by omega
          go_wp2_with fail
          go_ret2
          exact ⟨c, w.heap.size, rfl, HP.out⟩
end
end Go.Proofs.Ytadngogbnjodhaa
