/- A server's budget: Left. -/
import Derived.Test.YtadngogbnjodhaaA3
import Derived.Deep.AppendSrc
import Derived.Laws.AppendOwn
namespace Go.Proofs.Ytadngogbnjodhaa
open Go.RowKit
def encN (n : Nat) : List Value := [.int .u64 n]
structure BIs (w : World) (T : Nat → Prop) (b : Nat) (s : Sv) (A : Option Addr) (l : List Nat) (c bn : Nat) : Prop where
  str : VecAt w b 81 [.int .i64 s.bud, .int .u64 s.per, .slice A l.length c, .int .u64 bn]
  rows : RowsAt w A 1 encN l
  hA : A = none ∨ ∃ blk off, A = some ⟨blk, off, none⟩ ∧ T blk ∧ ∃ cur, w.heap[blk]? = some (.cells cur 22 (0, 0))
  hc : l.length ≤ c
section
variable {w : World} {T : Nat → Prop} {b : Nat} {s : Sv} {A : Option Addr} {l : List Nat} {c bn : Nat}
theorem BIs.frm {S : Nat → Prop} {w' : World} (h : BIs w T b s A l c bn) (hf : Frm S w w') (h1 : ¬ S b) (h2 : ∀ k cur, T k → w.heap[k]? = some (.cells cur 22 (0, 0)) → ¬ S k) : BIs w' T b s A l c bn := by
  refine ⟨h.str.frm hf h1, h.rows.via hf fun blk off e => ?_, ?_, h.hc⟩
  · rcases h.hA with h0 | ⟨blk', off', h3, h4, cur, h5⟩
    · rw [h0] at e; cases e
    · rw [h3] at e; injection e with e; injection e with e1 e2
      subst e1; exact h2 _ _ h4 h5
  · rcases h.hA with h0 | ⟨blk', off', h3, h4, cur, h5⟩
    · exact .inl h0
    · exact .inr ⟨blk', off', h3, h4, cur, hf.blk h5 (h2 _ _ h4 h5)⟩
theorem BIs.keep {w' : World} (h : BIs w T b s A l c bn) (hf : Frm (fun _ => False) w w') : BIs w' T b s A l c bn := h.frm hf id (fun _ _ _ _ => id)
theorem BIs.blk (h : BIs w T b s A l c bn) {blk off : Nat} (e : A = some ⟨blk, off, none⟩) : blk ≠ b := by
  rintro rfl
  rcases h.hA with h0 | ⟨blk', off', h3, h4, cur, h5⟩
  · rw [h0] at e; cases e
  · rw [h3] at e; injection e with e; injection e with e1 e2
    have := h.str
    unfold VecAt at this
    rw [e1, this] at h5; simp at h5
theorem BIs.elem (h : BIs w T b s A l c bn) (h0 : 0 < l.length) : ∃ blk off, A = some ⟨blk, off, none⟩ ∧ blk < w.heap.size ∧ ∀ i x, l[i]? = some x → w.cell? ⟨blk, off + i, none⟩ = some (.int .u64 (x : Nat)) := by
  obtain ⟨blk, off, e, hlt, hc⟩ := h.rows.at_ h0
  exact ⟨blk, off, e, hlt, fun i x hi => by simpa using hc i x hi 0 _ rfl⟩
def LeftR (w : World) (T : Nat → Prop) (b : Nat) (s : Sv) (l : List Nat) (now k : Nat) (w' : World) : Prop :=
  k ≤ l.length ∧ (∀ i x, i < k → l[i]? = some x → x ≤ now) ∧ (∀ x, l[k]? = some x → now < x) ∧ (∃ A', BIs w' T b s A' (l.drop k) (l.drop k).length now) ∧ Frm (fun j => j = b) w w'
theorem left_done {now k : Nat} {A' : Option Addr} {w' : World} (h : BIs w T b s A l c bn) (hk : k ≤ l.length) (h1 : ∀ i x, i < k → l[i]? = some x → x ≤ now) (h2 : ∀ x, l[k]? = some x → now < x)
    (hr : RowsAt w A' 1 encN (l.drop k)) (hA : A' = none ∨ ∃ blk off, A' = some ⟨blk, off, none⟩ ∧ T blk ∧ ∃ cur, w.heap[blk]? = some (.cells cur 22 (0, 0)))
    (hw : Frm (fun _ => False) ((w.setCell ⟨b, 3, none⟩ (.int .u64 now)).setCell ⟨b, 2, none⟩ (.slice A' (l.length - k) (l.length - k))) w') : LeftR w T b s l now k w' := by
  have hs := (h.str.set 3 (.int .u64 now)).set 2 (.slice A' (l.length - k) (l.length - k))
  have hf : Frm (fun j => j = b) w ((w.setCell ⟨b, 3, none⟩ (.int .u64 now)).setCell ⟨b, 2, none⟩ (.slice A' (l.length - k) (l.length - k))) :=
    ((Frm.refl (fun j => j = b) w).setCell (p := ⟨b, 3, none⟩) (.inl rfl) _).setCell (p := ⟨b, 2, none⟩) (.inl rfl) _
  have hb : ∀ blk cur, w.heap[blk]? = some (.cells cur 22 (0, 0)) → ¬ blk = b := fun blk cur hh e => by
    subst e
    have := h.str
    unfold VecAt at this
    rw [this] at hh; simp at hh
  refine ⟨hk, h1, h2, ⟨A', ?_⟩, hf.trans hw.of_none⟩
  refine BIs.keep ⟨?_, hr.via hf fun blk off e => ?_, ?_, Nat.le_refl _⟩ hw
  · rw [List.length_drop]
    exact hs
  · rcases hA with h0 | ⟨blk', off', h3, h4, cur, h5⟩
    · rw [h0] at e; cases e
    · rw [h3] at e; injection e with e; injection e with e1 e2
      subst e1; exact hb _ _ h5
  · rcases hA with h0 | ⟨blk', off', h3, h4, cur, h5⟩
    · exact .inl h0
    · exact .inr ⟨blk', off', h3, h4, cur, hf.blk h5 (hb _ _ h5)⟩
theorem rows_drop {blk off k : Nat} (h : RowsAt w (some ⟨blk, off, none⟩) 1 encN l) : RowsAt w (some ⟨blk, off + k, none⟩) 1 encN (l.drop k) := by
  refine ⟨by have := h.len; rw [List.length_drop]; omega, fun hp => ?_⟩
  rw [List.length_drop] at hp
  obtain ⟨blk', off', e, hlt, hc⟩ := h.at_ (by omega)
  injection e with e; injection e with e1 e2
  subst e1 e2
  refine ⟨blk, off + k, rfl, hlt, fun i r hi j v hj => ?_⟩
  rw [List.getElem?_drop] at hi
  have := hc (k + i) r hi j v hj
  rw [show off + k + i * 1 + j = off + (k + i) * 1 + j by omega]
  exact this
theorem rows_none (A' : Option Addr) : RowsAt w A' 1 encN (l.drop l.length) := by
  rw [List.drop_length]
  exact ⟨by simp, fun h => by simp at h⟩
theorem BIs.hA' {blk off : Nat} (h : BIs w T b s (some ⟨blk, off, none⟩) l c bn) : T blk ∧ ∃ cur, w.heap[blk]? = some (.cells cur 22 (0, 0)) := by
  rcases h.hA with h0 | ⟨blk', off', h3, h4⟩
  · cases h0
  · injection h3 with e; injection e with e1 e2
    rw [e1]; exact h4
set_option maxRecDepth 100000 in
set_option maxHeartbeats 2000000 in
theorem left_c (h : BIs w T b s A l c bn) (now : Nat) (h1 : bn ≤ now ∧ now < 1000000) (h2 : l.length ≤ 1000) (h3 : 1 ≤ s.bud ∧ s.bud ≤ 200) :
    Calls Try.prog 43 #[.pointer (some ⟨b, 0, none⟩), .int .u64 now] w fun e w' => ∃ k, e = .returned (.tuple #[.int .i64 (s.bud - (l.length - k : Nat)), .int .i64 0]) ∧ LeftR w T b s l now k w' := by
  have c0 := h.str.cell (i := 0) rfl
  have c2 := h.str.cell (i := 2) rfl
  have c3 := h.str.cell (i := 3) rfl
  have f2 := h.str.frozen 2
  have f3 := h.str.frozen 3
  have hlt := h.str.lt
  have HH := Lib.hid h
  obtain ⟨bud, per⟩ := s
  simp only at c0 h3
  have e1 : decide ((now : Int) < (bn : Int)) = false := by simp; omega
  have e1' : decide (now < bn) = false := by simp; omega
  clear h
  go_enter Try.func43, Try.ntmps43
  go_wp2_with fail
  with_reducible refine (tmay_c w now (by omega)).mono ?_
  rintro e w1 ⟨rfl, rfl⟩
  go_wp2_with fail
  have HE := Lib.hid (fun h0 => HH.out.elem h0)
  go_loopw [6] (fun i wr => ∃ k : Nat, k ≤ l.length ∧ i = .int .i64 k ∧ wr = w1.setCell ⟨b, 3, none⟩ (.int .u64 now) ∧ Hid (∀ i x, i < k → l[i]? = some x → x ≤ now)) (fun i _ => l.length - (intOf i).toNat)
  case atStart => exact ⟨0, by omega, rfl, rfl, Lib.hid (fun i x hi => by omega)⟩
  case round =>
    obtain ⟨k, hk, rfl, rfl, HX⟩ := hrel
    by_cases hlt : k < l.length
    · have e3 : decide (k < l.length) = true := by simpa using hlt
      obtain ⟨blk, off, hAe, hb0, hcs⟩ := HE.out (by omega)
      have hne := HH.out.blk hAe
      subst hAe
      obtain ⟨x, hx⟩ : ∃ x, l[k]? = some x := ⟨_, List.getElem?_eq_getElem hlt⟩
      have x0 := hcs k x hx
      have HXX := Lib.hid hx
      have i3 : (k : Int) < (l.length : Int) := by omega
      clear hcs hx
      by_cases hle : x ≤ now
      · have e4 : decide (x ≤ now) = true := by simpa using hle
        go_wp2_with fail
        go_roundw
        case rel =>
          exact ⟨k + 1, by omega, by go_num, trivial, Lib.hid (fun i y hi hy => by
            by_cases e : i = k
            · subst e; rw [HXX.out] at hy; injection hy with hy; omega
            · exact HX.out i y (by omega) hy)⟩
        case measure => simp [intOf]; omega
      · have e4 : decide (x ≤ now) = false := by simpa using hle
        have hcc := HH.out.hc
        have hcc2 : (l.length : Int) ≤ (c : Int) := by omega
        go_wp2_with fail
        go_region
        go_wp2_with fail
        go_quiet (fail)
        go_wp2_with fail
        go_ret2
        obtain ⟨t1, cur, t2⟩ := HH.out.hA'
        exact ⟨k, rfl, left_done HH.out hk HX.out (fun y hy => by rw [HXX.out] at hy; injection hy with hy; omega) (rows_drop HH.out.rows) (.inr ⟨_, _, rfl, t1, cur, t2⟩) ((Frm.refl _ _).drew.drewN nq)⟩
    · have e3 : decide (k < l.length) = false := by simpa using hlt
      obtain rfl : k = l.length := by omega
      have hcc := HH.out.hc
      have hcc2 : (l.length : Int) ≤ (c : Int) := by omega
      rcases HH.out.hA with rfl | ⟨blk, off, rfl, t1, cur, t2⟩
      · have hl0 : l.length = 0 := by
          rcases Nat.eq_zero_or_pos l.length with h | h
          · exact h
          · obtain ⟨_, _, e, _⟩ := HE.out h; cases e
        have hnil : l = [] := List.eq_nil_of_length_eq_zero hl0
        subst hnil
        clear hl0
        go_wp2_with fail
        go_region
        go_wp2_with fail
        go_quiet (fail)
        go_wp2_with fail
        go_ret2
        exact ⟨0, by simp, left_done (A' := none) HH.out (Nat.zero_le _) (fun i x hi => by omega) (fun y hy => by simp at hy) (rows_none (l := []) none) (.inl rfl) ((Frm.refl _ _).drew.drewN nq)⟩
      · go_wp2_with fail
        go_region
        go_wp2_with fail
        go_quiet (fail)
        go_wp2_with fail
        go_ret2
        refine ⟨l.length, by simp, left_done (A' := some ⟨blk, off, none⟩) HH.out (Nat.le_refl _) HX.out (fun y hy => by simp at hy) (rows_none _) (.inr ⟨_, _, rfl, t1, cur, t2⟩) ?_⟩
        rw [Nat.sub_self]
        exact (Frm.refl _ _).drew.drewN nq
theorem info22 : (Try.prog.info? 22).map (fun i => (i.zero, i.size, i.bytes)) = some (some (.int .u64 0), 1, 8) := by kernel_rfl
def olds (l : List Nat) : List Value := l.map fun n => Value.int .u64 (n : Nat)
/-- append onto a slice that is full: a new row. -/
theorem step_grow {ops : Array Oper} {o : Oper} {a : Act} {K : Act → World → Prop} {Q : Exit → Act → World → Prop} {E : Prop} (w : World) (dt : Tmp) (hd : o.dst = some dt) (hgd : o.guard = none) (ss x : Operand)
    (ho : o.op = .call { callee := .builtin .append, args := #[ss, x], argTypes := #[35, 35] })
    (A : Option Addr) (l : List Nat) (hs : a.eval ss = .slice A l.length l.length) (hr : RowsAt w A 1 encN l) (m : Nat) (mv : Int) (hmv : mv = (m : Nat)) (B : Nat) (hx : a.eval x = .slice (some ⟨B, 0, none⟩) 1 1) (hB : w.heap[B]? = some (.cells #[.int .u64 mv] 22 (0, 0)))
    (hk : l.length < 1000)
    (h : ∀ cap w', l.length + 1 ≤ cap → RowsAt w' (some ⟨w.heap.size, 0, none⟩) 1 encN (l ++ [m]) → (∃ cur, w'.heap[w.heap.size]? = some (.cells cur 22 (0, 0))) → Frm (fun _ => False) w w' → K (a.put (some dt) (.slice (some ⟨w.heap.size, 0, none⟩) (l.length + 1) cap)) w') :
    if Region.wanted o (yielded ops a.tmps) = true then Oper.wp Try.prog o a w K Q else E := by
  have hw : Region.wanted o (yielded ops a.tmps) = true := by simp [Region.wanted, hgd]
  rw [if_pos hw]
  subst hmv
  obtain ⟨i0, hi, hz0, hz1, hz2⟩ := info_parts info22
  have hfit : Builtin.nextslicecap (l.length + 1) l.length * i0.bytes ≤ 281474976710656 := by
    rw [hz2]
    have : Builtin.nextslicecap (l.length + 1) l.length ≤ 3000 := by
      unfold Builtin.nextslicecap
      split
      · omega
      · split
        · omega
        · rw [growBy_four]; repeat' split
          all_goals omega
    omega
  have hold : (Builtin.firstCells i0.size l.length (.slice A l.length l.length)).run Try.prog w.drew = .ok (olds l).toArray w.drew := by
    rw [hz1]
    cases A with
    | none =>
      have hl0 : l = [] := by
        cases l with
        | nil => rfl
        | cons y t => obtain ⟨_, _, e, _⟩ := hr.at_ (by simp); cases e
      rw [run_firstCells_none, hl0]
      rfl
    | some ad =>
      refine run_firstCells_some w.drew 1 l.length ad l.length l.length (olds l) (by simp [olds]) fun j v hj => ?_
      rw [olds, List.getElem?_map] at hj
      obtain ⟨y, hy, rfl⟩ := Option.map_eq_some_iff.1 hj
      have hjl := (List.getElem?_eq_some_iff.1 hy).1
      obtain ⟨blk, off, e, hlt, hc⟩ := hr.at_ (by omega)
      obtain rfl : ad = ⟨blk, off, none⟩ := Option.some.inj e
      have := hc j y hy 0 _ rfl
      have hadd : (⟨blk, off, none⟩ : Addr).add j = ⟨blk, off + j, none⟩ := by unfold Addr.add; split <;> simp_all
      rw [hadd]
      simpa using this
  have hsrc : Src Try.prog i0.size 35 (.slice (some ⟨B, 0, none⟩) 1 1) 1 [.int .u64 (m : Nat)] w := by
    rw [hz1]
    exact Src.ofSlice w Try.underlying35 ⟨B, 0, none⟩ 1 1 [.int .u64 (m : Nat)] rfl (World.news_of_block hB) (by intro u hu; simp at hu; subst hu; rfl)
  have hrun := run_append_grow_src (P := Try.prog) w 35 35 o.type 22 i0 (.int .u64 0) Try.underlying35 hi hz0 A l.length l.length (olds l) hold (.slice (some ⟨B, 0, none⟩) 1 1) 1 [.int .u64 (m : Nat)] hsrc (by omega) (by omega) hfit
  have hcap := grownCap_ge w (l.length + 1) l.length 22
  generalize grownCap w (l.length + 1) l.length 22 = cap at hrun hcap
  generalize hG : (olds l ++ [Value.int .u64 (m : Nat)]).toArray ++ Builtin.zeroCells (Value.int .u64 0).cells (cap - (l.length + 1)) = G at hrun
  have hnew : (w.drew.alloc (.cells G 22)).heap[w.heap.size]? = some (.cells G 22) := heap_alloc_new w.drew (.cells G 22)
  have hlen : (l ++ [m]).length = l.length + 1 := by simp
  have hget : ∀ (i r : Nat), (l ++ [m])[i]? = some r → G[i]? = some (.int .u64 (r : Nat)) := fun i r hi => by
    have hil := (List.getElem?_eq_some_iff.1 hi).1
    have e2 : olds l ++ [.int .u64 (m : Nat)] = (l ++ [m]).map fun n => Value.int .u64 (n : Nat) := by simp [olds]
    rw [← hG, Array.getElem?_append_left (by simp [olds]; omega), e2]
    simp only [List.getElem?_toArray, List.getElem?_map, hi, Option.map_some]
  have hrow : RowsAt (w.drew.alloc (.cells G 22)) (some ⟨w.heap.size, 0, none⟩) 1 encN (l ++ [m]) := by
    refine ⟨by omega, fun _ => ⟨w.heap.size, 0, rfl, lt_of_block hnew, fun i r hi j v hj => ?_⟩⟩
    obtain rfl : j = 0 := by
      have := (List.getElem?_eq_some_iff.1 hj).1
      simp [encN] at this; exact this
    simp only [encN, List.getElem?_cons_zero, Option.some.injEq] at hj
    subst hj
    have := hget i r hi
    simp only [World.cell?, hnew, Nat.zero_add, Nat.mul_one, Nat.add_zero]
    exact this
  have hK := h cap _ hcap hrow ⟨_, hnew⟩ ((Frm.refl _ w).drew.alloc _)
  unfold Oper.wp
  rw [← hd] at hK
  simp [execOp, ho, resolve, invoke, builtin, hs, hx, hrun, Result.andThen]
  exact hK
end
end Go.Proofs.Ytadngogbnjodhaa
