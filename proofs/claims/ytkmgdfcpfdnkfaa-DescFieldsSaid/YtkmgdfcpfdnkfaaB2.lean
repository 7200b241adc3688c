/- Numbers as bytes: row, big; appends of bytes. -/
import Derived.Test.YtkmgdfcpfdnkfaaB1
import Derived.Deep.AppendLies
import Derived.Lib.SliceRun
namespace Go.Proofs.Ytkmgdfcpfdnkfaa
open Go.RowKit
def bcells (l : List Nat) : List Value := l.map fun x : Nat => .int .u8 (x : Int)
theorem bcells_flat (l : List Nat) : bcells l = l.flatMap enc1 := by
  induction l with
  | nil => rfl
  | cons a l ih => rw [List.flatMap_cons, ← ih]; rfl
theorem bcells_length (l : List Nat) : (bcells l).length = l.length := by simp [bcells]
theorem bcells_append (l l' : List Nat) : bcells (l ++ l') = bcells l ++ bcells l' := by simp [bcells]
theorem bcells_get {l : List Nat} {j x : Nat} (h : l[j]? = some x) : (bcells l)[j]? = some (.int .u8 (x : Int)) := by simp [bcells, h]
theorem info5 : (Try.prog.info? 5).map (fun i => (i.zero, i.size, i.bytes)) = some (some (.int .u8 0), 1, 1) := by kernel_rfl
theorem one_b {l : List Nat} : ∀ u ∈ bcells l, u.oneCell' = true := by
  intro u hu
  simp only [bcells, List.mem_map] at hu
  obtain ⟨x, _, rfl⟩ := hu
  rfl
/-- What a value owns, as bytes. -/
def OwnB (w : World) (base : Nat) (v : Value) (l : List Nat) : Prop := w.ownsRow base 5 1 v l.length (bcells l)
theorem OwnB.nil (w : World) (base : Nat) : OwnB w base (.slice none 0 0) [] := World.ownsRow_nil _ _ _ _
theorem OwnB.alloc {w : World} {base : Nat} {v : Value} {l : List Nat} (h : OwnB w base v l) (o : Obj) : OwnB (w.alloc o) base v l := World.ownsRow.alloc h o
theorem OwnB.frm {S : Nat → Prop} {w w' : World} {base : Nat} {v : Value} {l : List Nat} (h : OwnB w base v l) (hf : Frm S w w') (hs : ∀ k, v.ownBlock = some k → ¬ S k) : OwnB w' base v l := by
  obtain ⟨h1, h2⟩ := h
  refine ⟨h1, ?_⟩
  rcases h2 with h2 | ⟨g, cap, cur, rfl, hg, hh, hr⟩
  · exact .inl h2
  · exact .inr ⟨g, cap, cur, rfl, hg, hf.blk hh (hs g rfl), hr⟩
theorem OwnB.low {w : World} {base base' : Nat} {v : Value} {l : List Nat} (h : OwnB w base v l) (hb : base' ≤ base) : OwnB w base' v l := by
  obtain ⟨h1, h2⟩ := h
  refine ⟨h1, ?_⟩
  rcases h2 with h2 | ⟨g, cap, cur, rfl, hg, hh, hr⟩
  · exact .inl h2
  · exact .inr ⟨g, cap, cur, rfl, Nat.le_trans hb hg, hh, hr⟩
/-- A value that owns bytes, opened. -/
theorem OwnB.open {w : World} {base : Nat} {v : Value} {l : List Nat} (h : OwnB w base v l) (hl : ∀ x ∈ l, x < 256) : ∃ A c, v = .slice A l.length c ∧ Byt w A l ∧ ∀ b off, A = some ⟨b, off, none⟩ → base ≤ b ∧ b < w.heap.size := by
  have h0 : w.ownsRow base 5 1 v l.length (l.flatMap enc1) := by rw [← bcells_flat]; exact h
  obtain ⟨A, c, rfl, hr, hb⟩ := own_rows enc1_len rfl h0
  refine ⟨A, c, rfl, ⟨hr, hl⟩, fun b off e => ⟨hb b off e, ?_⟩⟩
  subst e
  exact (World.ownsRow.lt h b rfl).2
/-- A block of bytes, as what is owned. -/
theorem OwnB.block {w : World} {base g : Nat} {l : List Nat} (hg : base ≤ g) (h : VecAt w g 5 (bcells l)) (hl : l.length ≤ 1000000) : OwnB w base (.slice (some ⟨g, 0, none⟩) l.length l.length) l := by
  refine ⟨by simp [bcells], .inr ⟨g, l.length, _, rfl, hg, h, Nat.le_refl _, by unfold maxLen; omega, by simp [bcells], ?_⟩⟩
  simp only [Nat.mul_one]
  exact List.take_of_length_le (by simp [bcells])
theorem app_bytes {ops : Array Oper} {rest : List Oper} {o : Oper} {a : Act} {Q : Exit → Act → World → Prop} (w : World) (hgd : o.guard = none) (s x : Operand)
    (ho : o.op = .call { callee := .builtin .append, args := #[s, x], argTypes := #[28, 28] }) (base : Nat)
    (v : Value) (xs : List Nat) (hs : a.eval s = v) (hown : OwnB w base v xs) (b off c : Nat) (ys : List Nat) (m : Nat) (hx : a.eval x = .slice (some ⟨b, off, none⟩) m c) (hm : ys.length = m)
    (hy : ∀ j y : Nat, ys[j]? = some y → w.cell? ⟨b, off + j, none⟩ = some (.int .u8 (y : Int)))
    (hpos : 0 < m) (hk : xs.length + ys.length < 1000000) (hbase : base ≤ w.heap.size)
    (h : ∀ v' w', OwnB w' base v' (xs ++ ys) → Frm (fun k => v.ownBlock = some k) w w' → (∀ i, v'.ownBlock = some i → v.ownBlock = some i ∨ w.heap.size = i) → wpList Try.prog ops Q rest (a.put o.dst v') w') : wpList Try.prog ops Q (o :: rest) a w := by
  obtain ⟨i0, hi, hz0, hz1, hz2⟩ := info_parts info5
  subst hm
  refine wpList_append_lies w hgd s x 28 ho base 5 i0 _ 1 1 Try.underlying28 hi hz0 hz1 hz2 rfl (by decide) v xs.length (bcells xs) hs hown ⟨b, off, none⟩ ys.length c (bcells ys) hx (by simp [bcells]) ?_ one_b hpos (by unfold maxLen; omega) (by omega) hbase _ rfl ?_
  · intro j u hj
    simp only [bcells, List.getElem?_map, Option.map_eq_some_iff] at hj
    obtain ⟨y, hy', rfl⟩ := hj
    have e : (⟨b, off, none⟩ : Addr).add j = ⟨b, off + j, none⟩ := by unfold Addr.add; split <;> simp_all
    rw [e]; exact hy j y hy'
  · intro g cap w1 h1 h2 h3 _
    refine h _ _ ?_ ⟨h2.os, h2.tape, h2.output, h2.size, fun j hj hs => h2.block j hj (fun e => hs e.symm)⟩ (fun i hi => by simp only [Value.ownBlock, Option.some.injEq] at hi; subst hi; rcases h3 with h3 | h3; exact .inl h3; exact .inr h3.symm)
    unfold OwnB
    rw [bcells_append, List.length_append]; exact h1
def encF (f : Nat × Nat) : List Value := [.int .u64 (f.1 : Int), .int .i64 (f.2 : Int)]
def rowB (fs : List (Nat × Nat)) : List Nat := fs.flatMap fun f => big f.2 f.1
theorem rowB_take {fs : List (Nat × Nat)} {k : Nat} {f : Nat × Nat} (h : fs[k]? = some f) : rowB (fs.take (k + 1)) = rowB (fs.take k) ++ big f.2 f.1 := by
  rw [List.take_add_one, h]; simp [rowB]
theorem big_get : ∀ {n j v : Nat}, j < n → (big n v)[j]? = some (v / 256 ^ (n - 1 - j) % 256)
  | n + 1, 0, v, _ => by simp [big]
  | n + 1, j + 1, v, h => by
    have := big_get (n := n) (j := j) (v := v) (by omega)
    rw [big, List.getElem?_cons_succ, this, show n + 1 - 1 - (j + 1) = n - 1 - j by omega]
theorem rowB_len {fs : List (Nat × Nat)} (h : ∀ f ∈ fs, f.2 ≤ 8) : (rowB fs).length ≤ 8 * fs.length := by
  induction fs with
  | nil => simp [rowB]
  | cons f fs ih =>
    have h1 := ih fun g hg => h g (by simp [hg])
    have h2 := h f (by simp)
    simp only [rowB, List.flatMap_cons, List.length_append, big_length, List.length_cons] at h1 ⊢
    omega
set_option maxHeartbeats 2000000 in
theorem row_c (w : World) (A : Option Addr) (c : Nat) (fs : List (Nat × Nat)) (hl : RowsAt w A 2 encF fs) (hfs : ∀ f ∈ fs, f.1 < 18446744073709551616 ∧ 1 ≤ f.2 ∧ f.2 ≤ 8) (h4 : fs.length ≤ 100) :
    Calls Try.prog 19 #[.slice A fs.length c] w fun e w' => ∃ v, e = .returned v ∧ OwnB w' w.heap.size v (rowB fs) ∧ Frm (fun _ => False) w w' := by
  have HL := Lib.hid hl
  have HFS := Lib.hid hfs
  clear hl hfs
  go_enter Try.func19, Try.ntmps19
  go_wp2_with fail
  go_loopw [3, 9] (fun v i wr => ∃ k : Nat, k ≤ fs.length ∧ i = .int .i64 k ∧ OwnB wr w.heap.size v (rowB (fs.take k)) ∧ Frm (fun _ => False) w wr) (fun _ i _ => fs.length - (intOf i).toNat)
  case atStart => exact ⟨0, by omega, rfl, OwnB.nil _ _, Frm.refl _ _⟩
  case round =>
    obtain ⟨k, hk, rfl, hown, hf⟩ := hrel
    have HO := Lib.hid hown
    have HF := Lib.hid hf
    have hsz := hf.size
    clear hown hf
    by_cases hlt : k < fs.length
    · have hd : decide (k < fs.length) = true := by simpa using hlt
      obtain ⟨⟨x, n⟩, hx⟩ : ∃ f, fs[k]? = some f := ⟨_, List.getElem?_eq_getElem hlt⟩
      obtain ⟨b, off, rfl, hb, hc⟩ := HL.out.at_ (by omega)
      have c0 := HF.out.cell hb id (hc k _ hx 0 _ rfl)
      have c1 := HF.out.cell hb id (hc k _ hx 1 _ rfl)
      obtain ⟨hx1, hn1, hn8⟩ := HFS.out _ (List.mem_of_getElem? hx)
      have HW := Lib.hid (rowB_take hx)
      have hlen := rowB_len (fs := fs.take k) (fun f hf => (HFS.out f (List.mem_of_mem_take hf)).2.2)
      have hkl : (fs.take k).length ≤ 100 := by simp [List.length_take]; omega
      simp only [Nat.add_zero] at c0 c1 hx1 hn1 hn8
      clear hc hx
      go_wp2_with fail
      obtain ⟨wo, hwo⟩ : ∃ wo : World, wo = wr := ⟨_, rfl⟩
      subst hwo
      have HOO : Hid (∀ j, u3.ownBlock = some j → j ≠ wo.heap.size) := Lib.hid (fun j hj e => by have := (World.ownsRow.lt HO.out j hj).2; omega)
      go_loopw [3, 6] (fun v i wr => ∃ q : Int, -1 ≤ q ∧ q < n ∧ i = .int .i64 q ∧ OwnB wr w.heap.size v (rowB (fs.take k) ++ (big n x).take (n - 1 - q).toNat) ∧ Frm (fun _ => False) w wr ∧ wo.heap.size < wr.heap.size ∧ wr.cell? ⟨wo.heap.size, 0, none⟩ = some (.int .u64 x) ∧ Hid (∀ j, v.ownBlock = some j → j ≠ wo.heap.size)) (fun _ i _ => (intOf i + 1).toNat)
      case atStart =>
        refine ⟨(n : Int) - 1, by omega, by omega, rfl, ?_, HF.out.alloc _, by simp, by simp, HOO⟩
        rw [show ((n : Int) - 1 - ((n : Int) - 1)).toNat = 0 by omega, List.take_zero, List.append_nil]
        exact HO.out.alloc _
      case round =>
        obtain ⟨q, hq1, hq2, rfl, hown, hf, hbx, hcell, HNB⟩ := hrel
        have HO' := Lib.hid hown
        have HF' := Lib.hid hf
        have hsz' := hf.size
        clear hown hf
        by_cases hq : 0 ≤ q
        · obtain ⟨j, rfl⟩ := Int.eq_ofNat_of_zero_le hq
          have hjn : j < n := by omega
          have HBY : Hid ((x : Int) / 2 ^ (8 * j) % 256 = ((x / 256 ^ j % 256 : Nat) : Int)) := by
            show _ = _
            rw [show (256 : Nat) ^ j = 2 ^ (8 * j) by rw [Nat.pow_mul]]
            simp
          have HTK : Hid (rowB (fs.take k) ++ (big n x).take ((n : Int) - 1 - ((j : Int) - 1)).toNat = (rowB (fs.take k) ++ (big n x).take ((n : Int) - 1 - (j : Int)).toNat) ++ [x / 256 ^ j % 256]) := by
            show _ = _
            rw [show ((n : Int) - 1 - ((j : Int) - 1)).toNat = (n - 1 - j) + 1 by omega, show ((n : Int) - 1 - (j : Int)).toNat = n - 1 - j by omega, List.take_add_one, big_get (by omega), show n - 1 - (n - 1 - j) = j by omega]
            simp
          have HLN : Hid ((rowB (fs.take k) ++ (big n x).take ((n : Int) - 1 - (j : Int)).toNat).length + [x / 256 ^ j % 256].length < 1000000) := by
            show _ < _
            have h1 : ((big n x).take ((n : Int) - 1 - (j : Int)).toNat).length ≤ n := by simp only [List.length_take, big_length]; omega
            simp only [List.length_append, List.length_cons, List.length_nil]; omega
          have HY : Hid (∀ i y : Nat, [x / 256 ^ j % 256][i]? = some y → (wr.alloc (.cells #[.int .u8 ((x : Int) / 2 ^ (8 * j) % 256)] 5)).cell? ⟨wr.heap.size, 0 + i, none⟩ = some (.int .u8 (y : Int))) := Lib.hid (by
            intro i y hi
            have h0 : i = 0 := by
              have := (List.getElem?_eq_some_iff.1 hi).1
              simp at this; omega
            subst h0
            simp at hi
            rw [HBY.out, ← hi]
            simp)
          go_wp2_with (at_builtin; refine app_bytes _ rfl (.tmp 20) (.tmp 27) rfl w.heap.size _ _ rfl (HO'.out.alloc _) wr.heap.size 0 1 [x / 256 ^ j % 256] 1 rfl rfl HY.out (by decide) HLN.out (by simp; omega) ?_; intro v1 w1 hown1 hf1 hg1)
          rw [← HTK.out] at hown1
          have hcell1 : w1.cell? ⟨wo.heap.size, 0, none⟩ = some (.int .u64 x) := by
            refine hf1.cell (by simp; omega) (fun e => HNB.out _ e rfl) ?_
            rw [World.cell?_alloc_past _ _ _ hbx]; exact hcell
          have hsz1 := hf1.size
          rw [World.size_alloc] at hsz1
          have HNB1 : Hid (∀ i, v1.ownBlock = some i → i ≠ wo.heap.size) := Lib.hid (by
            intro i hi
            rcases hg1 i hi with h | h
            · exact HNB.out _ h
            · rw [World.size_alloc] at h; omega)
          have HF1 : Hid (Frm (fun _ => False) w w1) := Lib.hid (((HF'.out.of_none (S := fun k => w.heap.size ≤ k)).alloc _ |>.trans (hf1.mono fun i _ e => (World.ownsRow.lt HO'.out i e).1)).down)
          have HO1 := Lib.hid hown1
          clear hown1 hf1 hg1 hcell HY HLN
          go_wp2_with fail
          go_roundw
          case rel => exact ⟨(j : Int) - 1, by omega, by omega, rfl, HO1.out, HF1.out, by omega, hcell1, HNB1⟩
          case measure => simp [intOf]
        · obtain rfl : q = -1 := by omega
          have HO2 : Hid (OwnB wr w.heap.size u3 (rowB (fs.take (k + 1)))) := Lib.hid (by
            have h1 := HO'.out
            rw [show (big n x).take ((n : Int) - 1 - -1).toNat = big n x from List.take_of_length_le (by rw [big_length]; omega)] at h1
            rw [HW.out]; exact h1)
          go_wp2_with fail
          go_roundw
          case rel => exact ⟨k + 1, by omega, by go_num, HO2.out, HF'.out⟩
          case measure => simp [intOf]; omega
    · have hd : decide (k < fs.length) = false := by simpa using hlt
      have HK := Lib.hid (show k = fs.length by omega)
      go_wp2_with fail
      go_ret
      refine ⟨_, rfl, ?_, HF.out⟩
      have := HO.out
      rw [HK.out, List.take_length] at this
      exact this
end Go.Proofs.Ytkmgdfcpfdnkfaa
