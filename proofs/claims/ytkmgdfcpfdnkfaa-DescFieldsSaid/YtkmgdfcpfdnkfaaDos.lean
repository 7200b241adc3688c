/- What the statements are handed: descriptors, bytes, arrays. -/
import Derived.Test.YtkmgdfcpfdnkfaaRow
import Derived.Test.YtkmgdfcpfdnkfaaB7
namespace Go.Proofs.Ytkmgdfcpfdnkfaa
open Go.ChangeShapes Go.WideShapes Go.ChangeAt Go.RowKit
theorem cellsOf26 : Try.prog.cellsOf 26 = 9 := by kernel_rfl
theorem cellsOf24 : Try.prog.cellsOf 24 = 2 := by kernel_rfl
theorem cellsOf3 : Try.prog.cellsOf 3 = 1 := by kernel_rfl
theorem cellsOf4 : Try.prog.cellsOf 4 = 1 := by kernel_rfl
theorem cellsOf22 : Try.prog.cellsOf 22 = 1 := by kernel_rfl
theorem cellsOf5 : Try.prog.cellsOf 5 = 1 := by kernel_rfl
theorem cellsOf38 : Try.prog.cellsOf 38 = 2 := by kernel_rfl
theorem cellsOf40 : Try.prog.cellsOf 40 = 7 := by kernel_rfl
theorem cellsOf41 : Try.prog.cellsOf 41 = 2 := by kernel_rfl
section
variable {H : Type} {enc : TypeId × Value → H} {W : World} {sp : Nat → Bool}
theorem dec24 (n : Nat) (cs : List Value) (x : DataW H × List MemPlace) (h : DataW.trod enc Try.prog W 0 sp true n 24 cs = some x) : ∃ a b : Int, cs = [.int .i64 a, .int .u64 b] ∧ 0 ≤ b ∧ b ≤ 18446744073709551615 := by
  obtain ⟨ys, k, _, _, hl, hlen2, hg⟩ := DataW.trod_struct Try.underlying24 h
  rw [cellsOf24] at hl
  match cs, hl with
  | [c2, c3], _ =>
    match ys, hlen2 with
    | [y0, y1], _ =>
      have g0 : DataW.trod enc Try.prog W 0 sp true k 3 ((([c2, c3] : List Value).drop 0).take (Try.prog.cellsOf 3)) = some y0 := hg 0 _ rfl
      have g1 : DataW.trod enc Try.prog W 0 sp true k 22 ((([c2, c3] : List Value).drop 1).take (Try.prog.cellsOf 22)) = some y1 := hg 1 _ rfl
      rw [cellsOf3] at g0
      rw [cellsOf22] at g1
      obtain ⟨c, hc, _⟩ := DataW.trod_int Try.underlying3 g0
      obtain ⟨d, hd, _, hw⟩ := DataW.trod_int Try.underlying22 g1
      simp at hc hd
      subst hc hd
      exact ⟨c, d, rfl, wf_u64 hw⟩
theorem dec26 (n : Nat) (cs : List Value) (x : DataW H × List MemPlace) (h : DataW.trod enc Try.prog W 0 sp true n 26 cs = some x) : ∃ r : DM, cs = r.cells ∧ 0 ≤ r.gen ∧ r.gen ≤ 18446744073709551615 := by
  obtain ⟨xs, m, _, _, hl, hlen, hf⟩ := DataW.trod_struct Try.underlying26 h
  rw [cellsOf26] at hl
  match cs, hl with
  | [c0, c1, c2, c3, c4, c5, c6, c7, c8], _ =>
    match xs, hlen with
    | [x0, x1, x2, x3, x4, x5, x6, x7], _ =>
      have h0 : DataW.trod enc Try.prog W 0 sp true m 3 ((([c0, c1, c2, c3, c4, c5, c6, c7, c8] : List Value).drop 0).take (Try.prog.cellsOf 3)) = some x0 := hf 0 _ rfl
      have h1 : DataW.trod enc Try.prog W 0 sp true m 3 ((([c0, c1, c2, c3, c4, c5, c6, c7, c8] : List Value).drop 1).take (Try.prog.cellsOf 3)) = some x1 := hf 1 _ rfl
      have h2 : DataW.trod enc Try.prog W 0 sp true m 24 ((([c0, c1, c2, c3, c4, c5, c6, c7, c8] : List Value).drop 2).take (Try.prog.cellsOf 24)) = some x2 := hf 2 _ rfl
      have h3 : DataW.trod enc Try.prog W 0 sp true m 3 ((([c0, c1, c2, c3, c4, c5, c6, c7, c8] : List Value).drop 4).take (Try.prog.cellsOf 3)) = some x3 := hf 3 _ rfl
      have h4 : DataW.trod enc Try.prog W 0 sp true m 3 ((([c0, c1, c2, c3, c4, c5, c6, c7, c8] : List Value).drop 5).take (Try.prog.cellsOf 3)) = some x4 := hf 4 _ rfl
      have h5 : DataW.trod enc Try.prog W 0 sp true m 4 ((([c0, c1, c2, c3, c4, c5, c6, c7, c8] : List Value).drop 6).take (Try.prog.cellsOf 4)) = some x5 := hf 5 _ rfl
      have h6 : DataW.trod enc Try.prog W 0 sp true m 4 ((([c0, c1, c2, c3, c4, c5, c6, c7, c8] : List Value).drop 7).take (Try.prog.cellsOf 4)) = some x6 := hf 6 _ rfl
      have h7 : DataW.trod enc Try.prog W 0 sp true m 3 ((([c0, c1, c2, c3, c4, c5, c6, c7, c8] : List Value).drop 8).take (Try.prog.cellsOf 3)) = some x7 := hf 7 _ rfl
      rw [cellsOf3] at h0 h1 h3 h4 h7
      rw [cellsOf4] at h5 h6
      rw [cellsOf24] at h2
      obtain ⟨a0, e0, _⟩ := DataW.trod_int Try.underlying3 h0
      obtain ⟨a1, e1, _⟩ := DataW.trod_int Try.underlying3 h1
      obtain ⟨a2, b2, e2, hb2⟩ := dec24 _ _ _ h2
      obtain ⟨a3, e3, _⟩ := DataW.trod_int Try.underlying3 h3
      obtain ⟨a4, e4, _⟩ := DataW.trod_int Try.underlying3 h4
      obtain ⟨a5, e5, _⟩ := DataW.trod_bool Try.underlying4 h5
      obtain ⟨a6, e6, _⟩ := DataW.trod_bool Try.underlying4 h6
      obtain ⟨a7, e7, _⟩ := DataW.trod_int Try.underlying3 h7
      simp at e0 e1 e2 e3 e4 e5 e6 e7
      obtain ⟨rfl, rfl⟩ := e2
      subst e0 e1 e3 e4 e5 e6 e7
      exact ⟨⟨a0, a1, a2, b2, a3, a4, a5, a6, a7⟩, rfl, hb2⟩

theorem open_desc {v : Value} {d : DataW H} {ps : List MemPlace} (h : DataW.Trod enc Try.prog W 0 sp true 26 v d ps) : ∃ r : DM, v = .agg r.cells.toArray ∧ 0 ≤ r.gen ∧ r.gen ≤ 18446744073709551615 := by
  obtain ⟨fuel, h⟩ := h
  obtain ⟨r, e, hg⟩ := dec26 _ _ _ h
  exact ⟨r, cells_many e, hg⟩
def enc8 (n : UInt8) : List Value := [.int .u8 (n.toNat : Int)]
theorem dec5 (n : Nat) (cs : List Value) (x : DataW H × List MemPlace) (h : DataW.trod enc Try.prog W 0 sp true n 5 cs = some x) : ∃ r : UInt8, cs = enc8 r := by
  obtain ⟨a, ha, _, hw⟩ := DataW.trod_int Try.underlying5 h
  have hb := wf_u8 hw
  refine ⟨UInt8.ofNat a.toNat, ?_⟩
  rw [ha]
  unfold enc8
  have : (UInt8.ofNat a.toNat).toNat = a.toNat := by rw [UInt8.toNat_ofNat']; omega
  rw [this]
  congr 2
  omega
/-- A slice of bytes that comes in. -/
theorem open_bytes {v : Value} {d : DataW H} {ps : List MemPlace} (hv : ∃ a n c, v = .slice a n c) (h : DataW.Trod enc Try.prog W 0 sp true 28 v d ps) :
    ∃ A cap, ∃ l : List Nat, v = .slice A l.length cap ∧ Byt W A l ∧ l.length ≤ cap ∧ (A = none → cap = 0) := by
  obtain ⟨A, cap, l, rfl, hr, hc, hn⟩ := open_rows 1 enc8 Try.underlying28 cellsOf5 (by decide) dec5 hv h
  refine ⟨A, cap, l.map UInt8.toNat, by simp, ⟨⟨by simpa using hr.len, fun hp => ?_⟩, fun x hx => ?_⟩, by simpa using hc, hn⟩
  · obtain ⟨b, off, rfl, hb, hcell⟩ := hr.at_ (by simpa using hp)
    refine ⟨b, off, rfl, hb, fun i r hi j u hj => ?_⟩
    rw [List.getElem?_map, Option.map_eq_some_iff] at hi
    obtain ⟨y, hy, rfl⟩ := hi
    exact hcell i y hy j u hj
  · rw [List.mem_map] at hx
    obtain ⟨y, _, rfl⟩ := hx
    exact y.toNat_lt
/-- An array. -/
theorem open_arr {v : Value} {d : DataW H} {ps : List MemPlace} {a e : TypeId} {n : Nat} {P : Value → Prop} (hn : 2 ≤ n) (ha : Try.prog.underlying a = some (.array n e)) (hac : Try.prog.cellsOf a = n) (hec : Try.prog.cellsOf e = 1)
    (hdec : ∀ n cs x, DataW.trod enc Try.prog W 0 sp true n e cs = some x → ∃ u, cs = [u] ∧ P u)
    (h : DataW.Trod enc Try.prog W 0 sp true a v d ps) : ∃ us : List Value, v = .agg us.toArray ∧ us.length = n ∧ ∀ u ∈ us, P u := by
  obtain ⟨fuel, h⟩ := h
  obtain ⟨xs, k, _, _, hl, hlen, hf⟩ := DataW.trod_array ha h
  rw [hac] at hl
  generalize hcs : v.cells.toList = cs at *
  refine ⟨cs, ?_, hl, fun u hu => ?_⟩
  · match cs, hl with
    | c0 :: c1 :: cs, _ => exact cells_many hcs
    | [], h => simp at h; omega
    | [_], h => simp at h; omega
  · obtain ⟨i, hi⟩ := List.mem_iff_getElem?.1 hu
    have hil := (List.getElem?_eq_some_iff.1 hi).1
    have h1 := hf i (by omega)
    rw [hec] at h1
    obtain ⟨y, hy⟩ : ∃ y, xs[i]? = some y := ⟨_, List.getElem?_eq_getElem (by omega)⟩
    rw [hy] at h1
    obtain ⟨u', e1, hp⟩ := hdec _ _ _ h1
    have : ((cs.drop (i * 1)).take 1)[0]? = some u := by simp [hi]
    rw [e1] at this
    simp at this
    rw [← this]; exact hp
theorem decB5 (n : Nat) (cs : List Value) (x : DataW H × List MemPlace) (h : DataW.trod enc Try.prog W 0 sp true n 5 cs = some x) : ∃ u, cs = [u] ∧ ∃ r : Nat, r < 256 ∧ u = .int .u8 (r : Int) := by
  obtain ⟨r, hr⟩ := dec5 n cs x h
  exact ⟨_, hr, r.toNat, r.toNat_lt, rfl⟩
theorem decI (n : Nat) (cs : List Value) (x : DataW H × List MemPlace) (h : DataW.trod enc Try.prog W 0 sp true n 3 cs = some x) : ∃ u, cs = [u] ∧ ∃ r : Int, u = .int .i64 r := by
  obtain ⟨a, ha, _, hw⟩ := DataW.trod_int Try.underlying3 h
  exact ⟨_, ha, a, rfl⟩
theorem decBo (n : Nat) (cs : List Value) (x : DataW H × List MemPlace) (h : DataW.trod enc Try.prog W 0 sp true n 4 cs = some x) : ∃ u, cs = [u] ∧ ∃ r : Bool, u = .bool r := by
  obtain ⟨a, ha, _⟩ := DataW.trod_bool Try.underlying4 h
  exact ⟨_, ha, a, rfl⟩
theorem open_pair {v : Value} {d : DataW H} {ps : List MemPlace} (h : DataW.Trod enc Try.prog W 0 sp true 38 v d ps) : ∃ a b : Nat, a < 256 ∧ b < 256 ∧ v = .agg #[.int .u8 a, .int .u8 b] := by
  obtain ⟨us, rfl, hl, hp⟩ := open_arr (by decide) Try.underlying38 cellsOf38 cellsOf5 decB5 h
  match us, hl with
  | [u0, u1], _ =>
    obtain ⟨a, ha, rfl⟩ := hp u0 (by simp)
    obtain ⟨b, hb, rfl⟩ := hp u1 (by simp)
    exact ⟨a, b, ha, hb, rfl⟩
theorem open_seven {v : Value} {d : DataW H} {ps : List MemPlace} (h : DataW.Trod enc Try.prog W 0 sp true 40 v d ps) : ∃ n0 n1 n2 n3 n4 n5 n6 : Int, v = .agg #[.int .i64 n0, .int .i64 n1, .int .i64 n2, .int .i64 n3, .int .i64 n4, .int .i64 n5, .int .i64 n6] := by
  obtain ⟨us, rfl, hl, hp⟩ := open_arr (by decide) Try.underlying40 cellsOf40 cellsOf3 decI h
  match us, hl with
  | [u0, u1, u2, u3, u4, u5, u6], _ =>
    obtain ⟨n0, rfl⟩ := hp u0 (by simp)
    obtain ⟨n1, rfl⟩ := hp u1 (by simp)
    obtain ⟨n2, rfl⟩ := hp u2 (by simp)
    obtain ⟨n3, rfl⟩ := hp u3 (by simp)
    obtain ⟨n4, rfl⟩ := hp u4 (by simp)
    obtain ⟨n5, rfl⟩ := hp u5 (by simp)
    obtain ⟨n6, rfl⟩ := hp u6 (by simp)
    exact ⟨n0, n1, n2, n3, n4, n5, n6, rfl⟩
theorem open_marks {v : Value} {d : DataW H} {ps : List MemPlace} (h : DataW.Trod enc Try.prog W 0 sp true 41 v d ps) : ∃ a b : Bool, v = .agg #[.bool a, .bool b] := by
  obtain ⟨us, rfl, hl, hp⟩ := open_arr (by decide) Try.underlying41 cellsOf41 cellsOf4 decBo h
  match us, hl with
  | [u0, u1], _ =>
    obtain ⟨a, rfl⟩ := hp u0 (by simp)
    obtain ⟨b, rfl⟩ := hp u1 (by simp)
    exact ⟨a, b, rfl⟩
end
end Go.Proofs.Ytkmgdfcpfdnkfaa
