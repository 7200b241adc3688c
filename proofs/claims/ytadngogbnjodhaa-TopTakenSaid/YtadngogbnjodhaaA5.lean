/- A server's budget: Use. -/
import Derived.Test.YtadngogbnjodhaaA4
namespace Go.Proofs.Ytadngogbnjodhaa
open Go.RowKit
/-- What Use makes of the units that are out. -/
def UseR (B P now : Nat) (l l' : List Nat) (ok : Bool) : Prop :=
  ∃ k, k ≤ l.length ∧ (∀ i x, i < k → l[i]? = some x → x ≤ now) ∧ (∀ x, l[k]? = some x → now < x) ∧ ((ok = true ∧ l.length - k < B ∧ l' = l.drop k ++ [now + P]) ∨ (ok = false ∧ B ≤ l.length - k ∧ l' = l.drop k))
theorem BIs.grow {w w3 : World} {T : Nat → Prop} {b : Nat} {s : Sv} {A : Option Addr} {L L' : List Nat} {c now q m cap : Nat} (h : BIs w T b s A L c now) (hf : Frm (fun _ => False) w w3) (hq : q = m) (hqm : w.heap.size ≤ m) (hr : RowsAt w3 (some ⟨q, 0, none⟩) 1 encN L') (hty : ∃ cur, w3.heap[q]? = some (.cells cur 22 (0, 0)))
    (hl : L'.length = L.length + 1) (hcap : L.length + 1 ≤ cap) (hT : T q) : BIs (w3.setCell ⟨b, 2, none⟩ (.slice (some ⟨m, 0, none⟩) (L.length + 1) cap)) T b s (some ⟨m, 0, none⟩) L' cap now := by
  subst hq
  have hb := h.str.lt
  have hf2 : Frm (fun k => k = b) w3 (w3.setCell ⟨b, 2, none⟩ (.slice (some ⟨q, 0, none⟩) (L.length + 1) cap)) := (Frm.refl (fun k => k = b) w3).setCell (p := ⟨b, 2, none⟩) (.inl rfl) _
  obtain ⟨cur, hty⟩ := hty
  refine ⟨?_, hr.via hf2 (fun blk off e => ?_), .inr ⟨q, 0, rfl, hT, cur, hf2.blk hty (by omega)⟩, by omega⟩
  · have := (h.str.frm hf id).set 2 (.slice (some ⟨q, 0, none⟩) (L.length + 1) cap)
    rw [hl]
    exact this
  · injection e with e; injection e with e1 e2
    omega
section
variable {w : World} {T : Nat → Prop} {b B P : Nat} {A : Option Addr} {l : List Nat} {c bn : Nat}
set_option maxRecDepth 100000 in
set_option maxHeartbeats 2000000 in
theorem use_c (h : BIs w T b ⟨(B : Nat), (P : Nat)⟩ A l c bn) (now : Nat) (h1 : bn ≤ now ∧ now < 1000000) (h2 : l.length ≤ B) (h3 : 1 ≤ B ∧ B ≤ 200) (h4 : P ≤ 1073741824) (hT : ∀ k, w.heap.size ≤ k → T k) :
    Calls Try.prog 33 #[.pointer (some ⟨b, 0, none⟩), .int .u64 now] w fun e w' => ∃ ok l', e = .returned (.tuple #[.bool ok, .int .i64 0]) ∧ UseR B P now l l' ok ∧ l'.length ≤ B ∧ (∃ A' c', BIs w' T b ⟨(B : Nat), (P : Nat)⟩ A' l' c' now) ∧ Frm (fun j => j = b) w w' := by
  have HL := Lib.hid (left_c h now h1 (by omega) (by simp only; omega))
  clear h
  go_enter Try.func33, Try.ntmps33
  go_wp2_with fail
  with_reducible refine HL.out.mono ?_
  rintro e w1 ⟨k, rfl, hk, hd1, hd2, ⟨A1, hb1⟩, hf1⟩
  have F1 := Lib.hid hf1
  have D1 := Lib.hid hd1
  have D2 := Lib.hid hd2
  clear hf1 hd1 hd2 HL
  by_cases hn : l.length - k = B
  · have e1 : ((B : Int) - ((l.length - k : Nat) : Int) == 0) = true := by simp; omega
    have HB := Lib.hid hb1
    clear hb1
    go_wp2_with fail
    go_ret2
    refine ⟨false, l.drop k, rfl, ⟨k, hk, D1.out, D2.out, .inr ⟨rfl, by omega, rfl⟩⟩, by rw [List.length_drop]; omega, ⟨_, _, HB.out⟩, F1.out⟩
  · have e1 : ((B : Int) - ((l.length - k : Nat) : Int) == 0) = false := by simp; omega
    have c1 := hb1.str.cell (i := 1) rfl
    have c2 := hb1.str.cell (i := 2) rfl
    have f2 := hb1.str.frozen 2
    have hlt := hb1.str.lt
    have hnk : l.length - k < B := by omega
    have HB := Lib.hid hb1
    have hld : (l.drop k).length < 1000 := by rw [List.length_drop]; omega
    have hs1 := F1.out.size
    have HW := Lib.hid (show IntKind.u64.wrap ((now : Int) + (P : Int)) = ((now + P : Nat) : Int) from by rw [show (now : Int) + (P : Int) = ((now + P : Nat) : Int) by simp]; exact u64_small _ (by omega))
    simp only at c1 c2
    clear hb1
    have k9 : ∀ O, (w1.alloc O).cell? ⟨b, 2, none⟩ = some (.slice A1 (l.drop k).length (l.drop k).length) := fun O => (World.cell?_alloc_past (w := w1) O b 2 hlt).trans c2
    generalize hLd : l.drop k = L at *
    have HLd := Lib.hid hLd
    clear hLd
    go_wp2_with fail
    go_region_law (refine step_grow _ 30 rfl rfl (.tmp 21) (.tmp 29) rfl A1 L rfl (HB.out.rows.via ((Frm.refl (fun _ => False) w1).alloc _).drew (fun _ _ _ => id)) (now + P) _ HW.out w1.heap.size rfl (heap_alloc_new w1 _) hld ?_; intro cap w3 hcap hrow hty hf1; have hf : Frm (fun _ => False) w1 w3 := ((Frm.refl (fun _ => False) w1).alloc _).drew.trans hf1; have HF := Lib.hid hf; have HR := Lib.hid hrow; have HTY := Lib.hid hty; have HCAP := Lib.hid hcap; have k1 := hf.cell hlt id c2; have kf := hf.frozen hlt id f2; clear hf hf1 hrow hty hcap)
    all_goals
      go_wp2_with fail
      go_ret2
      have hlen : (L ++ [now + P]).length = L.length + 1 := by simp
      have hlL : L.length = l.length - k := by rw [← HLd.out, List.length_drop]
      refine ⟨true, L ++ [now + P], rfl, ⟨k, hk, D1.out, D2.out, .inl ⟨rfl, hnk, by rw [HLd.out]⟩⟩, by omega, ⟨_, _, HB.out.grow HF.out ?_ ?_ HR.out HTY.out hlen HCAP.out (hT _ ?_)⟩, ?_⟩
      · show (w1.alloc _).heap.size = _
        rw [World.size_alloc]
      · omega
      · show _ ≤ (w1.alloc _).heap.size
        rw [World.size_alloc]; omega
      · exact (F1.out.trans HF.out.of_none).setCell (p := ⟨b, 2, none⟩) (.inl rfl) _
end
end Go.Proofs.Ytadngogbnjodhaa
