/- Descriptors as bytes. -/
import Derived.Test.YtkmgdfcpfdnkfaaB3
namespace Go.Proofs.Ytkmgdfcpfdnkfaa
def DM.fields (d : DM) : List (Nat × Nat) := [((firstB d).toNat, 1), (d.status.toNat, 1), (d.req.toNat, 2), (d.slot.toNat, 2), (d.gen.toNat, 4), (d.frm.toNat, 2), (d.len.toNat, 4), (0, 1)]
def bodyB (d : DM) : List Nat := rowB d.fields
def encB (d : DM) : List Nat := bodyB d ++ big 3 (chk (bodyB d))
def bytesB (d : DM) : List Nat := if mayB d then encB d else []
theorem rowB_lt (fs : List (Nat × Nat)) : ∀ x ∈ rowB fs, x < 256 := by
  intro x hx
  simp only [rowB, List.mem_flatMap] at hx
  obtain ⟨f, _, hx⟩ := hx
  exact big_lt _ _ x hx
theorem bodyB_len (d : DM) : (bodyB d).length = 17 := by simp [bodyB, rowB, DM.fields, big_length]
theorem encB_len (d : DM) : (encB d).length = 20 := by simp [encB, bodyB_len, big_length]
theorem encB_lt (d : DM) : ∀ x ∈ encB d, x < 256 := by
  intro x hx
  simp only [encB, List.mem_append] at hx
  rcases hx with hx | hx
  · exact rowB_lt _ x hx
  · exact big_lt _ _ x hx
theorem bytesB_lt (d : DM) : ∀ x ∈ bytesB d, x < 256 := by
  unfold bytesB; split
  · exact encB_lt d
  · simp
theorem may_nat {d : DM} (h : mayB d = true) (hg : 0 ≤ d.gen) : ∃ op req slot gen frm len status : Nat, d = ⟨op, req, slot, gen, frm, len, d.device, d.done, status⟩ ∧
    op ≤ 15 ∧ req ≤ 65535 ∧ slot ≤ 65535 ∧ gen ≤ 4294967295 ∧ frm ≤ 65535 ∧ len ≤ 65536 ∧ status ≤ 255 ∧ (d.done = true ∨ status = 0) := by
  obtain ⟨op, req, slot, gen, frm, len, device, done, status⟩ := d
  simp only [mayB, inB, Bool.and_eq_true, decide_eq_true_eq, Bool.or_eq_true, beq_iff_eq] at h hg
  obtain ⟨⟨⟨⟨⟨⟨⟨⟨a1, a2⟩, ⟨b1, b2⟩⟩, ⟨c1, c2⟩⟩, d2⟩, ⟨e1, e2⟩⟩, ⟨f1, f2⟩⟩, ⟨g1, g2⟩⟩, hh⟩ := h
  obtain ⟨op, rfl⟩ := Int.eq_ofNat_of_zero_le a1
  obtain ⟨req, rfl⟩ := Int.eq_ofNat_of_zero_le b1
  obtain ⟨slot, rfl⟩ := Int.eq_ofNat_of_zero_le c1
  obtain ⟨gen, rfl⟩ := Int.eq_ofNat_of_zero_le hg
  obtain ⟨frm, rfl⟩ := Int.eq_ofNat_of_zero_le e1
  obtain ⟨len, rfl⟩ := Int.eq_ofNat_of_zero_le f1
  obtain ⟨status, rfl⟩ := Int.eq_ofNat_of_zero_le g1
  refine ⟨op, req, slot, gen, frm, len, status, rfl, by omega, by omega, by omega, by omega, by omega, by omega, by omega, ?_⟩
  rcases hh with hh | hh
  · exact .inl hh
  · exact .inr (by omega)
theorem first_lt {d : DM} (h : mayB d = true) : 0 ≤ firstB d ∧ firstB d < 64 := by
  obtain ⟨op, req, slot, gen, frm, len, device, done, status⟩ := d
  simp only [mayB, inB, Bool.and_eq_true, decide_eq_true_eq] at h
  unfold firstB
  cases device <;> cases done <;> simp <;> omega
end Go.Proofs.Ytkmgdfcpfdnkfaa
