/- Bytes, in plain Lean: numbers as bytes, sums, descriptors. -/
import Derived.Test.YtkmgdfcpfdnkfaaRows
namespace Go.Proofs.Ytkmgdfcpfdnkfaa
/-- The last n bytes of a number, the greatest first. -/
def big : Nat → Nat → List Nat
  | 0, _ => []
  | n + 1, v => v / 256 ^ n % 256 :: big n v
theorem big_length : ∀ n v, (big n v).length = n
  | 0, _ => rfl
  | n + 1, v => by simp [big, big_length n v]
theorem big_lt : ∀ n v, ∀ x ∈ big n v, x < 256
  | 0, _, x, h => by simp [big] at h
  | n + 1, v, x, h => by
    simp only [big, List.mem_cons] at h
    rcases h with rfl | h
    · exact Nat.mod_lt _ (by decide)
    · exact big_lt n v x h
def num (l : List Nat) : Nat := l.foldl (fun v x => v * 256 + x) 0
theorem num_snoc (l : List Nat) (x : Nat) : num (l ++ [x]) = num l * 256 + x := by simp [num]
theorem fold_big : ∀ (n v k : Nat), (big n v).foldl (fun v x => v * 256 + x) k = k * 256 ^ n + v % 256 ^ n
  | 0, v, k => by simp [big, Nat.mod_one]
  | n + 1, v, k => by
    rw [big, List.foldl_cons, fold_big n v, Nat.pow_succ, Nat.mod_mul, Nat.add_mul, Nat.mul_assoc, Nat.mul_comm (256 ^ n) 256, Nat.mul_comm (v / 256 ^ n % 256)]
    omega
theorem num_big {n v : Nat} (h : v < 256 ^ n) : num (big n v) = v := by
  rw [num, fold_big, Nat.mod_eq_of_lt h]; omega
theorem big_inj {n v v' : Nat} (h : v < 256 ^ n) (h' : v' < 256 ^ n) (e : big n v = big n v') : v = v' := by
  rw [← num_big h, ← num_big h', e]
theorem num_lt : ∀ (l : List Nat), (∀ x ∈ l, x < 256) → ∀ k, l.foldl (fun v x => v * 256 + x) k < (k + 1) * 256 ^ l.length
  | [], _, k => by simp
  | x :: l, h, k => by
    have hx := h x (by simp)
    have := num_lt l (fun y hy => h y (by simp [hy])) (k * 256 + x)
    rw [List.foldl_cons, List.length_cons, Nat.pow_succ]
    refine Nat.lt_of_lt_of_le this ?_
    rw [Nat.mul_comm (256 ^ l.length) 256, ← Nat.mul_assoc]
    exact Nat.mul_le_mul_right _ (by omega)
/-- The sum of bytes, each times its place. -/
def wsum : Nat → List Nat → Nat
  | _, [] => 0
  | i, x :: l => (i + 1) * x + wsum (i + 1) l
theorem wsum_append : ∀ (i : Nat) (l l' : List Nat), wsum i (l ++ l') = wsum i l + wsum (i + l.length) l'
  | i, [], l' => by simp [wsum]
  | i, x :: l, l' => by
    have := wsum_append (i + 1) l l'
    simp only [List.cons_append, wsum, this, List.length_cons]
    rw [show i + 1 + l.length = i + (l.length + 1) by omega]; omega
theorem wsum_le : ∀ (l : List Nat) (i B : Nat), (∀ x ∈ l, x < 256) → i + l.length ≤ B → wsum i l ≤ l.length * (B * 255)
  | [], _, _, _, _ => by simp [wsum]
  | x :: l, i, B, h, hB => by
    simp only [List.length_cons] at hB ⊢
    have hx := h x (by simp)
    have := wsum_le l (i + 1) B (fun y hy => h y (by simp [hy])) (by omega)
    have h1 : (i + 1) * x ≤ B * 255 := Nat.mul_le_mul (by omega) (by omega)
    have h2 : (l.length + 1) * (B * 255) = l.length * (B * 255) + B * 255 := Nat.succ_mul _ _
    rw [wsum]; omega
def chk (l : List Nat) : Nat := wsum 0 l % 16777216
theorem wsum_take_succ {l : List Nat} {k x : Nat} (h : l[k]? = some x) : wsum 0 (l.take (k + 1)) = wsum 0 (l.take k) + (k + 1) * x := by
  have hk := (List.getElem?_eq_some_iff.1 h).1
  rw [List.take_add_one, h, wsum_append]
  simp [wsum, List.length_take, Nat.min_eq_left (Nat.le_of_lt hk)]
/-- One byte is another one. -/
theorem wsum_set : ∀ (l : List Nat) (i k x y : Nat), l[k]? = some x → wsum i (l.set k y) + (i + k + 1) * x = wsum i l + (i + k + 1) * y
  | [], _, _, _, _, h => by simp at h
  | a :: l, i, 0, x, y, h => by simp at h; subst h; simp [wsum]; omega
  | a :: l, i, k + 1, x, y, h => by
    have := wsum_set l (i + 1) k x y (by simpa using h)
    rw [show i + 1 + k + 1 = i + (k + 1) + 1 by omega] at this
    simp only [List.set_cons_succ, wsum]; omega
end Go.Proofs.Ytkmgdfcpfdnkfaa
