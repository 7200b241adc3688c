/- The heap's order: a plain law. -/
import Derived.Test.YteclboaeoohfoaaHA
namespace Go.Proofs.Yteclboaeoohfoaa
theorem lt_iff (a b : Mb) : ltB a b = true ↔ a.key < b.key ∨ a.key = b.key ∧ a.id < b.id := by simp [ltB]
theorem nlt_iff (a b : Mb) : ltB a b = false ↔ b.key < a.key ∨ a.key = b.key ∧ b.id ≤ a.id := by
  rw [← Bool.not_eq_true, lt_iff]; omega
/-- j's member is not ahead of k's. -/
def Ok (M : List Mb) (j k : Nat) : Prop := ∀ (m p : Mb), M[j]? = some m → M[k]? = some p → ltB m p = false
def Ord (M : List Mb) : Prop := ∀ (j : Nat), 0 < j → Ok M j ((j - 1) / 2)
def UpInv (M : List Mb) (i : Nat) : Prop := (∀ (j : Nat), 0 < j → j ≠ i → Ok M j ((j - 1) / 2)) ∧ (∀ (j : Nat), 0 < j → (j - 1) / 2 = i → 0 < i → Ok M j ((i - 1) / 2))
def DownInv (M : List Mb) (i : Nat) : Prop := (∀ (j : Nat), 0 < j → (j - 1) / 2 ≠ i → Ok M j ((j - 1) / 2)) ∧ (∀ (j : Nat), 0 < j → (j - 1) / 2 = i → 0 < i → Ok M j ((i - 1) / 2))
def MendInv (M : List Mb) (i : Nat) : Prop := (∀ (j : Nat), 0 < j → j ≠ i → (j - 1) / 2 ≠ i → Ok M j ((j - 1) / 2)) ∧ (∀ (j : Nat), 0 < j → (j - 1) / 2 = i → 0 < i → Ok M j ((i - 1) / 2))
section
variable {M : List Mb} {i k : Nat} {a b : Mb}
theorem sw_fst (hi : M[i]? = some a) (hne : i ≠ k) : (sw M i k a b)[i]? = some b := by
  have hil := (List.getElem?_eq_some_iff.1 hi).1
  simp [sw, hne.symm, hil]
theorem sw_snd (hk : M[k]? = some b) : (sw M i k a b)[k]? = some a := by
  have hkl := (List.getElem?_eq_some_iff.1 hk).1
  simp [sw, hkl]
theorem sw_oth {j : Nat} (h1 : j ≠ i) (h2 : j ≠ k) : (sw M i k a b)[j]? = M[j]? := by
  simp [sw, h1.symm, h2.symm]
theorem up_step (h : UpInv M i) (h0 : 0 < i) (hk : k = (i - 1) / 2) (hi : M[i]? = some a) (hb : M[k]? = some b) (hl : ltB a b = true) : UpInv (sw M i k a b) k := by
  have hki : k ≠ i := by omega
  obtain ⟨p1, p2⟩ := h
  rw [lt_iff] at hl
  refine ⟨fun j hj hjk m p hm hp => ?_, fun j hj hjk hk0 m p hm hp => ?_⟩
  · by_cases e : j = i
    · subst e
      rw [sw_fst hi hki.symm] at hm
      rw [← hk, sw_snd hb] at hp
      obtain rfl := Option.some.inj hm
      obtain rfl := Option.some.inj hp
      rw [nlt_iff]; omega
    · rw [sw_oth e hjk] at hm
      by_cases e1 : (j - 1) / 2 = i
      · rw [e1, sw_fst hi hki.symm] at hp
        obtain rfl := Option.some.inj hp
        exact p2 j hj e1 h0 m b hm (by rw [← hk]; exact hb)
      · by_cases e2 : (j - 1) / 2 = k
        · rw [e2, sw_snd hb] at hp
          obtain rfl := Option.some.inj hp
          have h3 := p1 j hj e m b hm (by rw [e2]; exact hb)
          rw [nlt_iff] at h3 ⊢; omega
        · rw [sw_oth e1 e2] at hp
          exact p1 j hj e m p hm hp
  · rw [sw_oth (by omega) (by omega)] at hp
    have h4 := p1 k hk0 hki b p hb hp
    by_cases e : j = i
    · subst e
      rw [sw_fst hi hki.symm] at hm
      obtain rfl := Option.some.inj hm
      exact h4
    · rw [sw_oth e (by omega)] at hm
      have h3 := p1 j hj e m b hm (by rw [hjk]; exact hb)
      rw [nlt_iff] at h3 h4 ⊢; omega
theorem up_ord : ∀ (i : Nat) (M : List Mb), i < M.length → UpInv M i → Ord (upF M i) := by
  intro i
  induction i using Nat.strongRecOn with
  | _ i ih =>
    intro M hl h
    by_cases h0 : 0 < i
    · obtain ⟨a, ha⟩ : ∃ a, M[i]? = some a := ⟨_, List.getElem?_eq_getElem hl⟩
      obtain ⟨b, hb⟩ : ∃ b, M[(i - 1) / 2]? = some b := ⟨_, List.getElem?_eq_getElem (by omega)⟩
      cases hlt : ltB a b with
      | true =>
        rw [upF_go h0 ha hb hlt]
        exact ih _ (by omega) _ (by rw [sw_len]; omega) (up_step h h0 rfl ha hb hlt)
      | false =>
        rw [upF_stop ha hb hlt]
        intro j hj
        by_cases e : j = i
        · subst e
          intro m p hm hp
          rw [ha] at hm; rw [hb] at hp
          obtain rfl := Option.some.inj hm
          obtain rfl := Option.some.inj hp
          exact hlt
        · exact h.1 j hj e
    · have : i = 0 := by omega
      subst this
      rw [upF_zero]
      exact fun j hj => h.1 j hj (by omega)
theorem kid_is (M : List Mb) (i : Nat) : kidF M i = 2 * i + 1 ∨ kidF M i = 2 * i + 2 := by
  unfold kidF; split
  · split <;> simp
  · simp
theorem kid_least {q : Nat} (hq : kidF M i = q) (ha : M[q]? = some a) {j : Nat} (hj : 0 < j) (hji : (j - 1) / 2 = i) {m : Mb} (hm : M[j]? = some m) : ltB m a = false := by
  subst hq
  have hj' : j = 2 * i + 1 ∨ j = 2 * i + 2 := by omega
  have hself : ltB a a = false := by rw [nlt_iff]; omega
  by_cases hlen : M.length ≤ 2 * i + 2
  · have hk := kidF_one hlen
    rw [hk] at ha
    have hjl := (List.getElem?_eq_some_iff.1 hm).1
    have : j = 2 * i + 1 := by omega
    subst this
    rw [ha] at hm; obtain rfl := Option.some.inj hm
    exact hself
  · obtain ⟨x, hx⟩ : ∃ x, M[2 * i + 2]? = some x := ⟨_, List.getElem?_eq_getElem (by omega)⟩
    obtain ⟨y, hy⟩ : ∃ y, M[2 * i + 1]? = some y := ⟨_, List.getElem?_eq_getElem (by omega)⟩
    have hk := kidF_two hx hy
    cases hlt : ltB x y with
    | true =>
      rw [hlt, if_pos rfl] at hk
      rw [hk, hx] at ha; obtain rfl := Option.some.inj ha
      rcases hj' with rfl | rfl
      · rw [hy] at hm; obtain rfl := Option.some.inj hm
        rw [lt_iff] at hlt; rw [nlt_iff]; omega
      · rw [hx] at hm; obtain rfl := Option.some.inj hm; exact hself
    | false =>
      rw [hlt, if_neg (by decide)] at hk
      rw [hk, hy] at ha; obtain rfl := Option.some.inj ha
      rcases hj' with rfl | rfl
      · rw [hy] at hm; obtain rfl := Option.some.inj hm; exact hself
      · rw [hx] at hm; obtain rfl := Option.some.inj hm; exact hlt
theorem down_step {q : Nat} (h : DownInv M i) (hq : kidF M i = q) (ha : M[q]? = some a) (hb : M[i]? = some b) (hl : ltB a b = true) : DownInv (sw M i q b a) q := by
  have hqi : i ≠ q := by have := kidF_gt M i; omega
  have hqp : (q - 1) / 2 = i ∧ 0 < q := by rcases kid_is M i with e | e <;> omega
  obtain ⟨p1, p2⟩ := h
  rw [lt_iff] at hl
  refine ⟨fun j hj hjq m p hm hp => ?_, fun j hj hjq _ m p hm hp => ?_⟩
  · by_cases e : j = q
    · subst e
      rw [sw_snd ha] at hm
      rw [hqp.1, sw_fst hb hqi] at hp
      obtain rfl := Option.some.inj hm
      obtain rfl := Option.some.inj hp
      rw [nlt_iff]; omega
    · by_cases e1 : (j - 1) / 2 = i
      · rw [sw_oth (by omega) e] at hm
        rw [e1, sw_fst hb hqi] at hp
        obtain rfl := Option.some.inj hp
        exact kid_least hq ha hj e1 hm
      · rw [sw_oth e1 hjq] at hp
        by_cases e2 : j = i
        · subst e2
          rw [sw_fst hb hqi] at hm
          obtain rfl := Option.some.inj hm
          exact p2 q hqp.2 hqp.1 hj a p ha hp
        · rw [sw_oth e2 e] at hm
          exact p1 j hj e1 m p hm hp
  · rw [hqp.1, sw_fst hb hqi] at hp
    obtain rfl := Option.some.inj hp
    rw [sw_oth (by omega) (by omega)] at hm
    exact p1 j hj (by omega) m a hm (by rw [hjq]; exact ha)
end
theorem down_ord : ∀ (d i : Nat) (M : List Mb), M.length - i = d → i < M.length → DownInv M i → Ord (downF M i) := by
  intro d
  induction d using Nat.strongRecOn with
  | _ d ih =>
    intro i M hd hl h
    obtain ⟨q, hq⟩ : ∃ q, kidF M i = q := ⟨_, rfl⟩
    have hgt : i < q := by have := kidF_gt M i; omega
    obtain ⟨b, hb⟩ : ∃ b, M[i]? = some b := ⟨_, List.getElem?_eq_getElem hl⟩
    by_cases hql : q < M.length
    · obtain ⟨a, ha⟩ : ∃ a, M[q]? = some a := ⟨_, List.getElem?_eq_getElem hql⟩
      cases hlt : ltB a b with
      | true =>
        rw [downF_go hq ha hb hlt]
        exact ih (M.length - q) (by omega) q _ (by rw [sw_len]) (by rw [sw_len]; omega) (down_step h hq ha hb hlt)
      | false =>
        rw [downF_stop hq ha hb hlt]
        intro j hj
        by_cases e : (j - 1) / 2 = i
        · intro m p hm hp
          rw [e, hb] at hp; obtain rfl := Option.some.inj hp
          have h3 := kid_least hq ha hj e hm
          rw [nlt_iff] at h3 hlt ⊢; omega
        · exact h.1 j hj e
    · rw [downF_end hq (by omega)]
      intro j hj
      by_cases e : (j - 1) / 2 = i
      · intro m p hm hp
        have hjl := (List.getElem?_eq_some_iff.1 hm).1
        by_cases hlen : M.length ≤ 2 * i + 2
        · have := kidF_one hlen; omega
        · have := kid_is M i; omega
      · exact h.1 j hj e
theorem ord_down {M : List Mb} (h : Ord M) (i : Nat) : DownInv M i := by
  refine ⟨fun j hj _ => h j hj, fun j hj hji h0 m p hm hp => ?_⟩
  have hjl := (List.getElem?_eq_some_iff.1 hm).1
  obtain ⟨b, hb⟩ : ∃ b, M[i]? = some b := ⟨_, List.getElem?_eq_getElem (by omega)⟩
  have h1 := h j hj m b hm (by rw [hji]; exact hb)
  have h2 := h i h0 b p hb hp
  rw [nlt_iff] at h1 h2 ⊢; omega
theorem mend_ord {M : List Mb} {i : Nat} (hl : i < M.length) (h : MendInv M i) : Ord (mendF M i) := by
  rw [mendF, if_pos hl]
  obtain ⟨a, ha⟩ : ∃ a, M[i]? = some a := ⟨_, List.getElem?_eq_getElem hl⟩
  have hstay : upF M i = M → DownInv M i → Ord (downF (upF M i) i) := fun e hd => by
    rw [e]; exact down_ord _ i M rfl hl hd
  by_cases h0 : 0 < i
  · obtain ⟨b, hb⟩ : ∃ b, M[(i - 1) / 2]? = some b := ⟨_, List.getElem?_eq_getElem (by omega)⟩
    cases hlt : ltB a b with
    | true =>
      have hu : UpInv M i := by
        refine ⟨fun j hj hji => ?_, h.2⟩
        by_cases e : (j - 1) / 2 = i
        · intro m p hm hp
          rw [e, ha] at hp; obtain rfl := Option.some.inj hp
          have h3 := h.2 j hj e h0 m b hm hb
          rw [lt_iff] at hlt
          rw [nlt_iff] at h3 ⊢; omega
        · exact h.1 j hj hji e
      exact down_ord _ i _ rfl (by rw [upF_len]; exact hl) (ord_down (up_ord i M hl hu) i)
    | false =>
      refine hstay (upF_stop ha hb hlt) ⟨fun j hj hji => ?_, h.2⟩
      by_cases e : j = i
      · subst e
        intro m p hm hp
        rw [ha] at hm; rw [hb] at hp
        obtain rfl := Option.some.inj hm
        obtain rfl := Option.some.inj hp
        exact hlt
      · exact h.1 j hj e hji
  · have : i = 0 := by omega
    subst this
    exact hstay (upF_zero M) ⟨fun j hj hji => h.1 j hj (by omega) hji, fun j hj hji h0' => by omega⟩
theorem root_least {M : List Mb} (h : Ord M) {r : Mb} (hr : M[0]? = some r) : ∀ (i : Nat) (m : Mb), M[i]? = some m → ltB m r = false := by
  intro i
  induction i using Nat.strongRecOn with
  | _ i ih =>
    intro m hm
    have hl := (List.getElem?_eq_some_iff.1 hm).1
    by_cases h0 : 0 < i
    · obtain ⟨b, hb⟩ : ∃ b, M[(i - 1) / 2]? = some b := ⟨_, List.getElem?_eq_getElem (by omega)⟩
      have h1 := ih _ (by omega) b hb
      have h2 := h i h0 m b hm hb
      rw [nlt_iff] at h1 h2 ⊢; omega
    · have : i = 0 := by omega
      subst this
      rw [hr] at hm; obtain rfl := Option.some.inj hm
      rw [nlt_iff]; omega
theorem up_mem (x : Mb) : ∀ (i : Nat) (M : List Mb), i < M.length → (x ∈ upF M i ↔ x ∈ M) := by
  intro i
  induction i using Nat.strongRecOn with
  | _ i ih =>
    intro M hl
    by_cases h0 : 0 < i
    · obtain ⟨a, ha⟩ : ∃ a, M[i]? = some a := ⟨_, List.getElem?_eq_getElem hl⟩
      obtain ⟨b, hb⟩ : ∃ b, M[(i - 1) / 2]? = some b := ⟨_, List.getElem?_eq_getElem (by omega)⟩
      cases hlt : ltB a b with
      | true =>
        rw [upF_go h0 ha hb hlt, ih _ (by omega) _ (by rw [sw_len]; omega)]
        exact sw_mem ha hb
      | false => rw [upF_stop ha hb hlt]
    · have : i = 0 := by omega
      subst this
      rw [upF_zero]
theorem down_mem (x : Mb) : ∀ (d i : Nat) (M : List Mb), M.length - i = d → i < M.length → (x ∈ downF M i ↔ x ∈ M) := by
  intro d
  induction d using Nat.strongRecOn with
  | _ d ih =>
    intro i M hd hl
    obtain ⟨q, hq⟩ : ∃ q, kidF M i = q := ⟨_, rfl⟩
    have hgt : i < q := by have := kidF_gt M i; omega
    obtain ⟨b, hb⟩ : ∃ b, M[i]? = some b := ⟨_, List.getElem?_eq_getElem hl⟩
    by_cases hql : q < M.length
    · obtain ⟨a, ha⟩ : ∃ a, M[q]? = some a := ⟨_, List.getElem?_eq_getElem hql⟩
      cases hlt : ltB a b with
      | true =>
        rw [downF_go hq ha hb hlt, ih (M.length - q) (by omega) q _ (by rw [sw_len]) (by rw [sw_len]; omega)]
        exact sw_mem hb ha
      | false => rw [downF_stop hq ha hb hlt]
    · rw [downF_end hq (by omega)]
theorem mend_mem (x : Mb) (M : List Mb) (i : Nat) : x ∈ mendF M i ↔ x ∈ M := by
  unfold mendF
  split
  · rename_i h
    rw [down_mem x _ i _ rfl (by rw [upF_len]; exact h), up_mem x i M h]
  · rfl
end Go.Proofs.Yteclboaeoohfoaa
