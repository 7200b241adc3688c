/- How often servers run: a plain law. -/
import Derived.Test.YtadngogbnjodhaaB5
namespace Go.Proofs.Ytadngogbnjodhaa
/-- How many of these times are below t. -/
def cnt (us : List Nat) (t : Nat) : Nat := (us.filter fun u => decide (u < t)).length
theorem cnt_iff {us : List Nat} (hs : us.Pairwise (· < ·)) (k t : Nat) : k < cnt us t ↔ ∃ x, us[k]? = some x ∧ x < t := by
  induction us generalizing k with
  | nil => simp [cnt]
  | cons a rest ih =>
    obtain ⟨h1, h2⟩ := List.pairwise_cons.1 hs
    by_cases ha : a < t
    · have hc : cnt (a :: rest) t = cnt rest t + 1 := by simp [cnt, ha]
      cases k with
      | zero => rw [hc]; simp [ha]
      | succ k => rw [hc]; simp only [List.getElem?_cons_succ]; rw [← ih h2]; omega
    · have hz : cnt (a :: rest) t = 0 := by
        unfold cnt
        rw [List.length_eq_zero_iff, List.filter_eq_nil_iff]
        intro x hx
        simp at hx ⊢
        rcases hx with rfl | hx
        · omega
        · have := h1 x hx; omega
      rw [hz]
      constructor
      · intro h; omega
      · rintro ⟨x, hx, hlt⟩
        exfalso
        cases k with
        | zero => simp at hx; omega
        | succ k =>
          simp only [List.getElem?_cons_succ] at hx
          have := h1 x (List.mem_of_getElem? hx)
          omega
theorem cnt_le_len (us : List Nat) (t : Nat) : cnt us t ≤ us.length := List.length_filter_le _ _
theorem cnt_mono (us : List Nat) {s t : Nat} (h : s ≤ t) : cnt us s ≤ cnt us t := by
  induction us with
  | nil => simp [cnt]
  | cons a rest ih =>
    unfold cnt at ih ⊢
    by_cases h1 : a < s
    · have h2 : a < t := by omega
      simp [h1, h2]; exact ih
    · by_cases h2 : a < t
      · simp [h1, h2]; omega
      · simp [h1, h2]; exact ih
theorem cnt_snoc (us : List Nat) (x t : Nat) : cnt (us ++ [x]) t = cnt us t + (if x < t then 1 else 0) := by
  unfold cnt
  rw [List.filter_append, List.length_append]
  by_cases h : x < t <;> simp [h]
theorem cnt_all {us : List Nat} {t : Nat} (h : ∀ u, u ∈ us → u < t) : cnt us t = us.length := by
  unfold cnt
  rw [List.filter_eq_self.2]
  intro u hu
  simpa using h u hu
/-- In a window of P there are B at most. -/
def Gap (B P : Nat) (us : List Nat) : Prop := ∀ (k u u' : Nat), us[k]? = some u → us[k + B]? = some u' → u + P ≤ u'
theorem cnt_window {us : List Nat} {B P : Nat} (hs : us.Pairwise (· < ·)) (hg : Gap B P us) (t : Nat) : cnt us (t + P) ≤ cnt us t + B := by
  by_cases h : cnt us (t + P) ≤ cnt us t + B
  · exact h
  · exfalso
    obtain ⟨u', h1, h2⟩ := (cnt_iff hs (cnt us t + B) (t + P)).1 (by omega)
    have hl := (List.getElem?_eq_some_iff.1 h1).1
    obtain ⟨u, hu⟩ : ∃ u, us[cnt us t]? = some u := ⟨_, List.getElem?_eq_getElem (by omega)⟩
    have h3 := hg _ _ _ hu h1
    have h4 : ¬ u < t := fun hlt => by
      have := (cnt_iff hs (cnt us t) t).2 ⟨u, hu, hlt⟩
      omega
    omega
theorem cnt_windows {us : List Nat} {B P : Nat} (hs : us.Pairwise (· < ·)) (hg : Gap B P us) (t m : Nat) : cnt us (t + P * m) ≤ cnt us t + m * B := by
  induction m with
  | zero => simp
  | succ m ih =>
    have := cnt_window hs hg (t + P * m)
    rw [show t + P * (m + 1) = t + P * m + P by rw [Nat.mul_succ]; omega]
    rw [Nat.succ_mul]; omega
theorem upN_span (n : Nat) {P : Nat} (hP : 0 < P) : n ≤ P * upN n P := by
  have h := Nat.div_add_mod n P
  unfold upN
  split
  · omega
  · rw [Nat.mul_succ]
    have := Nat.mod_lt n hP
    omega
theorem cnt_span {us : List Nat} {B P : Nat} (hs : us.Pairwise (· < ·)) (hg : Gap B P us) (hP : 0 < P) {s t : Nat} (h : s ≤ t) : cnt us t ≤ cnt us s + upN (t - s) P * B := by
  have h1 := cnt_windows hs hg s (upN (t - s) P)
  have h2 := upN_span (t - s) hP
  exact Nat.le_trans (cnt_mono us (by omega)) h1
structure SInv (v : SrvM) (us : List Nat) (now : Nat) : Prop where
  sorted : us.Pairwise (· < ·)
  lt : ∀ u, u ∈ us → u < now
  gap : Gap v.B v.Pr us
  back : ∃ d, d ≤ us.length ∧ v.l = (us.drop d).map (· + v.Pr) ∧ ∀ (i u : Nat), i < d → us[i]? = some u → u + v.Pr ≤ v.bn
theorem SInv.wait {v : SrvM} {us : List Nat} {now : Nat} (h : SInv v us now) : SInv v us (now + 1) := ⟨h.sorted, fun u hu => by have := h.lt u hu; omega, h.gap, h.back⟩
theorem back_get {us : List Nat} {d P i x : Nat} (h : ((us.drop d).map (· + P))[i]? = some x) : ∃ u, us[d + i]? = some u ∧ x = u + P := by
  rw [List.getElem?_map, List.getElem?_drop] at h
  obtain ⟨u, hu, rfl⟩ := Option.map_eq_some_iff.1 h
  exact ⟨u, hu, rfl⟩
/-- What was dropped is over. -/
theorem SInv.drop {v : SrvM} {us : List Nat} {now k : Nat} (h : SInv v us now) (hb : v.bn ≤ now) (hk : k ≤ v.l.length) (hd : ∀ i x, i < k → v.l[i]? = some x → x ≤ now) :
    ∃ d, d ≤ us.length ∧ v.l.drop k = (us.drop d).map (· + v.Pr) ∧ (v.l.drop k).length = us.length - d ∧ ∀ (i u : Nat), i < d → us[i]? = some u → u + v.Pr ≤ now := by
  obtain ⟨d, h1, h2, h3⟩ := h.back
  have hl : v.l.length = us.length - d := by rw [h2]; simp
  refine ⟨d + k, by omega, by rw [h2, ← List.map_drop, List.drop_drop], by rw [List.length_drop]; omega, fun i u hi hu => ?_⟩
  by_cases e : i < d
  · have := h3 i u e hu; omega
  · have hx : v.l[i - d]? = some (u + v.Pr) := by
      rw [h2, List.getElem?_map, List.getElem?_drop, show d + (i - d) = i by omega, hu]; rfl
    exact hd (i - d) _ (by omega) hx
theorem SInv.tried {v v' : SrvM} {us : List Nat} {now : Nat} (h : SInv v us now) (hb : v.bn ≤ now) (ht : Tried now v v') : SInv v' us (now + 1) := by
  rcases ht with ⟨_, rfl⟩ | ⟨_, k, hk, hd, _, _, rfl⟩
  · exact h.wait
  · obtain ⟨d, h1, h2, _, h3⟩ := h.drop hb hk hd
    exact ⟨h.sorted, h.wait.lt, h.gap, d, h1, h2, h3⟩
theorem SInv.used {v v' : SrvM} {us : List Nat} {now : Nat} (h : SInv v us now) (hb : v.bn ≤ now) (ht : Used now v v') : SInv v' (us ++ [now]) (now + 1) := by
  obtain ⟨_, k, hk, hd, _, hn, rfl⟩ := ht
  obtain ⟨d, h1, h2, hl, h3⟩ := h.drop hb hk hd
  have hlen : v.l.length - k = us.length - d := by rw [List.length_drop] at hl; exact hl
  refine ⟨?_, fun u hu => ?_, fun i u u' hu hu' => ?_, d, by simp; omega, ?_, fun i u hi hu => ?_⟩
  · rw [List.pairwise_append]
    refine ⟨h.sorted, List.pairwise_singleton _ _, fun a ha b hb => ?_⟩
    simp at hb; subst hb
    exact h.lt a ha
  · rcases List.mem_append.1 hu with hu | hu
    · have := h.lt u hu; omega
    · simp at hu; omega
  · simp only at hu' ⊢
    have hil := (List.getElem?_eq_some_iff.1 hu').1
    rw [List.length_append, List.length_singleton] at hil
    by_cases e : i + v.B < us.length
    · rw [List.getElem?_append_left (by omega)] at hu
      rw [List.getElem?_append_left e] at hu'
      exact h.gap i u u' hu hu'
    · have e2 : i + v.B = us.length := by omega
      rw [e2, List.getElem?_append_right (Nat.le_refl _), Nat.sub_self] at hu'
      simp at hu'
      subst hu'
      by_cases e3 : i < us.length
      · rw [List.getElem?_append_left e3] at hu
        exact h3 i u (by omega) hu
      · omega
  · simp only
    rw [h2, List.drop_append_of_le_length h1, List.map_append]
    rfl
  · simp only
    rw [List.getElem?_append_left (by omega)] at hu
    exact h3 i u hi hu
/-- All servers' times. -/
structure GInv (L : List SrvM) (G : List (List Nat)) (now : Nat) : Prop where
  len : G.length = L.length
  inv : ∀ (i : Nat) (v : SrvM) (us : List Nat), L[i]? = some v → G[i]? = some us → SInv v us now
def cntG (G : List (List Nat)) (t : Nat) : Nat := (G.map fun us => cnt us t).sum
theorem cntG_set {G : List (List Nat)} {i : Nat} {us us' : List Nat} {t d : Nat} (hi : G[i]? = some us) (h : cnt us' t = cnt us t + d) : cntG (G.set i us') t = cntG G t + d := by
  induction G generalizing i with
  | nil => simp at hi
  | cons a rest ih =>
    cases i with
    | zero =>
      simp at hi; subst hi
      simp [cntG, h]; omega
    | succ i =>
      simp only [List.getElem?_cons_succ] at hi
      have := ih hi
      simp only [List.set_cons_succ, cntG, List.map_cons, List.sum_cons] at this ⊢
      omega
theorem cntG_ge {L : List SrvM} {G : List (List Nat)} {now : Nat} (h : GInv L G now) {t : Nat} (ht : now ≤ t) : cntG G t = cntG G now := by
  unfold cntG
  congr 1
  refine List.map_congr_left fun us hus => ?_
  obtain ⟨i, hi⟩ := List.getElem?_of_mem hus
  have hil := (List.getElem?_eq_some_iff.1 hi).1
  obtain ⟨v, hv⟩ : ∃ v, L[i]? = some v := ⟨_, List.getElem?_eq_getElem (by rw [← h.len]; exact hil)⟩
  have hs := h.inv i v us hv hi
  rw [cnt_all fun u hu => hs.lt u hu, cnt_all fun u hu => by have := hs.lt u hu; omega]
/-- What stays of a server. -/
def Same (v v' : SrvM) : Prop := v'.B = v.B ∧ v'.Pr = v.Pr
theorem Tried.same {now : Nat} {v v' : SrvM} (h : Tried now v v') : Same v v' := by
  rcases h with ⟨_, rfl⟩ | ⟨_, k, _, _, _, _, rfl⟩ <;> exact ⟨rfl, rfl⟩
theorem Used.same {now : Nat} {v v' : SrvM} (h : Used now v v') : Same v v' := by
  obtain ⟨_, k, _, _, _, _, rfl⟩ := h
  exact ⟨rfl, rfl⟩
theorem GInv.tick {L L' : List SrvM} {G : List (List Nat)} {now : Nat} {r : Int} (h : GInv L G now) (hb : ∀ (i : Nat) (v : SrvM), L[i]? = some v → v.bn ≤ now) (hr : ServeR now L L' r) :
    ∃ G', GInv L' G' (now + 1) ∧ (∀ t, t ≤ now → cntG G' t = cntG G t) ∧ cntG G' (now + 1) = cntG G now + (if r = -1 then 0 else 1) := by
  have hget : ∀ (L'' : List SrvM), L''.length = L.length → ∀ (i : Nat) (v' : SrvM), L''[i]? = some v' → ∃ v, L[i]? = some v := fun L'' hl i v' hv' => by
    have hil := (List.getElem?_eq_some_iff.1 hv').1
    exact ⟨_, List.getElem?_eq_getElem (by omega)⟩
  rcases hr with ⟨rfl, hlen, hu⟩ | ⟨i, rfl, hi, hlen, hu⟩
  · refine ⟨G, ⟨by rw [hlen]; exact h.len, fun j v' us hv' hus => ?_⟩, fun _ _ => rfl, by rw [if_pos rfl, cntG_ge h (by omega)]; omega⟩
    obtain ⟨v, hv⟩ := hget L' hlen j v' hv'
    have hjl := (List.getElem?_eq_some_iff.1 hv).1
    exact (h.inv j v us hv hus).tried (hb j v hv) ((hu j v v' hv hv').1 hjl)
  · obtain ⟨us0, h0⟩ : ∃ us, G[i]? = some us := ⟨_, List.getElem?_eq_getElem (by rw [h.len]; exact hi)⟩
    have hGl : i < G.length := by rw [h.len]; exact hi
    refine ⟨G.set i (us0 ++ [now]), ⟨by rw [List.length_set, hlen]; exact h.len, fun j v' us hv' hus => ?_⟩, fun t ht => ?_, ?_⟩
    · obtain ⟨v, hv⟩ := hget L' hlen j v' hv'
      obtain ⟨u1, u2, u3⟩ := hu j v v' hv hv'
      by_cases e : i = j
      · subst e
        rw [List.getElem?_set_self hGl, Option.some.injEq] at hus
        subst hus
        exact (h.inv i v us0 hv h0).used (hb i v hv) (u2 rfl)
      · rw [List.getElem?_set_ne e] at hus
        have hs := h.inv j v us hv hus
        by_cases e2 : j < i
        · exact hs.tried (hb j v hv) (u1 e2)
        · rw [u3 (by omega)]; exact hs.wait
    · have := cntG_set (t := t) (d := 0) h0 (us' := us0 ++ [now]) (by rw [cnt_snoc, if_neg (by omega)])
      omega
    · rw [cntG_set (d := 1) h0 (by rw [cnt_snoc, if_pos (by omega)]), cntG_ge h (by omega), if_neg (by omega)]
theorem sums_le : ∀ {α : Type} (xs : List α) (f g h : α → Nat), (∀ x, x ∈ xs → f x ≤ g x + h x) → (xs.map f).sum ≤ (xs.map g).sum + (xs.map h).sum
  | _, [], f, g, h, _ => by simp
  | _, a :: xs, f, g, h, hl => by
    have h1 := sums_le xs f g h (fun x hx => hl x (List.mem_cons_of_mem _ hx))
    have h2 := hl a (List.mem_cons_self ..)
    simp only [List.map_cons, List.sum_cons]
    omega
/-- The servers are those of the loads. -/
def Fits (l : List Sv) (L : List SrvM) : Prop := L.length = l.length ∧ ∀ (i : Nat) (v : SrvM) (s : Sv), L[i]? = some v → l[i]? = some s → (v.B : Int) = s.bud ∧ (v.Pr : Int) = s.per
theorem sum_pair : ∀ (l : List Sv) (L : List SrvM) (G : List (List Nat)) (s t now : Nat), s ≤ t → Fits l L → GInv L G now → (∀ (i : Nat) (x : Sv), l[i]? = some x → x.fit) → cntG G t ≤ cntG G s + takenN l (t - s)
  | [], [], [], s, t, now, _, _, _, _ => by simp [cntG, takenN]
  | x :: l, v :: L, us :: G, s, t, now, hst, hf, hg, hx => by
    have ih := sum_pair l L G s t now hst ⟨by have := hf.1; simpa using this, fun i v' x' hv hx' => hf.2 (i + 1) v' x' hv hx'⟩ ⟨by have := hg.len; simpa using this, fun i v' us' hv hu => hg.inv (i + 1) v' us' hv hu⟩ (fun i x' hx' => hx (i + 1) x' hx')
    have h1 := hf.2 0 v x rfl rfl
    have h2 := hg.inv 0 v us rfl rfl
    have h3 := hx 0 x rfl
    unfold Sv.fit at h3
    have h4 := cnt_span h2.sorted h2.gap (by omega : 0 < v.Pr) hst
    rw [show v.Pr = x.per.toNat by omega, show v.B = x.bud.toNat by omega] at h4
    simp only [cntG, takenN, List.map_cons, List.sum_cons] at ih ⊢
    omega
  | [], [], _ :: _, _, _, _, _, _, hg, _ => by have := hg.len; simp at this
  | [], _ :: _, _, _, _, _, _, hf, _, _ => by have := hf.1; simp at this
  | _ :: _, [], _, _, _, _, _, hf, _, _ => by have := hf.1; simp at this
  | _ :: _, _ :: _, [], _, _, _, _, _, hg, _ => by have := hg.len; simp at this
theorem Fits.tick {l : List Sv} {L L' : List SrvM} {now : Nat} {r : Int} (h : Fits l L) (hr : ServeR now L L' r) : Fits l L' := by
  have hsame : L'.length = L.length ∧ ∀ (j : Nat) (v v' : SrvM), L[j]? = some v → L'[j]? = some v' → Same v v' := by
    rcases hr with ⟨_, hlen, hu⟩ | ⟨i, _, hi, hlen, hu⟩
    · exact ⟨hlen, fun j v v' hv hv' => ((hu j v v' hv hv').1 (List.getElem?_eq_some_iff.1 hv).1).same⟩
    · refine ⟨hlen, fun j v v' hv hv' => ?_⟩
      obtain ⟨u1, u2, u3⟩ := hu j v v' hv hv'
      rcases Nat.lt_trichotomy j i with e | e | e
      · exact (u1 e).same
      · exact (u2 e).same
      · rw [u3 e]; exact ⟨rfl, rfl⟩
  refine ⟨by rw [hsame.1]; exact h.1, fun j v' s hv' hs => ?_⟩
  have hjl := (List.getElem?_eq_some_iff.1 hv').1
  obtain ⟨v, hv⟩ : ∃ v, L[j]? = some v := ⟨_, List.getElem?_eq_getElem (by omega)⟩
  obtain ⟨e1, e2⟩ := hsame.2 j v v' hv hv'
  have := h.2 j v s hv hs
  rw [e1, e2]; exact this
/-- What was counted, tick by tick. -/
def Counted (Z : Nat → Nat) (G : List (List Nat)) (now : Nat) : Prop := ∀ s, s < now → Z s ≤ Z (s + 1) ∧ Z (s + 1) ≤ Z s + 1 ∧ Z (s + 1) + cntG G s ≤ Z s + cntG G (s + 1)
theorem Counted.span {Z : Nat → Nat} {G : List (List Nat)} {now s : Nat} (h : Counted Z G now) : ∀ d, s + d ≤ now → Z s ≤ Z (s + d) ∧ Z (s + d) ≤ Z s + d ∧ Z (s + d) + cntG G s ≤ Z s + cntG G (s + d)
  | 0, _ => by simp
  | d + 1, hd => by
    obtain ⟨h1, h2, h3⟩ := h.span (s := s) d (by omega)
    obtain ⟨k1, k2, k3⟩ := h (s + d) (by omega)
    rw [show s + (d + 1) = s + d + 1 by omega]
    omega
theorem Counted.tick {Z Z' : Nat → Nat} {L : List SrvM} {G G' : List (List Nat)} {now : Nat} {r : Int} {x : Nat} (h : Counted Z G now) (hg : GInv L G now) (hg2 : ∀ t, t ≤ now → cntG G' t = cntG G t) (hg3 : cntG G' (now + 1) = cntG G now + (if r = -1 then 0 else 1))
    (hz : ∀ s, s ≤ now → Z' s = Z s) (hz2 : Z' (now + 1) = Z now + x) (hx : x ≤ 1 ∧ (x = 1 → r ≠ -1)) : Counted Z' G' (now + 1) := by
  intro s hs
  by_cases e : s < now
  · rw [hz s (by omega), hz (s + 1) (by omega), hg2 s (by omega), hg2 (s + 1) (by omega)]
    exact h s e
  · obtain rfl : s = now := by omega
    rw [hz s (Nat.le_refl _), hz2, hg2 s (Nat.le_refl _), hg3]
    by_cases hr : r = -1
    · have : x = 0 := by
        by_cases e : x = 1
        · exact absurd hr (hx.2 e)
        · omega
      rw [if_pos hr]; omega
    · rw [if_neg hr]; omega
/-- The law. -/
theorem taken_law {Z : Nat → Nat} {l : List Sv} {L : List SrvM} {G : List (List Nat)} {now s t : Nat} (h : Counted Z G now) (hf : Fits l L) (hg : GInv L G now) (hx : ∀ (i : Nat) (x : Sv), l[i]? = some x → x.fit) (hst : s ≤ t) (ht : t ≤ now) :
    Z s ≤ Z t ∧ Z t - Z s ≤ min (t - s) (takenN l (t - s)) := by
  obtain ⟨h1, h2, h3⟩ := h.span (s := s) (t - s) (by omega)
  rw [show s + (t - s) = t by omega] at h1 h2 h3
  have h4 := sum_pair l L G s t now hst hf hg hx
  omega
theorem GInv.start {l : List Sv} {L : List SrvM} (h : Made l l.length L) : GInv L (L.map fun _ => []) 0 ∧ Fits l L := by
  obtain ⟨h1, h2⟩ := h
  refine ⟨⟨by simp, fun i v us hv hus => ?_⟩, h1, fun i v s hv hs => ?_⟩
  · rw [List.getElem?_map, hv] at hus
    simp at hus
    subst hus
    have hil := (List.getElem?_eq_some_iff.1 hv).1
    obtain ⟨s, hs⟩ : ∃ s, l[i]? = some s := ⟨_, List.getElem?_eq_getElem (by omega)⟩
    obtain ⟨v', hv', _, _, _, e, _⟩ := h2 i s (by omega) hs
    rw [hv] at hv'; injection hv' with hv'; subst hv'
    exact ⟨List.Pairwise.nil, fun u hu => by simp at hu, fun k u u' hu => by simp at hu, 0, Nat.le_refl _, by rw [e]; rfl, fun i u hi => by omega⟩
  · have hil := (List.getElem?_eq_some_iff.1 hv).1
    obtain ⟨v', hv', e1, e2, _⟩ := h2 i s (by omega) hs
    rw [hv] at hv'; injection hv' with hv'; subst hv'
    exact ⟨e1, e2⟩
end Go.Proofs.Ytadngogbnjodhaa
