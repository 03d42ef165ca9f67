/-
  Places in order: keys of k symbols, orders with ties, and the sort by counting, in plain lists.
-/
namespace Go.Proofs.Ytoifmfdaghmleaa.Tx

/-- k symbols from two places on are the same / the first ones that differ rise -/
def eqK (s : Nat → Int) (k p q : Nat) : Prop := ∀ i, i < k → s (p + i) = s (q + i)
def ltK (s : Nat → Int) (k p q : Nat) : Prop := ∃ j, j < k ∧ s (p + j) < s (q + j) ∧ ∀ i, i < j → s (p + i) = s (q + i)

theorem eqK_refl (s : Nat → Int) (k p : Nat) : eqK s k p p := fun _ _ => rfl
theorem eqK_symm {s : Nat → Int} {k p q : Nat} (h : eqK s k p q) : eqK s k q p := fun i hi => (h i hi).symm
theorem eqK_trans {s : Nat → Int} {k p q r : Nat} (h : eqK s k p q) (g : eqK s k q r) : eqK s k p r := fun i hi => (h i hi).trans (g i hi)
theorem eqK_zero (s : Nat → Int) (p q : Nat) : eqK s 0 p q := fun i hi => by omega
theorem ltK_irr {s : Nat → Int} {k p : Nat} (h : ltK s k p p) : False := by obtain ⟨j, _, h, _⟩ := h; omega
theorem ltK_not_eq {s : Nat → Int} {k p q : Nat} (h : ltK s k p q) (g : eqK s k p q) : False := by
  obtain ⟨j, hj, h, _⟩ := h
  have := g j hj
  omega
theorem ltK_asymm {s : Nat → Int} {k p q : Nat} (h : ltK s k p q) (g : ltK s k q p) : False := by
  obtain ⟨j, hj, h, he⟩ := h
  obtain ⟨i, hi, g, ge⟩ := g
  rcases Nat.lt_trichotomy i j with c | c | c
  · have := he i c; omega
  · subst c; omega
  · have := ge j c; omega
theorem ltK_trans {s : Nat → Int} {k p q r : Nat} (h : ltK s k p q) (g : ltK s k q r) : ltK s k p r := by
  obtain ⟨j, hj, h, he⟩ := h
  obtain ⟨i, hi, g, ge⟩ := g
  rcases Nat.lt_trichotomy i j with c | c | c
  · exact ⟨i, hi, by have := he i c; omega, fun m hm => (he m (by omega)).trans (ge m hm)⟩
  · subst c; exact ⟨i, hi, by omega, fun m hm => (he m hm).trans (ge m hm)⟩
  · exact ⟨j, hj, by have := ge j c; omega, fun m hm => (he m hm).trans (ge m (by omega))⟩
theorem ltK_eq_left {s : Nat → Int} {k p q r : Nat} (h : eqK s k p q) (g : ltK s k q r) : ltK s k p r := by
  obtain ⟨i, hi, g, ge⟩ := g
  exact ⟨i, hi, by have := h i hi; omega, fun m hm => (h m (by omega)).trans (ge m hm)⟩
theorem ltK_eq_right {s : Nat → Int} {k p q r : Nat} (h : ltK s k p q) (g : eqK s k q r) : ltK s k p r := by
  obtain ⟨i, hi, h, he⟩ := h
  exact ⟨i, hi, by have := g i hi; omega, fun m hm => (he m hm).trans (g m (by omega))⟩
theorem tri (s : Nat → Int) (k p q : Nat) : ltK s k p q ∨ eqK s k p q ∨ ltK s k q p := by
  induction k with
  | zero => exact .inr (.inl (eqK_zero _ _ _))
  | succ k ih =>
    rcases ih with ⟨j, hj, h⟩ | h | ⟨j, hj, h⟩
    · exact .inl ⟨j, by omega, h⟩
    · rcases Int.lt_trichotomy (s (p + k)) (s (q + k)) with c | c | c
      · exact .inl ⟨k, by omega, c, h⟩
      · refine .inr (.inl fun i hi => ?_)
        by_cases e : i = k
        · subst e; exact c
        · exact h i (by omega)
      · exact .inr (.inr ⟨k, by omega, c, fun i hi => (h i hi).symm⟩)
    · exact .inr (.inr ⟨j, by omega, h⟩)
theorem eqK_add (s : Nat → Int) (a b p q : Nat) : eqK s (a + b) p q ↔ eqK s a p q ∧ eqK s b (p + a) (q + a) := by
  constructor
  · intro h
    refine ⟨fun i hi => h i (by omega), fun i hi => ?_⟩
    have := h (a + i) (by omega)
    rwa [← Nat.add_assoc, ← Nat.add_assoc] at this
  · rintro ⟨h, g⟩ i hi
    by_cases c : i < a
    · exact h i c
    · have := g (i - a) (by omega)
      rwa [show p + a + (i - a) = p + i by omega, show q + a + (i - a) = q + i by omega] at this
theorem ltK_add (s : Nat → Int) (a b p q : Nat) : ltK s (a + b) p q ↔ ltK s a p q ∨ (eqK s a p q ∧ ltK s b (p + a) (q + a)) := by
  constructor
  · rintro ⟨j, hj, h, he⟩
    by_cases c : j < a
    · exact .inl ⟨j, c, h, he⟩
    · refine .inr ⟨fun i hi => he i (by omega), j - a, by omega, ?_, fun i hi => ?_⟩
      · rwa [show p + a + (j - a) = p + j by omega, show q + a + (j - a) = q + j by omega]
      · have := he (a + i) (by omega)
        rwa [← Nat.add_assoc, ← Nat.add_assoc] at this
  · rintro (⟨j, hj, h, he⟩ | ⟨g, j, hj, h, he⟩)
    · exact ⟨j, by omega, h, he⟩
    · refine ⟨a + j, by omega, ?_, fun i hi => ?_⟩
      · rwa [← Nat.add_assoc, ← Nat.add_assoc]
      · by_cases c : i < a
        · exact g i c
        · have := he (i - a) (by omega)
          rwa [show p + a + (i - a) = p + i by omega, show q + a + (i - a) = q + i by omega] at this

/-- k symbols, and where they are the same the earlier place -/
def ltT (s : Nat → Int) (k p q : Nat) : Prop := ltK s k p q ∨ (eqK s k p q ∧ p < q)
theorem ltT_irr {s : Nat → Int} {k p : Nat} (h : ltT s k p p) : False := by
  rcases h with h | ⟨_, h⟩
  · exact ltK_irr h
  · omega
theorem ltT_asymm {s : Nat → Int} {k p q : Nat} (h : ltT s k p q) (g : ltT s k q p) : False := by
  rcases h with h | ⟨h, h2⟩ <;> rcases g with g | ⟨g, g2⟩
  · exact ltK_asymm h g
  · exact ltK_not_eq h (eqK_symm g)
  · exact ltK_not_eq g (eqK_symm h)
  · omega

/-- two rows of the same members, both rising, are one -/
theorem sorted_unique {R : Nat → Nat → Prop} (as : ∀ a b, R a b → R b a → False) : ∀ (l m : List Nat), l.Pairwise R → m.Pairwise R → (∀ x, x ∈ l ↔ x ∈ m) → l = m := by
  intro l
  induction l with
  | nil =>
    intro m _ _ h
    cases m with
    | nil => rfl
    | cons b m => exact absurd ((h b).2 (by simp)) (by simp)
  | cons a l ih =>
    intro m hl hm h
    cases m with
    | nil => exact absurd ((h a).1 (by simp)) (by simp)
    | cons b m =>
      have hl' := List.pairwise_cons.1 hl
      have hm' := List.pairwise_cons.1 hm
      have hab : a = b := by
        rcases List.mem_cons.1 ((h a).1 (by simp)) with e | e
        · exact e
        · rcases List.mem_cons.1 ((h b).2 (by simp)) with f | f
          · exact f.symm
          · exact (as a b (hl'.1 b f) (hm'.1 a e)).elim
      subst hab
      rw [ih m hl'.2 hm'.2 (fun x => ?_)]
      constructor
      · intro hx
        rcases List.mem_cons.1 ((h x).1 (by simp [hx])) with e | e
        · subst e; exact (as x x (hl'.1 x hx) (hl'.1 x hx)).elim
        · exact e
      · intro hx
        rcases List.mem_cons.1 ((h x).2 (by simp [hx])) with e | e
        · subst e; exact (as x x (hm'.1 x hx) (hm'.1 x hx)).elim
        · exact e

/-- a row's members by classes, the classes in order -/
def byK (l : List Nat) (r : Nat → Nat) (K : Nat) : List Nat := (List.range K).flatMap fun c => l.filter fun p => r p == c
theorem byK_zero (l : List Nat) (r : Nat → Nat) : byK l r 0 = [] := rfl
theorem byK_succ (l : List Nat) (r : Nat → Nat) (K : Nat) : byK l r (K + 1) = byK l r K ++ l.filter fun p => r p == K := by
  unfold byK; rw [List.range_succ, List.flatMap_append]; simp
theorem mem_byK (l : List Nat) (r : Nat → Nat) (K x : Nat) : x ∈ byK l r K ↔ x ∈ l ∧ r x < K := by
  unfold byK
  simp only [List.mem_flatMap, List.mem_range, List.mem_filter, beq_iff_eq]
  constructor
  · rintro ⟨c, hc, hx, e⟩; exact ⟨hx, by omega⟩
  · rintro ⟨hx, h⟩; exact ⟨r x, h, hx, rfl⟩
theorem byK_sorted (l : List Nat) (r : Nat → Nat) (K : Nat) {R : Nat → Nat → Prop} (h : l.Pairwise R) : (byK l r K).Pairwise fun x y => r x < r y ∨ (r x = r y ∧ R x y) := by
  induction K with
  | zero => rw [byK_zero]; exact List.Pairwise.nil
  | succ K ih =>
    rw [byK_succ, List.pairwise_append]
    refine ⟨ih, ?_, fun a ha b hb => ?_⟩
    · refine List.Pairwise.imp_of_mem ?_ (h.filter _)
      intro a b ha hb hab
      have h1 := (List.mem_filter.1 ha).2
      have h2 := (List.mem_filter.1 hb).2
      rw [beq_iff_eq] at h1 h2
      exact .inr ⟨by omega, hab⟩
    · have h1 := ((mem_byK _ _ _ _).1 ha).2
      have h2 := (List.mem_filter.1 hb).2
      rw [beq_iff_eq] at h2
      exact .inl (by omega)
/-- how many of a row are below a class / in it -/
def below (l : List Nat) (r : Nat → Nat) (c : Nat) : Nat := (l.filter fun p => decide (r p < c)).length
def inK (l : List Nat) (r : Nat → Nat) (c : Nat) : Nat := (l.filter fun p => r p == c).length
theorem below_zero (l : List Nat) (r : Nat → Nat) : below l r 0 = 0 := by unfold below; simp
theorem below_succ (l : List Nat) (r : Nat → Nat) (c : Nat) : below l r (c + 1) = below l r c + inK l r c := by
  unfold below inK
  induction l with
  | nil => rfl
  | cons a l ih =>
    simp only [List.filter_cons]
    rcases Nat.lt_trichotomy (r a) c with h | h | h
    · have e1 : decide (r a < c + 1) = true := by simp; omega
      have e2 : decide (r a < c) = true := by simp; omega
      have e3 : (r a == c) = false := by simp; omega
      simp only [e1, e2, e3, if_true, List.length_cons]
      simp only [Bool.false_eq_true, if_false]
      omega
    · have e1 : decide (r a < c + 1) = true := by simp; omega
      have e2 : decide (r a < c) = false := by simp; omega
      have e3 : (r a == c) = true := by simp; omega
      simp only [e1, e2, e3, if_true, List.length_cons]
      simp only [Bool.false_eq_true, if_false]
      omega
    · have e1 : decide (r a < c + 1) = false := by simp; omega
      have e2 : decide (r a < c) = false := by simp; omega
      have e3 : (r a == c) = false := by simp; omega
      simp only [e1, e2, e3]
      simp only [Bool.false_eq_true, if_false]
      omega
theorem byK_length (l : List Nat) (r : Nat → Nat) (K : Nat) : (byK l r K).length = below l r K := by
  induction K with
  | zero => rw [byK_zero, below_zero]; rfl
  | succ K ih => rw [byK_succ, List.length_append, ih, below_succ]; rfl
theorem below_all (l : List Nat) (r : Nat → Nat) (K : Nat) (h : ∀ x ∈ l, r x < K) : below l r K = l.length := by
  unfold below
  rw [List.filter_eq_self.2 (fun x hx => by simpa using h x hx)]
theorem below_le (l : List Nat) (r : Nat → Nat) (c : Nat) : below l r c ≤ l.length := List.length_filter_le _ _
theorem inK_le (l : List Nat) (r : Nat → Nat) (c : Nat) : inK l r c ≤ l.length := List.length_filter_le _ _
theorem take_succ_getD (l : List Nat) (i : Nat) (hi : i < l.length) : l.take (i + 1) = l.take i ++ [l.getD i 0] := by
  rw [List.take_add_one, List.getD_eq_getElem?_getD, List.getElem?_eq_getElem hi]; rfl
theorem inK_take (l : List Nat) (r : Nat → Nat) (c i : Nat) (hi : i < l.length) : inK (l.take (i + 1)) r c = inK (l.take i) r c + if r (l.getD i 0) = c then 1 else 0 := by
  unfold inK
  rw [take_succ_getD l i hi, List.filter_append, List.length_append]
  congr 1
  generalize l.getD i 0 = x
  by_cases e : r x = c <;> simp [e]
theorem byK_take (l : List Nat) (r : Nat → Nat) (K : Nat) (c : Nat) (hc : c < K) (j : Nat) (hj : j < inK l r c) : (byK l r K)[below l r c + j]? = (l.filter fun p => r p == c)[j]? := by
  induction K with
  | zero => omega
  | succ K ih =>
    rw [byK_succ]
    by_cases e : c = K
    · subst e
      rw [List.getElem?_append_right (by rw [byK_length]; omega), byK_length]
      congr 1; omega
    · rw [List.getElem?_append_left ?_, ih (by omega)]
      have : ∀ m, below l r c + inK l r c ≤ below l r (c + 1 + m) := by
        intro m
        induction m with
        | zero => rw [Nat.add_zero, below_succ]; omega
        | succ m ih2 => rw [← Nat.add_assoc, below_succ]; omega
      have := this (K - (c + 1))
      rw [byK_length]
      rw [show c + 1 + (K - (c + 1)) = K by omega] at this
      omega
theorem filter_at (l : List Nat) (f : Nat → Bool) (i : Nat) (hi : i < l.length) (h : f (l.getD i 0) = true) : (l.filter f)[((l.take i).filter f).length]? = some (l.getD i 0) := by
  have e : l = l.take i ++ ([l.getD i 0] ++ l.drop (i + 1)) := by
    rw [← List.append_assoc, ← take_succ_getD l i hi, List.take_append_drop]
  conv => lhs; lhs; rw [e]
  rw [List.filter_append, List.getElem?_append_right (Nat.le_refl _), Nat.sub_self, List.filter_append]
  generalize l.getD i 0 = x at *
  simp [h]
/-- where a row's i-th goes -/
def posK (l : List Nat) (r : Nat → Nat) (i : Nat) : Nat := below l r (r (l.getD i 0)) + inK (l.take i) r (r (l.getD i 0))
theorem posK_at (l : List Nat) (r : Nat → Nat) (K : Nat) (hr : ∀ x ∈ l, r x < K) (i : Nat) (hi : i < l.length) : (byK l r K)[posK l r i]? = some (l.getD i 0) := by
  have hm : l.getD i 0 ∈ l := by rw [List.getD_eq_getElem?_getD, List.getElem?_eq_getElem hi]; exact List.getElem_mem _
  have h1 := filter_at l (fun p => r p == r (l.getD i 0)) i hi (by simp)
  have h2 : inK (l.take i) r (r (l.getD i 0)) < inK l r (r (l.getD i 0)) := by
    obtain ⟨h3, _⟩ := List.getElem?_eq_some_iff.1 h1
    exact h3
  unfold posK
  rw [byK_take l r K _ (hr _ hm) _ h2]
  exact h1
theorem nodup_byK (l : List Nat) (r : Nat → Nat) (K : Nat) (h : l.Nodup) : (byK l r K).Nodup := by
  refine List.Pairwise.imp ?_ (byK_sorted l r K h)
  rintro a b (h | ⟨_, h⟩)
  · intro e; subst e; omega
  · exact h
theorem nodup_getElem? {l : List Nat} (h : l.Nodup) {i j : Nat} {x : Nat} (hi : l[i]? = some x) (hj : l[j]? = some x) : i = j := by
  obtain ⟨hi1, hi2⟩ := List.getElem?_eq_some_iff.1 hi
  obtain ⟨hj1, hj2⟩ := List.getElem?_eq_some_iff.1 hj
  rcases Nat.lt_trichotomy i j with c | c | c
  · exact absurd (hi2.trans hj2.symm) ((List.pairwise_iff_getElem.1 h) i j hi1 hj1 c)
  · exact c
  · exact absurd (hj2.trans hi2.symm) ((List.pairwise_iff_getElem.1 h) j i hj1 hi1 c)
theorem posK_lt (l : List Nat) (r : Nat → Nat) (K : Nat) (hr : ∀ x ∈ l, r x < K) (i : Nat) (hi : i < l.length) : posK l r i < l.length := by
  obtain ⟨h, _⟩ := List.getElem?_eq_some_iff.1 (posK_at l r K hr i hi)
  rwa [byK_length, below_all l r K hr] at h
/-- what has been put to its place behind i of them -/
def outK (l : List Nat) (r : Nat → Nat) (K i j : Nat) : Nat := if (byK l r K).getD j 0 ∈ l.take i then (byK l r K).getD j 0 else 0
theorem outK_zero (l : List Nat) (r : Nat → Nat) (K j : Nat) : outK l r K 0 j = 0 := by unfold outK; simp
theorem outK_succ (l : List Nat) (r : Nat → Nat) (K : Nat) (hn : l.Nodup) (hr : ∀ x ∈ l, r x < K) (i : Nat) (hi : i < l.length) (j : Nat) (hj : j < l.length) :
    outK l r K (i + 1) j = if j = posK l r i then l.getD i 0 else outK l r K i j := by
  have hp := posK_at l r K hr i hi
  unfold outK
  rw [take_succ_getD l i hi]
  by_cases e : j = posK l r i
  · subst e
    have h2 : (byK l r K).getD (posK l r i) 0 = l.getD i 0 := by rw [List.getD_eq_getElem?_getD, hp]; rfl
    rw [if_pos rfl, h2, if_pos (by simp)]
  · rw [if_neg e]
    have hl : (byK l r K).length = l.length := by rw [byK_length, below_all l r K hr]
    have hne : (byK l r K).getD j 0 ≠ l.getD i 0 := by
      intro h
      apply e
      refine nodup_getElem? (nodup_byK l r K hn) ?_ hp
      rw [← h, List.getD_eq_getElem?_getD, List.getElem?_eq_getElem (by omega)]; rfl
    by_cases hm : (byK l r K).getD j 0 ∈ l.take i
    · rw [if_pos (List.mem_append_left _ hm), if_pos hm]
    · rw [if_neg (fun h => by
        rcases List.mem_append.1 h with h | h
        · exact hm h
        · exact hne (List.mem_singleton.1 h)), if_neg hm]
theorem outK_all (l : List Nat) (r : Nat → Nat) (K : Nat) (hr : ∀ x ∈ l, r x < K) (j : Nat) (hj : j < l.length) : outK l r K l.length j = (byK l r K).getD j 0 := by
  unfold outK
  rw [List.take_length, if_pos]
  have hl : (byK l r K).length = l.length := by rw [byK_length, below_all l r K hr]
  have : (byK l r K).getD j 0 ∈ byK l r K := by rw [List.getD_eq_getElem?_getD, List.getElem?_eq_getElem (by omega)]; exact List.getElem_mem _
  exact ((mem_byK _ _ _ _).1 this).1
theorem posK_def (l : List Nat) (r : Nat → Nat) (i : Nat) : posK l r i = below l r (r (l.getD i 0)) + inK (l.take i) r (r (l.getD i 0)) := rfl
theorem inK_nil (r : Nat → Nat) (c : Nat) : inK [] r c = 0 := rfl
theorem inK_one (l : List Nat) (hn : l.Nodup) (c : Nat) (h : c ∈ l) : inK l (fun x => x) c = 1 := by
  unfold inK
  induction l with
  | nil => cases h
  | cons a l ih =>
    have hn' := List.pairwise_cons.1 hn
    rw [List.filter_cons]
    rcases List.mem_cons.1 h with e | e
    · subst e
      rw [if_pos (by simp), List.length_cons]
      have : l.filter (fun p => p == c) = [] := by
        rw [List.filter_eq_nil_iff]
        intro x hx
        have := hn'.1 x hx
        simp; omega
      rw [this]; rfl
    · have := hn'.1 c e
      rw [if_neg (by simp; omega)]
      exact ih hn'.2 e
theorem len_of_mem (l : List Nat) (n : Nat) (hn : l.Nodup) (h : ∀ x, x ∈ l ↔ x < n) : l.length = n := by
  have h1 := below_all l (fun x => x) n (fun x hx => (h x).1 hx)
  have h2 : ∀ m, m ≤ n → below l (fun x => x) m = m := by
    intro m
    induction m with
    | zero => intro _; exact below_zero _ _
    | succ m ih => intro hm; rw [below_succ, ih (by omega), inK_one l hn m ((h m).2 (by omega))]
  rw [← h1, h2 n (Nat.le_refl _)]
attribute [irreducible] outK posK byK below inK
end Go.Proofs.Ytoifmfdaghmleaa.Tx
