/-
  Places in order by twice as many symbols, and the numbers of their classes, in plain lists.
-/
import Derived.Test.YtoifmfdaghmleaaSufMath
namespace Go.Proofs.Ytoifmfdaghmleaa.Tx

/-- numbers that are in the order of k symbols -/
structure RankK (s : Nat → Int) (n k : Nat) (r : Nat → Nat) (K : Nat) : Prop where
  lt : ∀ p q, p < n → q < n → (r p < r q ↔ ltK s k p q)
  eq : ∀ p q, p < n → q < n → (r p = r q ↔ eqK s k p q)
  bd : ∀ p, p < n → r p < K
/-- symbols of n places, and what stands behind them -/
structure SymN (s : Nat → Int) (n : Nat) : Prop where
  pos : ∀ p, p < n → 0 ≤ s p
  out : ∀ p, n ≤ p → s p = -1
  last : ∀ p, p < n → p ≠ n - 1 → s p ≠ s (n - 1)

/-- all places, by what stands k behind them -/
def sndK (sa : List Nat) (n k : Nat) : List Nat := (List.range k).map (fun i => n - k + i) ++ (sa.filter fun p => decide (k ≤ p)).map fun p => p - k
theorem mem_sndK (sa : List Nat) (n k x : Nat) (hk : k ≤ n) (h : ∀ x, x ∈ sa ↔ x < n) : x ∈ sndK sa n k ↔ x < n := by
  unfold sndK
  simp only [List.mem_append, List.mem_map, List.mem_range, List.mem_filter, decide_eq_true_eq, h]
  constructor
  · rintro (⟨a, ha, e⟩ | ⟨a, ⟨ha, hb⟩, e⟩) <;> omega
  · intro hx
    by_cases c : n - k ≤ x
    · exact .inl ⟨x - (n - k), by omega, by omega⟩
    · exact .inr ⟨x + k, ⟨by omega, by omega⟩, by omega⟩
theorem sndK_sorted (s : Nat → Int) (n : Nat) (hs : SymN s n) (sa : List Nat) (k : Nat) (h1 : 1 ≤ k) (hk : k ≤ n) (h : ∀ x, x ∈ sa ↔ x < n) (hp : sa.Pairwise (ltT s k)) :
    (sndK sa n k).Pairwise fun p q => ltT s k (p + k) (q + k) := by
  unfold sndK
  rw [List.pairwise_append]
  refine ⟨?_, ?_, ?_⟩
  · rw [List.pairwise_map]
    refine List.Pairwise.imp_of_mem ?_ (List.pairwise_lt_range)
    intro a b ha hb hab
    exact .inr ⟨fun i _ => by rw [hs.out _ (by omega), hs.out _ (by omega)], by omega⟩
  · rw [List.pairwise_map]
    refine List.Pairwise.imp_of_mem ?_ (hp.filter _)
    intro a b ha hb hab
    have h1 := (List.mem_filter.1 ha).2
    have h2 := (List.mem_filter.1 hb).2
    rw [decide_eq_true_eq] at h1 h2
    rwa [show a - k + k = a by omega, show b - k + k = b by omega]
  · intro a ha b hb
    obtain ⟨i, hi, rfl⟩ := List.mem_map.1 ha
    obtain ⟨q, hq, rfl⟩ := List.mem_map.1 hb
    have h2 := (List.mem_filter.1 hq).2
    have h3 := (h q).1 (List.mem_filter.1 hq).1
    rw [decide_eq_true_eq] at h2
    refine .inl ⟨0, by omega, ?_, fun i hi => by omega⟩
    rw [hs.out _ (by omega)]
    have := hs.pos (q - k + k + 0) (by omega)
    omega
theorem dbl_sorted (s : Nat → Int) (n : Nat) (hs : SymN s n) (sa : List Nat) (k : Nat) (h1 : 1 ≤ k) (hk : k ≤ n) (h : ∀ x, x ∈ sa ↔ x < n) (hp : sa.Pairwise (ltT s k)) (r : Nat → Nat) (K : Nat) (hr : RankK s n k r K) :
    (byK (sndK sa n k) r K).Pairwise (ltT s (k + k)) := by
  refine List.Pairwise.imp_of_mem ?_ (byK_sorted _ r K (sndK_sorted s n hs sa k h1 hk h hp))
  intro a b ha hb hab
  have ha' := (mem_sndK sa n k a hk h).1 ((mem_byK _ _ _ _).1 ha).1
  have hb' := (mem_sndK sa n k b hk h).1 ((mem_byK _ _ _ _).1 hb).1
  rcases hab with c | ⟨c, d | ⟨d, e⟩⟩
  · exact .inl ((ltK_add _ _ _ _ _).2 (.inl ((hr.lt a b ha' hb').1 c)))
  · exact .inl ((ltK_add _ _ _ _ _).2 (.inr ⟨(hr.eq a b ha' hb').1 c, d⟩))
  · exact .inr ⟨(eqK_add _ _ _ _ _).2 ⟨(hr.eq a b ha' hb').1 c, d⟩, by omega⟩
theorem first_sorted (s : Nat → Int) (n : Nat) (r : Nat → Nat) (K : Nat) (hr : RankK s n 1 r K) : (byK (List.range n) r K).Pairwise (ltT s 1) := by
  refine List.Pairwise.imp_of_mem ?_ (byK_sorted _ r K List.pairwise_lt_range)
  intro a b ha hb hab
  have ha' := List.mem_range.1 ((mem_byK _ _ _ _).1 ha).1
  have hb' := List.mem_range.1 ((mem_byK _ _ _ _).1 hb).1
  rcases hab with c | ⟨c, d⟩
  · exact .inl ((hr.lt a b ha' hb').1 c)
  · exact .inr ⟨(hr.eq a b ha' hb').1 c, d⟩
theorem rank_first (s : Nat → Int) (n : Nat) (r : Nat → Nat) (K : Nat) (h : ∀ p, p < n → s p = (r p : Int)) (hb : ∀ p, p < n → r p < K) : RankK s n 1 r K := by
  refine ⟨fun p q hp hq => ?_, fun p q hp hq => ?_, hb⟩
  · constructor
    · intro c
      exact ⟨0, by omega, by simp only [Nat.add_zero]; rw [h p hp, h q hq]; omega, fun i hi => by omega⟩
    · rintro ⟨j, hj, c, _⟩
      obtain rfl : j = 0 := by omega
      simp only [Nat.add_zero] at c
      rw [h p hp, h q hq] at c
      omega
  · constructor
    · intro c i hi
      obtain rfl : i = 0 := by omega
      simp only [Nat.add_zero]; rw [h p hp, h q hq, c]
    · intro c
      have := c 0 (by omega)
      simp only [Nat.add_zero] at this
      rw [h p hp, h q hq] at this
      omega

/-- the number of the class that stands k behind; below 0: behind the end -/
def behK (r : Nat → Nat) (n k p : Nat) : Int := if p + k < n then (r (p + k) : Int) else -1
def difK (r : Nat → Nat) (n k p q : Nat) : Bool := decide (r p ≠ r q) || decide (behK r n k p ≠ behK r n k q)
theorem difK_iff (s : Nat → Int) (n : Nat) (hs : SymN s n) (k : Nat) (h1 : 1 ≤ k) (r : Nat → Nat) (K : Nat) (hr : RankK s n k r K) (p q : Nat) (hp : p < n) (hq : q < n) : difK r n k p q = false ↔ eqK s (k + k) p q := by
  unfold difK
  rw [Bool.or_eq_false_iff, decide_eq_false_iff_not, decide_eq_false_iff_not, Decidable.not_not, Decidable.not_not, eqK_add, hr.eq p q hp hq]
  have : behK r n k p = behK r n k q ↔ eqK s k (p + k) (q + k) := by
    unfold behK
    by_cases a : p + k < n <;> by_cases b : q + k < n
    · rw [if_pos a, if_pos b, ← hr.eq _ _ a b]; omega
    · rw [if_pos a, if_neg b]
      refine ⟨fun h => by omega, fun h => ?_⟩
      have := h 0 (by omega)
      rw [hs.out (q + k + 0) (by omega)] at this
      have := hs.pos (p + k + 0) (by omega)
      omega
    · rw [if_neg a, if_pos b]
      refine ⟨fun h => by omega, fun h => ?_⟩
      have := h 0 (by omega)
      rw [hs.out (p + k + 0) (by omega)] at this
      have := hs.pos (q + k + 0) (by omega)
      omega
    · rw [if_neg a, if_neg b]
      exact ⟨fun _ i _ => by rw [hs.out _ (by omega), hs.out _ (by omega)], fun _ => rfl⟩
  rw [this]
/-- how many classes there are up to a place of the order, less one -/
def chg (d : Nat → Nat → Bool) (sa : List Nat) : Nat → Nat
  | 0 => 0
  | i + 1 => chg d sa i + (d (sa.getD (i + 1) 0) (sa.getD i 0)).toNat
theorem chg_succ (d : Nat → Nat → Bool) (sa : List Nat) (i : Nat) : chg d sa (i + 1) = chg d sa i + (d (sa.getD (i + 1) 0) (sa.getD i 0)).toNat := rfl
theorem chg_zero (d : Nat → Nat → Bool) (sa : List Nat) : chg d sa 0 = 0 := rfl
theorem chg_le (d : Nat → Nat → Bool) (sa : List Nat) (i : Nat) : chg d sa i ≤ i := by
  induction i with
  | zero => exact Nat.le_refl _
  | succ i ih => rw [chg_succ]; have := Bool.toNat_le (d (sa.getD (i + 1) 0) (sa.getD i 0)); omega
theorem chg_mono (d : Nat → Nat → Bool) (sa : List Nat) {i j : Nat} (h : i ≤ j) : chg d sa i ≤ chg d sa j := by
  obtain ⟨m, rfl⟩ := Nat.le.dest h
  induction m with
  | zero => exact Nat.le_refl _
  | succ m ih => rw [← Nat.add_assoc, chg_succ]; have := ih (by omega); omega
theorem pair_at {R : Nat → Nat → Prop} {sa : List Nat} (h : sa.Pairwise R) {i j : Nat} (hij : i < j) (hj : j < sa.length) : R (sa.getD i 0) (sa.getD j 0) := by
  have := (List.pairwise_iff_getElem.1 h) i j (by omega) hj hij
  rwa [List.getD_eq_getElem?_getD, List.getElem?_eq_getElem (by omega), List.getD_eq_getElem?_getD, List.getElem?_eq_getElem hj]
theorem ltT_eq_mid {s : Nat → Int} {k a b c : Nat} (h1 : ltT s k a b) (h2 : ltT s k b c) (h : eqK s k a c) : eqK s k a b := by
  rcases h1 with g | g
  · exfalso
    rcases h2 with f | f
    · exact ltK_not_eq (ltK_trans g f) h
    · exact ltK_not_eq (ltK_eq_right g f.1) h
  · exact g.1
theorem chg_eq (s : Nat → Int) (k2 : Nat) (sa : List Nat) (hp : sa.Pairwise (ltT s k2)) (d : Nat → Nat → Bool) (hd : ∀ a b, a ∈ sa → b ∈ sa → (d a b = false ↔ eqK s k2 a b)) (i : Nat) : ∀ m, i + m < sa.length → (chg d sa i = chg d sa (i + m) ↔ eqK s k2 (sa.getD i 0) (sa.getD (i + m) 0)) := by
  have hmem : ∀ j, j < sa.length → sa.getD j 0 ∈ sa := fun j hj => by rw [List.getD_eq_getElem?_getD, List.getElem?_eq_getElem hj]; exact List.getElem_mem _
  intro m
  induction m with
  | zero => intro _; exact ⟨fun _ => eqK_refl _ _ _, fun _ => rfl⟩
  | succ m ih =>
    intro hm
    have ih := ih (by omega)
    have hmo := chg_mono d sa (show i ≤ i + m by omega)
    have hdd := hd _ _ (hmem (i + m + 1) (by omega)) (hmem (i + m) (by omega))
    rw [← Nat.add_assoc, chg_succ]
    cases hb : d (sa.getD (i + m + 1) 0) (sa.getD (i + m) 0)
    · have he := eqK_symm (hdd.1 hb)
      rw [Bool.toNat_false, Nat.add_zero, ih]
      exact ⟨fun h => eqK_trans h he, fun h => eqK_trans h (eqK_symm he)⟩
    · rw [Bool.toNat_true]
      refine ⟨fun h => by omega, fun h => ?_⟩
      exfalso
      have hne : ¬ eqK s k2 (sa.getD (i + m + 1) 0) (sa.getD (i + m) 0) := fun c => by rw [hdd.2 c] at hb; cases hb
      apply hne
      by_cases e : m = 0
      · subst e; exact eqK_symm h
      · have h1 := pair_at hp (show i < i + m by omega) (by omega)
        have h2 := pair_at hp (show i + m < i + m + 1 by omega) (by omega)
        exact eqK_trans (eqK_symm h) (ltT_eq_mid h1 h2 h)
/-- the class of a place -/
def clsK (d : Nat → Nat → Bool) (sa : List Nat) (p : Nat) : Nat := chg d sa (sa.idxOf p)
theorem idxOf_at {sa : List Nat} {p : Nat} (h : p ∈ sa) : sa.idxOf p < sa.length ∧ sa.getD (sa.idxOf p) 0 = p := by
  have h1 := List.idxOf_lt_length_of_mem h
  refine ⟨h1, ?_⟩
  rw [List.getD_eq_getElem?_getD, List.getElem?_eq_getElem h1]
  exact List.getElem_idxOf h1
theorem nodup_of_ltT {s : Nat → Int} {k : Nat} {sa : List Nat} (hp : sa.Pairwise (ltT s k)) : sa.Nodup :=
  hp.imp (fun h e => by subst e; exact ltT_irr h)
theorem idxOf_getD {sa : List Nat} (hn : sa.Nodup) (i : Nat) (hi : i < sa.length) : sa.idxOf (sa.getD i 0) = i := by
  have hm : sa.getD i 0 ∈ sa := by rw [List.getD_eq_getElem?_getD, List.getElem?_eq_getElem hi]; exact List.getElem_mem _
  obtain ⟨h1, h2⟩ := idxOf_at hm
  refine nodup_getElem? hn (x := sa.getD i 0) ?_ ?_
  · generalize sa.idxOf (sa.getD i 0) = m at *
    rw [← h2, List.getD_eq_getElem?_getD, List.getElem?_eq_getElem h1]; rfl
  · rw [List.getD_eq_getElem?_getD, List.getElem?_eq_getElem hi]; rfl
theorem rank_next (s : Nat → Int) (n k2 : Nat) (sa : List Nat) (hl : sa.length = n) (hm : ∀ x, x ∈ sa ↔ x < n) (hp : sa.Pairwise (ltT s k2)) (d : Nat → Nat → Bool) (hd : ∀ a b, a ∈ sa → b ∈ sa → (d a b = false ↔ eqK s k2 a b)) :
    RankK s n k2 (clsK d sa) (chg d sa (n - 1) + 1) := by
  have key : ∀ i j, i < j → j < n → (chg d sa i = chg d sa j ↔ eqK s k2 (sa.getD i 0) (sa.getD j 0)) ∧ (chg d sa i < chg d sa j ↔ ltK s k2 (sa.getD i 0) (sa.getD j 0)) := by
    intro i j hij hj
    have h1 := chg_eq s k2 sa hp d hd i (j - i) (by omega)
    rw [show i + (j - i) = j by omega] at h1
    refine ⟨h1, ?_⟩
    have h2 := pair_at hp hij (by omega)
    have h3 := chg_mono d sa (Nat.le_of_lt hij)
    constructor
    · intro c
      rcases h2 with h2 | h2
      · exact h2
      · have := h1.2 h2.1; omega
    · intro c
      rcases Nat.lt_or_eq_of_le h3 with e | e
      · exact e
      · exact (ltK_not_eq c (h1.1 e)).elim
  refine ⟨fun p q hp' hq' => ?_, fun p q hp' hq' => ?_, fun p hp' => ?_⟩
  all_goals
    obtain ⟨i1, i2⟩ := idxOf_at ((hm p).2 hp')
    unfold clsK
    generalize sa.idxOf p = i at *
    subst i2
  · obtain ⟨j1, j2⟩ := idxOf_at ((hm q).2 hq')
    generalize sa.idxOf q = j at *
    subst j2
    rcases Nat.lt_trichotomy i j with c | c | c
    · exact (key i j c (by omega)).2
    · subst c
      exact ⟨fun h => by omega, fun h => (ltK_irr h).elim⟩
    · have h3 := chg_mono d sa (Nat.le_of_lt c)
      refine ⟨fun h => by omega, fun h => ?_⟩
      exfalso
      rcases pair_at hp c (by omega) with g | g
      · exact ltK_asymm h g
      · exact ltK_not_eq h (eqK_symm g.1)
  · obtain ⟨j1, j2⟩ := idxOf_at ((hm q).2 hq')
    generalize sa.idxOf q = j at *
    subst j2
    rcases Nat.lt_trichotomy i j with c | c | c
    · exact (key i j c (by omega)).1
    · subst c
      exact ⟨fun h => eqK_refl _ _ _, fun h => rfl⟩
    · have := (key j i c (by omega)).1
      exact ⟨fun h => eqK_symm (this.1 h.symm), fun h => (this.2 (eqK_symm h)).symm⟩
  · have := chg_mono d sa (show i ≤ n - 1 by omega)
    omega
/-- what stands from one place on is less than from another one -/
def ltS (s : Nat → Int) (p q : Nat) : Prop := ∃ j, s (p + j) < s (q + j) ∧ ∀ i, i < j → s (p + i) = s (q + i)
theorem ltS_of_ltK {s : Nat → Int} {k p q : Nat} (h : ltK s k p q) : ltS s p q := by obtain ⟨j, _, h⟩ := h; exact ⟨j, h⟩
theorem ltS_asymm {s : Nat → Int} {p q : Nat} (h : ltS s p q) (g : ltS s q p) : False := by
  obtain ⟨j, h⟩ := h
  obtain ⟨i, g⟩ := g
  exact ltK_asymm (k := i + j + 1) ⟨j, by omega, h⟩ ⟨i, by omega, g⟩
theorem ltS_trans {s : Nat → Int} {p q r : Nat} (h : ltS s p q) (g : ltS s q r) : ltS s p r := by
  obtain ⟨j, h⟩ := h
  obtain ⟨i, g⟩ := g
  exact ltS_of_ltK (ltK_trans (k := i + j + 1) ⟨j, by omega, h⟩ ⟨i, by omega, g⟩)
theorem apart_sym (s : Nat → Int) (n : Nat) (hs : SymN s n) (p q : Nat) (hpq : p < q) (hq : q < n) : s (p + (n - 1 - q)) ≠ s (q + (n - 1 - q)) := by
  rw [show q + (n - 1 - q) = n - 1 by omega]
  exact hs.last _ (by omega) (by omega)
theorem done_long (s : Nat → Int) (n : Nat) (hs : SymN s n) (sa : List Nat) (hm : ∀ x, x ∈ sa ↔ x < n) (k : Nat) (hk : n ≤ k) (hp : sa.Pairwise (ltT s k)) : sa.Pairwise (ltS s) := by
  refine List.Pairwise.imp_of_mem ?_ hp
  intro a b ha hb hab
  rcases hab with h | ⟨h, hlt⟩
  · exact ltS_of_ltK h
  · have hb' := (hm b).1 hb
    exact (apart_sym s n hs a b hlt hb' (h _ (by omega))).elim
theorem chg_full (d : Nat → Nat → Bool) (sa : List Nat) (n : Nat) (h : chg d sa n = n) : ∀ i, i ≤ n → chg d sa i = i := by
  induction n with
  | zero => intro i hi; obtain rfl : i = 0 := by omega
            exact h
  | succ n ih =>
    have h1 := chg_le d sa n
    have h2 := Bool.toNat_le (d (sa.getD (n + 1) 0) (sa.getD n 0))
    have h3 := chg_succ d sa n
    intro i hi
    by_cases e : i = n + 1
    · subst e; exact h
    · exact ih (by omega) i (by omega)
theorem done_full (s : Nat → Int) (n k2 : Nat) (sa : List Nat) (hl : sa.length = n) (hp : sa.Pairwise (ltT s k2)) (d : Nat → Nat → Bool) (hd : ∀ a b, a ∈ sa → b ∈ sa → (d a b = false ↔ eqK s k2 a b))
    (hfull : chg d sa (n - 1) + 1 = n) : sa.Pairwise (ltS s) := by
  rw [List.pairwise_iff_getElem]
  intro i j hi hj hij
  have h1 := chg_eq s k2 sa hp d hd i (j - i) (by omega)
  rw [show i + (j - i) = j by omega] at h1
  have hf := chg_full d sa (n - 1) (by omega)
  have h2 := (List.pairwise_iff_getElem.1 hp) i j hi hj hij
  rcases h2 with h2 | ⟨h2, _⟩
  · exact ltS_of_ltK h2
  · exfalso
    rw [hf i (by omega), hf j (by omega), List.getD_eq_getElem?_getD, List.getElem?_eq_getElem hi, List.getD_eq_getElem?_getD, List.getElem?_eq_getElem hj] at h1
    have := h1.2 h2
    omega
/-- the classes' numbers that are laid behind i of them -/
def nxtK (d : Nat → Nat → Bool) (sa : List Nat) (i j : Nat) : Nat := if j ∈ sa.take i then clsK d sa j else 0
theorem nxtK_zero (d : Nat → Nat → Bool) (sa : List Nat) (j : Nat) : nxtK d sa 0 j = 0 := by unfold nxtK; simp
theorem nxtK_succ (d : Nat → Nat → Bool) (sa : List Nat) (hn : sa.Nodup) (i : Nat) (hi : i < sa.length) (j : Nat) : nxtK d sa (i + 1) j = if j = sa.getD i 0 then chg d sa i else nxtK d sa i j := by
  unfold nxtK
  rw [take_succ_getD sa i hi]
  by_cases e : j = sa.getD i 0
  · rw [if_pos e, if_pos (by rw [e]; exact List.mem_append_right _ (List.mem_singleton.2 rfl)), e]
    unfold clsK
    rw [idxOf_getD hn i hi]
  · rw [if_neg e]
    by_cases hm : j ∈ sa.take i
    · rw [if_pos hm, if_pos (List.mem_append_left _ hm)]
    · rw [if_neg hm, if_neg (fun h => by
        rcases List.mem_append.1 h with h | h
        · exact hm h
        · exact e (List.mem_singleton.1 h))]
theorem nxtK_all (d : Nat → Nat → Bool) (sa : List Nat) (j : Nat) (h : j ∈ sa) : nxtK d sa sa.length j = clsK d sa j := by
  unfold nxtK; rw [List.take_length, if_pos h]
theorem difK_yes (r : Nat → Nat) (n k p q : Nat) (h : r p ≠ r q) : difK r n k p q = true := by unfold difK; simp [h]
theorem difK_no (r : Nat → Nat) (n k p q : Nat) (h : r p = r q) : difK r n k p q = (behK r n k p != behK r n k q) := by
  unfold difK; simp only [h, ne_eq, not_true_eq_false, decide_false, Bool.false_or]
  by_cases e : behK r n k p = behK r n k q <;> simp [e]
attribute [irreducible] nxtK clsK chg
end Go.Proofs.Ytoifmfdaghmleaa.Tx
