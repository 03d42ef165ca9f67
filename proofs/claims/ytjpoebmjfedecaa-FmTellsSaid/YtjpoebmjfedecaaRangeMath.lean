/-
  Which rows begin with a text.
-/
import Derived.Test.YtjpoebmjfedecaaRefRows
namespace Go.Proofs.Ytjpoebmjfedecaa

/-- how a text stands to one that it may begin with -/
def cmpL : List Nat → List Nat → Int
  | _, [] => 0
  | [], b :: _ => -(b : Int) - 1
  | a :: t, b :: p => if a = b then cmpL t p else (a : Int) - b
theorem cmpL_nil (x : List Nat) : cmpL x [] = 0 := by cases x <;> rfl
theorem cmpL_end (b : Nat) (p : List Nat) : cmpL [] (b :: p) = -(b : Int) - 1 := rfl
theorem cmpL_cons (a : Nat) (t : List Nat) (b : Nat) (p : List Nat) : cmpL (a :: t) (b :: p) = if a = b then cmpL t p else (a : Int) - b := rfl
theorem cmpL_neg : ∀ p x, cmpL x p < 0 ↔ lexB x p = true
  | [], x => by rw [cmpL_nil]; cases x <;> simp [lexB]
  | b :: p, [] => by rw [cmpL_end]; simp [lexB]; omega
  | b :: p, a :: x => by
    rw [cmpL_cons]
    simp only [lexB]
    by_cases e : a = b
    · subst e; simp [cmpL_neg p x]
    · simp [e]; omega
theorem cmpL_zero : ∀ p x, cmpL x p = 0 ↔ x.take p.length = p
  | [], x => by rw [cmpL_nil]; simp
  | b :: p, [] => by rw [cmpL_end]; simp; omega
  | b :: p, a :: x => by
    rw [cmpL_cons]
    by_cases e : a = b
    · subst e; simp [cmpL_zero p x]
    · simp [e]; omega
theorem cmpL_mono : ∀ p x y, (x = y ∨ lexL x y) → (0 ≤ cmpL x p → 0 ≤ cmpL y p) ∧ (0 < cmpL x p → 0 < cmpL y p)
  | [], x, y, _ => by rw [cmpL_nil, cmpL_nil]; exact ⟨id, id⟩
  | b :: p, x, y, .inl h => by subst h; exact ⟨id, id⟩
  | b :: p, [], [], .inr h => by simp [lexL] at h
  | b :: p, [], c :: y, .inr _ => by rw [cmpL_end]; exact ⟨fun h => by omega, fun h => by omega⟩
  | b :: p, a :: x, [], .inr h => by simp [lexL] at h
  | b :: p, a :: x, c :: y, .inr h => by
    rw [cmpL_cons, cmpL_cons]
    simp only [lexL] at h
    by_cases e : a = b
    · subst e
      rw [if_pos rfl]
      rcases h with h | ⟨h, g⟩
      · rw [if_neg (by omega)]; exact ⟨fun _ => by omega, fun _ => by omega⟩
      · rw [if_pos h.symm]; exact cmpL_mono p x y (.inr g)
    · rw [if_neg e]
      have hac : a ≤ c := by omega
      by_cases g : c = b
      · exact ⟨fun h => by omega, fun h => by omega⟩
      · rw [if_neg g]; exact ⟨fun h => by omega, fun h => by omega⟩
def cmpR (ds : List (List Nat)) (P : List Nat) (i : Nat) : Int := cmpL (textAt ds ((rowsR ds).getD i (0, 0))) P
theorem rows_order (ds : List (List Nat)) (i j : Nat) (hij : i < j) (hj : j < (rowsR ds).length) : textAt ds ((rowsR ds).getD i (0, 0)) = textAt ds ((rowsR ds).getD j (0, 0)) ∨ lexL (textAt ds ((rowsR ds).getD i (0, 0))) (textAt ds ((rowsR ds).getD j (0, 0))) := by
  have h := List.pairwise_iff_getElem.1 (rowsR_spec ds).1 i j (by omega) hj hij
  have e1 : (rowsR ds).getD i (0, 0) = (rowsR ds)[i] := by rw [List.getD_eq_getElem?_getD, List.getElem?_eq_getElem (by omega)]; rfl
  have e2 : (rowsR ds).getD j (0, 0) = (rowsR ds)[j] := by rw [List.getD_eq_getElem?_getD, List.getElem?_eq_getElem hj]; rfl
  rw [← e1, ← e2] at h
  have h2 := (hltB_iff ds _ _ (rows_at ds i (by omega)) (rows_at ds j hj)).2 h
  unfold hltB at h2
  by_cases e : textAt ds ((rowsR ds).getD i (0, 0)) = textAt ds ((rowsR ds).getD j (0, 0))
  · exact .inl e
  · rw [if_neg e] at h2; exact .inr ((lexB_iff _ _).1 h2)
theorem cmpR_mono (ds : List (List Nat)) (P : List Nat) (i j : Nat) (hij : i ≤ j) (hj : j < (rowsR ds).length) : (0 ≤ cmpR ds P i → 0 ≤ cmpR ds P j) ∧ (0 < cmpR ds P i → 0 < cmpR ds P j) := by
  by_cases e : i = j
  · subst e; exact ⟨id, id⟩
  · exact cmpL_mono P _ _ (rows_order ds i j (by omega) hj)
theorem split_mono (n : Nat) (f : Nat → Bool) (hm : ∀ i j, i ≤ j → j < n → f i = true → f j = true) : ∃ k, k ≤ n ∧ ∀ i, i < n → (f i = false ↔ i < k) := by
  induction n with
  | zero => exact ⟨0, Nat.le_refl _, fun i hi => by omega⟩
  | succ n ih =>
    obtain ⟨k, hk, h⟩ := ih (fun i j h1 h2 h3 => hm i j h1 (by omega) h3)
    cases hf : f n
    · refine ⟨n + 1, Nat.le_refl _, fun i hi => ⟨fun _ => hi, fun _ => ?_⟩⟩
      cases hi2 : f i
      · rfl
      · rw [hm i n (by omega) (by omega) hi2] at hf; cases hf
    · refine ⟨k, by omega, fun i hi => ?_⟩
      by_cases e : i = n
      · subst e; rw [hf]; exact ⟨fun h => (by cases h), fun h => (by omega)⟩
      · exact h i (by omega)
structure RangeP (ds : List (List Nat)) (P : List Nat) (lo hi : Nat) : Prop where
  le : lo ≤ hi
  len : hi ≤ (rowsR ds).length
  low : ∀ i, i < (rowsR ds).length → (cmpR ds P i < 0 ↔ i < lo)
  high : ∀ i, i < (rowsR ds).length → (cmpR ds P i ≤ 0 ↔ i < hi)
theorem range_is (ds : List (List Nat)) (P : List Nat) : ∃ lo hi, RangeP ds P lo hi := by
  obtain ⟨lo, h1, h2⟩ := split_mono (rowsR ds).length (fun i => decide (0 ≤ cmpR ds P i)) (fun i j hij hj h => by
    rw [decide_eq_true_eq] at h ⊢; exact (cmpR_mono ds P i j hij hj).1 h)
  obtain ⟨hi, h3, h4⟩ := split_mono (rowsR ds).length (fun i => decide (0 < cmpR ds P i)) (fun i j hij hj h => by
    rw [decide_eq_true_eq] at h ⊢; exact (cmpR_mono ds P i j hij hj).2 h)
  have g1 : ∀ i, i < (rowsR ds).length → (cmpR ds P i < 0 ↔ i < lo) := fun i hi => by
    have := h2 i hi
    rw [decide_eq_false_iff_not] at this
    exact ⟨fun h => this.1 (by omega), fun h => by have := this.2 h; omega⟩
  have g2 : ∀ i, i < (rowsR ds).length → (cmpR ds P i ≤ 0 ↔ i < hi) := fun i hi => by
    have := h4 i hi
    rw [decide_eq_false_iff_not] at this
    exact ⟨fun h => this.1 (by omega), fun h => by have := this.2 h; omega⟩
  refine ⟨lo, hi, ?_, h3, g1, g2⟩
  rcases Nat.lt_or_ge hi lo with c | c
  · have a1 := (g1 hi (by omega)).2 c
    have a2 := (g2 hi (by omega)).1 (by omega)
    omega
  · exact c
theorem filter_range {α : Type} (l : List α) (g : α → Bool) (d : α) (lo hi : Nat) (h : lo ≤ hi) (hh : hi ≤ l.length) (hg : ∀ i, i < l.length → (g (l.getD i d) = true ↔ lo ≤ i ∧ i < hi)) : (l.filter g).length = hi - lo := by
  have : ∀ i, i ≤ l.length → ((l.take i).filter g).length = min i hi - min i lo := by
    intro i
    induction i with
    | zero => intro _; simp
    | succ i ih =>
      intro hi2
      have e : l.take (i + 1) = l.take i ++ [l.getD i d] := by
        rw [List.take_add_one, List.getD_eq_getElem?_getD, List.getElem?_eq_getElem (by omega)]; rfl
      rw [e, List.filter_append, List.length_append, ih (by omega)]
      have hgi := hg i (by omega)
      cases hx : g (l.getD i d)
      · have : ¬ (lo ≤ i ∧ i < hi) := fun h2 => by rw [hgi.2 h2] at hx; cases hx
        rw [List.filter_cons_of_neg (by rw [hx]; simp), List.filter_nil]; simp only [List.length_nil]; omega
      · have := hgi.1 hx
        rw [List.filter_cons_of_pos (by rw [hx]), List.filter_nil]; simp only [List.length_cons, List.length_nil]; omega
  have := this l.length (Nat.le_refl _)
  rw [List.take_length] at this
  rw [this]; omega
theorem nodup_len_le {α : Type} [BEq α] [LawfulBEq α] : ∀ (l m : List α), l.Nodup → (∀ x ∈ l, x ∈ m) → l.length ≤ m.length
  | [], _, _, _ => Nat.zero_le _
  | x :: l, m, hn, h => by
    have hn' := List.nodup_cons.1 hn
    have hx := h x (by simp)
    have := nodup_len_le l (m.erase x) hn'.2 (fun y hy => (List.mem_erase_of_ne (fun (e : y = x) => hn'.1 (by rw [← e]; exact hy))).2 (h y (by simp [hy])))
    rw [List.length_erase_of_mem hx] at this
    have : 0 < m.length := List.length_pos_of_mem hx
    simp only [List.length_cons]; omega
def prefH (ds : List (List Nat)) (P : List Nat) (p : Nat × Nat) : Bool := decide ((textAt ds p).take P.length = P)
theorem prefH_iff (ds : List (List Nat)) (P : List Nat) (p : Nat × Nat) : prefH ds P p = true ↔ cmpL (textAt ds p) P = 0 := by
  unfold prefH; rw [decide_eq_true_eq, cmpL_zero]
theorem rows_nodup (ds : List (List Nat)) : (rowsR ds).Nodup := (rowsR_spec ds).1.imp (fun h e => by subst e; exact ltS_asymm h h)
theorem range_count (ds : List (List Nat)) (P : List Nat) (lo hi : Nat) (h : RangeP ds P lo hi) : ((allH ds ds.length).filter (prefH ds P)).length = hi - lo := by
  have h1 := filter_range (rowsR ds) (prefH ds P) (0, 0) lo hi h.le h.len (fun i hi2 => by
    rw [prefH_iff]
    have a := h.low i hi2
    have b := h.high i hi2
    have e : cmpR ds P i = cmpL (textAt ds ((rowsR ds).getD i (0, 0))) P := rfl
    rw [← e]
    constructor
    · intro h0
      refine ⟨?_, b.1 (by omega)⟩
      rcases Nat.lt_or_ge i lo with c | c
      · have := a.2 c; omega
      · exact c
    · rintro ⟨c, c2⟩
      have := b.2 c2
      rcases Int.lt_or_le (cmpR ds P i) 0 with g | g
      · have := a.1 g; omega
      · omega)
  rw [← h1]
  have hmem : ∀ p, p ∈ allH ds ds.length ↔ p ∈ rowsR ds := fun p => by rw [mem_allH, (rowsR_spec ds).2.1]; rfl
  apply Nat.le_antisymm
  · refine nodup_len_le _ _ ((nodup_allH ds _).filter _) (fun x hx => ?_)
    rw [List.mem_filter] at hx ⊢; exact ⟨(hmem x).1 hx.1, hx.2⟩
  · refine nodup_len_le _ _ ((rows_nodup ds).filter _) (fun x hx => ?_)
    rw [List.mem_filter] at hx ⊢; exact ⟨(hmem x).2 hx.1, hx.2⟩
end Go.Proofs.Ytjpoebmjfedecaa
