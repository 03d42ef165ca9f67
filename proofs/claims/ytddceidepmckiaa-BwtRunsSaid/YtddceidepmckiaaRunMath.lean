/-
  The runs of a row of symbols, in plain lists.
-/
import Derived.Test.YtddceidepmckiaaBwtMath
namespace Go.Proofs.Ytddceidepmckiaa
open Go.RowKit

def runLen (c : Nat) : List Nat → Nat
  | [] => 0
  | x :: l => if x = c then runLen c l + 1 else 0
theorem runLen_le (c : Nat) : ∀ l, runLen c l ≤ l.length
  | [] => Nat.le_refl _
  | x :: l => by
    have := runLen_le c l
    unfold runLen
    split <;> simp <;> omega
theorem runLen_eq (c : Nat) : ∀ l q, q < runLen c l → l.getD q 0 = c
  | [], q, h => by simp [runLen] at h
  | x :: l, q, h => by
    unfold runLen at h
    split at h
    · cases q with
      | zero => simp; assumption
      | succ q => simp; exact runLen_eq c l q (by omega)
    · omega
theorem runLen_stop (c : Nat) : ∀ l, runLen c l < l.length → l.getD (runLen c l) 0 ≠ c
  | [], h => by simp [runLen] at h
  | x :: l, h => by
    unfold runLen at h ⊢
    split
    · rename_i e
      rw [if_pos e] at h
      simp at h
      simp; exact runLen_stop c l h
    · simp; assumption
theorem getD_drop' (L : List Nat) (p q : Nat) : (L.drop p).getD q 0 = L.getD (p + q) 0 := by
  rw [List.getD_eq_getElem?_getD, List.getD_eq_getElem?_getD, List.getElem?_drop]
def runEnd (L : List Nat) (p : Nat) : Nat := p + 1 + runLen (L.getD p 0) (L.drop (p + 1))
theorem runEnd_gt (L : List Nat) (p : Nat) : p < runEnd L p := by unfold runEnd; omega
theorem runEnd_le (L : List Nat) (p : Nat) (h : p < L.length) : runEnd L p ≤ L.length := by
  have := runLen_le (L.getD p 0) (L.drop (p + 1))
  rw [List.length_drop] at this
  unfold runEnd; omega
theorem runEnd_eq (L : List Nat) (p q : Nat) (h1 : p ≤ q) (h2 : q < runEnd L p) : L.getD q 0 = L.getD p 0 := by
  by_cases e : q = p
  · rw [e]
  · have := runLen_eq (L.getD p 0) (L.drop (p + 1)) (q - (p + 1)) (by unfold runEnd at h2; omega)
    rw [getD_drop', show p + 1 + (q - (p + 1)) = q by omega] at this
    exact this
theorem runEnd_stop (L : List Nat) (p : Nat) (h : runEnd L p < L.length) : L.getD (runEnd L p) 0 ≠ L.getD p 0 := by
  have := runLen_stop (L.getD p 0) (L.drop (p + 1)) (by rw [List.length_drop]; unfold runEnd at h; omega)
  rw [getD_drop'] at this
  exact this
theorem runEnd_one (L : List Nat) (p e : Nat) (hp : p < e) (he : e ≤ L.length) (heq : ∀ q, p ≤ q → q < e → L.getD q 0 = L.getD p 0) (hst : e = L.length ∨ L.getD e 0 ≠ L.getD p 0) : e = runEnd L p := by
  have h1 := runEnd_le L p (by omega)
  have h2 := runEnd_gt L p
  rcases Nat.lt_trichotomy e (runEnd L p) with h | h | h
  · rcases hst with c | c
    · omega
    · exact (c (runEnd_eq L p e (by omega) h)).elim
  · exact h
  · exact (runEnd_stop L p (by omega) (heq _ (by omega) h)).elim
/-- where so many runs end -/
def posR (L : List Nat) : Nat → Nat
  | 0 => 0
  | j + 1 => if posR L j < L.length then runEnd L (posR L j) else posR L j
theorem posR_zero (L : List Nat) : posR L 0 = 0 := rfl
theorem posR_succ (L : List Nat) (j : Nat) (h : posR L j < L.length) : posR L (j + 1) = runEnd L (posR L j) := by
  show (if _ then _ else _) = _
  rw [if_pos h]
structure EndsR (L : List Nat) (N : Nat) : Prop where
  fin : posR L N = L.length
  go : ∀ q, q < N → posR L q < L.length
theorem EndsR.le {L : List Nat} {N : Nat} (h : EndsR L N) : ∀ j, j ≤ N → j ≤ posR L j ∧ posR L j ≤ L.length
  | 0, _ => ⟨Nat.zero_le _, Nat.zero_le _⟩
  | j + 1, hj => by
    have h1 := h.go j (by omega)
    have h2 := (h.le j (by omega)).1
    rw [posR_succ L j h1]
    exact ⟨by have := runEnd_gt L (posR L j); omega, runEnd_le L _ h1⟩
theorem ends_R (L : List Nat) : ∃ N, N ≤ L.length ∧ EndsR L N := by
  have key : ∀ m, (∃ N, N ≤ m ∧ EndsR L N) ∨ (m ≤ posR L m ∧ posR L m < L.length ∧ ∀ q, q < m → posR L q < L.length) := by
    intro m
    induction m with
    | zero =>
      by_cases e : L.length = 0
      · exact .inl ⟨0, Nat.le_refl _, ⟨by rw [posR_zero, e], fun q hq => by omega⟩⟩
      · exact .inr ⟨Nat.zero_le _, by rw [posR_zero]; omega, fun q hq => by omega⟩
    | succ m ih =>
      rcases ih with ⟨N, h1, h2⟩ | ⟨h1, h2, h3⟩
      · exact .inl ⟨N, by omega, h2⟩
      · have g1 := runEnd_gt L (posR L m)
        have g2 := runEnd_le L (posR L m) h2
        have h4 : ∀ q, q < m + 1 → posR L q < L.length := fun q hq => by
          by_cases e : q < m
          · exact h3 q e
          · obtain rfl : q = m := by omega
            exact h2
        by_cases e : runEnd L (posR L m) = L.length
        · exact .inl ⟨m + 1, Nat.le_refl _, ⟨by rw [posR_succ L m h2, e], h4⟩⟩
        · exact .inr ⟨by rw [posR_succ L m h2]; omega, by rw [posR_succ L m h2]; omega, h4⟩
  rcases key L.length with h | ⟨h1, h2, _⟩
  · exact h
  · omega
/-- a run: its symbol and how long it is -/
def rnR (L : List Nat) (q : Nat) : Nat × Nat := (L.getD (posR L q) 0, posR L (q + 1) - posR L q)
theorem rnR_def (L : List Nat) (q : Nat) : rnR L q = (L.getD (posR L q) 0, posR L (q + 1) - posR L q) := rfl
def runsTo (L : List Nat) (j : Nat) : List (Nat × Nat) := (List.range j).map (rnR L)
theorem runsTo_zero (L : List Nat) : runsTo L 0 = [] := rfl
theorem runsTo_succ (L : List Nat) (j : Nat) : runsTo L (j + 1) = runsTo L j ++ [rnR L j] := by unfold runsTo; rw [List.range_succ, List.map_append]; rfl
theorem runsTo_len (L : List Nat) (j : Nat) : (runsTo L j).length = j := by simp [runsTo]
theorem runsTo_pre (L : List Nat) {j N : Nat} (h : j ≤ N) : runsTo L j <+: runsTo L N := by
  obtain ⟨m, rfl⟩ := Nat.le.dest h
  refine ⟨((List.range m).map (j + ·)).map (rnR L), ?_⟩
  unfold runsTo
  rw [← List.map_append, ← List.range_add]
theorem runsTo_take (L : List Nat) {j N : Nat} (h : j ≤ N) : (runsTo L N).take j = runsTo L j := by
  unfold runsTo
  rw [← List.map_take, List.take_range, Nat.min_eq_left h]
theorem EndsR.run {L : List Nat} {N : Nat} (h : EndsR L N) (q : Nat) (hq : q < N) : 1 ≤ (rnR L q).2 ∧ (rnR L q).2 ≤ L.length ∧ posR L q + (rnR L q).2 = posR L (q + 1) := by
  have h1 := h.go q hq
  have h2 := runEnd_gt L (posR L q)
  have h3 := runEnd_le L _ h1
  unfold rnR
  rw [posR_succ L q h1]
  exact ⟨by simp only; omega, by simp only; omega, by simp only; omega⟩
theorem EndsR.unlike {L : List Nat} {N : Nat} (h : EndsR L N) (q : Nat) (hq : q + 1 < N) : (rnR L (q + 1)).1 ≠ (rnR L q).1 := by
  have h1 := h.go q (by omega)
  have h2 := h.go (q + 1) hq
  have h3 := posR_succ L q h1
  unfold rnR
  simp only
  rw [h3] at h2 ⊢
  exact runEnd_stop L _ h2
theorem EndsR.sym {L : List Nat} {N : Nat} (h : EndsR L N) (q k : Nat) (hq : q < N) (hk : k < (rnR L q).2) : L.take (posR L q + k + 1) = L.take (posR L q + k) ++ [(rnR L q).1] := by
  have h1 := h.go q hq
  have h2 := (h.run q hq)
  have h3 := (h.le (q + 1) (by omega)).2
  have h4 : posR L q + k < L.length := by omega
  rw [List.take_succ_eq_append_getElem h4]
  congr 1
  have := runEnd_eq L (posR L q) (posR L q + k) (by omega) (by rw [← posR_succ L q h1]; omega)
  rw [List.getD_eq_getElem?_getD, List.getElem?_eq_getElem h4] at this
  simp only [Option.getD_some] at this
  rw [this]; rfl
attribute [irreducible] runEnd posR rnR runsTo
end Go.Proofs.Ytddceidepmckiaa
