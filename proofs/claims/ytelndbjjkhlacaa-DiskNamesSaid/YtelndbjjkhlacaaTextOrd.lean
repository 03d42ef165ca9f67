/-
  The order of places by what stands there, told by documents: texts in order, the same ones by their documents.
-/
import Derived.Test.YtelndbjjkhlacaaTextMath
namespace Go.Proofs.Ytelndbjjkhlacaa

/-- bytes in order -/
def lexL : List Nat → List Nat → Prop
  | [], [] => False
  | [], _ :: _ => True
  | _ :: _, [] => False
  | a :: x, b :: y => a < b ∨ (a = b ∧ lexL x y)
theorem ltS_step (s : Nat → Int) (p q : Nat) : ltS s p q ↔ s p < s q ∨ (s p = s q ∧ ltS s (p + 1) (q + 1)) := by
  constructor
  · rintro ⟨j, h, he⟩
    cases j with
    | zero => exact .inl h
    | succ j =>
      refine .inr ⟨he 0 (by omega), j, ?_, fun i hi => ?_⟩
      · rw [show p + 1 + j = p + (j + 1) by omega, show q + 1 + j = q + (j + 1) by omega]; exact h
      · rw [show p + 1 + i = p + (i + 1) by omega, show q + 1 + i = q + (i + 1) by omega]; exact he (i + 1) (by omega)
  · rintro (h | ⟨h, j, g, ge⟩)
    · exact ⟨0, h, fun i hi => by omega⟩
    · refine ⟨j + 1, ?_, fun i hi => ?_⟩
      · rw [show p + (j + 1) = p + 1 + j by omega, show q + (j + 1) = q + 1 + j by omega]; exact g
      · cases i with
        | zero => exact h
        | succ i => rw [show p + (i + 1) = p + 1 + i by omega, show q + (i + 1) = q + 1 + i by omega]; exact ge i (by omega)
theorem place_lt (ds : List (List Nat)) (r k : Nat) (h : r < ds.length) (hk : k ≤ (ds.getD r []).length) : startOf ds r + k < (rowOf ds).length := by
  have := startOf_mono ds (show r + 1 ≤ ds.length by omega) (Nat.le_refl _)
  rw [startOf_succ ds r h, startOf_all] at this; omega
theorem symS_in (ds : List (List Nat)) (r k : Nat) (h : r < ds.length) (hk : k < (ds.getD r []).length) : symS (rowOf ds) ds.length (startOf ds r + k) = ((ds.length + ((ds.getD r []).getD k 0 + 1) : Nat) : Int) := by
  have hr := row_at ds r k h (by omega)
  rw [if_pos hk] at hr
  unfold symS symP
  rw [if_pos (place_lt ds r k h (by omega)), hr, if_neg (by omega)]
theorem symS_end (ds : List (List Nat)) (r : Nat) (h : r < ds.length) : symS (rowOf ds) ds.length (startOf ds r + (ds.getD r []).length) = (r : Int) := by
  have hr := row_at ds r (ds.getD r []).length h (Nat.le_refl _)
  rw [if_neg (by omega)] at hr
  unfold symS symP
  rw [if_pos (place_lt ds r _ h (Nat.le_refl _)), hr, if_pos rfl, zc_in ds r _ h (Nat.le_refl _)]
theorem drop_cons (l : List Nat) (k : Nat) (h : k < l.length) : l.drop k = l.getD k 0 :: l.drop (k + 1) := by
  rw [List.drop_eq_getElem_cons h, List.getD_eq_getElem?_getD, List.getElem?_eq_getElem h]; rfl
theorem ltS_docs (ds : List (List Nat)) : ∀ (m r k r' k' : Nat), r < ds.length → r' < ds.length → k + m = (ds.getD r []).length → k' ≤ (ds.getD r' []).length →
    (ltS (symS (rowOf ds) ds.length) (startOf ds r + k) (startOf ds r' + k') ↔ lexL ((ds.getD r []).drop k) ((ds.getD r' []).drop k') ∨ ((ds.getD r []).drop k = (ds.getD r' []).drop k' ∧ r < r')) := by
  intro m
  induction m with
  | zero =>
    intro r k r' k' h h' hk hk'
    obtain rfl : k = (ds.getD r []).length := by omega
    rw [List.drop_length, ltS_step, symS_end ds r h]
    by_cases c : k' < (ds.getD r' []).length
    · rw [symS_in ds r' k' h' c, drop_cons _ k' c]
      simp only [lexL, true_or, iff_true]
      exact .inl (by omega)
    · obtain rfl : k' = (ds.getD r' []).length := by omega
      rw [symS_end ds r' h', List.drop_length]
      simp only [lexL, false_or, true_and]
      constructor
      · rintro (h | ⟨e, hh⟩)
        · omega
        · obtain rfl : r = r' := by omega
          exact (ltS_asymm hh hh).elim
      · intro hh; exact .inl (by omega)
  | succ m ih =>
    intro r k r' k' h h' hk hk'
    have hk1 : k < (ds.getD r []).length := by omega
    rw [ltS_step, symS_in ds r k h hk1, drop_cons _ k hk1]
    by_cases c : k' < (ds.getD r' []).length
    · rw [symS_in ds r' k' h' c, drop_cons _ k' c]
      have hi := ih r (k + 1) r' (k' + 1) h h' (by omega) (by omega)
      rw [← Nat.add_assoc, ← Nat.add_assoc] at hi
      rw [hi]
      simp only [lexL, List.cons.injEq]
      generalize (ds.getD r []).getD k 0 = a
      generalize (ds.getD r' []).getD k' 0 = b
      constructor
      · rintro (h | ⟨e, h | ⟨h, g⟩⟩)
        · exact .inl (.inl (by omega))
        · exact .inl (.inr ⟨by omega, h⟩)
        · exact .inr ⟨⟨by omega, h⟩, g⟩
      · rintro ((h | ⟨e, h⟩) | ⟨⟨e, h⟩, g⟩)
        · exact .inl (by omega)
        · exact .inr ⟨by omega, .inl h⟩
        · exact .inr ⟨by omega, .inr ⟨h, g⟩⟩
    · obtain rfl : k' = (ds.getD r' []).length := by omega
      rw [symS_end ds r' h', List.drop_length]
      simp only [lexL, false_or]
      constructor
      · rintro (h | ⟨e, _⟩) <;> omega
      · rintro ⟨h, _⟩; cases h
/-- documents behind others turn nothing of their places -/
theorem getD_append (a b : List (List Nat)) (r : Nat) (h : r < a.length) : (a ++ b).getD r [] = a.getD r [] := by
  rw [List.getD_eq_getElem?_getD, List.getElem?_append_left h, List.getD_eq_getElem?_getD]
theorem startOf_append (a b : List (List Nat)) (r : Nat) (h : r ≤ a.length) : startOf (a ++ b) r = startOf a r := by
  unfold startOf; rw [List.take_append_of_le_length h]
theorem ltS_append (a b : List (List Nat)) (p q : Nat) (hp : p < (rowOf a).length) (hq : q < (rowOf a).length) :
    ltS (symS (rowOf (a ++ b)) (a ++ b).length) p q ↔ ltS (symS (rowOf a) a.length) p q := by
  rw [← startOf_all] at hp hq
  obtain ⟨r, k, h1, h2, rfl⟩ := place_of a a.length (Nat.le_refl _) p hp
  obtain ⟨r', k', h1', h2', rfl⟩ := place_of a a.length (Nat.le_refl _) q hq
  have e1 := ltS_docs a ((a.getD r []).length - k) r k r' k' h1 h1' (by omega) h2'
  have hl : a.length ≤ (a ++ b).length := by simp
  have e2 := ltS_docs (a ++ b) ((a.getD r []).length - k) r k r' k' (by omega) (by omega) (by rw [getD_append a b r h1]; omega) (by rw [getD_append a b r' h1']; exact h2')
  rw [getD_append a b r h1, getD_append a b r' h1', startOf_append a b r (by omega), startOf_append a b r' (by omega)] at e2
  rw [e1, e2]
end Go.Proofs.Ytelndbjjkhlacaa
