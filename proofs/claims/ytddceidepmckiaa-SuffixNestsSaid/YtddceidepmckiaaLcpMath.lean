/-
  What neighbours in the order share.
-/
import Derived.Test.YtddceidepmckiaaSufOk
import Derived.Test.YtddceidepmckiaaRefRows
namespace Go.Proofs.Ytddceidepmckiaa

def MatC (row : List Nat) (p q n : Nat) : Prop := ∀ i, i < n → row.getD (p + i) 0 = row.getD (q + i) 0 ∧ row.getD (p + i) 0 ≠ 0
structure IsC (row : List Nat) (p q n : Nat) : Prop where
  mat : MatC row p q n
  stop : row.getD (p + n) 0 = 0 ∨ row.getD (p + n) 0 ≠ row.getD (q + n) 0
theorem matC_zero (row : List Nat) (p q : Nat) : MatC row p q 0 := fun i hi => by omega
theorem matC_succ {row : List Nat} {p q n : Nat} (h : MatC row p q n) (h1 : row.getD (p + n) 0 = row.getD (q + n) 0) (h2 : row.getD (p + n) 0 ≠ 0) : MatC row p q (n + 1) := fun i hi => by
  by_cases e : i = n
  · subst e; exact ⟨h1, h2⟩
  · exact h i (by omega)
theorem matC_symm {row : List Nat} {p q n : Nat} (h : MatC row p q n) : MatC row q p n := fun i hi => ⟨(h i hi).1.symm, by rw [← (h i hi).1]; exact (h i hi).2⟩
theorem matC_trans {row : List Nat} {p q r n : Nat} (h : MatC row p q n) (g : MatC row q r n) : MatC row p r n := fun i hi => ⟨(h i hi).1.trans (g i hi).1, (h i hi).2⟩
theorem matC_tail {row : List Nat} {p q n : Nat} (h : MatC row p q n) : MatC row (p + 1) (q + 1) (n - 1) := fun i hi => by
  have := h (i + 1) (by omega)
  rw [show p + 1 + i = p + (i + 1) by omega, show q + 1 + i = q + (i + 1) by omega]; exact this
theorem IsC.one {row : List Nat} {p q n m : Nat} (h : IsC row p q n) (g : IsC row p q m) : n = m := by
  rcases Nat.lt_trichotomy n m with c | c | c
  · have := g.mat n c
    rcases h.stop with e | e
    · exact absurd e this.2
    · exact absurd this.1 e
  · exact c
  · have := h.mat m c
    rcases g.stop with e | e
    · exact absurd e this.2
    · exact absurd this.1 e
theorem lt_of_sym {row : List Nat} {p : Nat} (h : row.getD p 0 ≠ 0) : p < row.length := by
  rcases Nat.lt_or_ge p row.length with g | g
  · exact g
  · exact absurd (by rw [List.getD_eq_getElem?_getD, List.getElem?_eq_none g]; rfl) h
theorem matC_lt {row : List Nat} {p q n : Nat} (h : MatC row p q n) (hp : p < row.length) (hl : row.getD (row.length - 1) 0 = 0) : p + n < row.length := by
  cases n with
  | zero => exact hp
  | succ n =>
    have := (h n (by omega)).2
    have h1 := lt_of_sym this
    have h2 : p + n ≠ row.length - 1 := fun e => this (by rw [e]; exact hl)
    omega
theorem last_row (ds : List (List Nat)) : (rowOf ds).getD ((rowOf ds).length - 1) 0 = 0 := by
  rcases Nat.eq_zero_or_pos (rowOf ds).length with e | hp
  · rw [List.eq_nil_of_length_eq_zero e]; rfl
  · obtain ⟨r, k, h1, h2, h3⟩ := place_of ds ds.length (Nat.le_refl _) ((rowOf ds).length - 1) (by rw [startOf_all]; omega)
    have h4 := startOf_mono ds (show r + 1 ≤ ds.length by omega) (Nat.le_refl _)
    rw [startOf_succ ds r h1, startOf_all] at h4
    rw [h3, row_at ds r k h1 h2, if_neg (by omega)]
theorem ltS_mid {s : Nat → Int} {a b c m : Nat} (h1 : ltS s a b) (h2 : ltS s b c) (h : eqK s m a c) : eqK s m a b := by
  obtain ⟨j1, l1, e1⟩ := h1
  obtain ⟨j2, l2, e2⟩ := h2
  rcases Nat.lt_or_ge j1 m with g | g
  · exfalso
    rcases Nat.lt_trichotomy j1 j2 with c | c | c
    · have := e2 j1 c; have := h j1 g; omega
    · subst c; have := h j1 g; omega
    · have := e1 j2 c; have := h j2 (by omega); omega
  · intro i hi
    exact e1 i (by omega)
theorem ordS_sym (ds : List (List Nat)) (p : Nat) (h : (rowOf ds).getD p 0 ≠ 0) : ordS ds p = ((ds.length + (rowOf ds).getD p 0 : Nat) : Int) := by
  unfold ordS symS symP
  rw [if_pos (lt_of_sym h), if_neg h]
theorem ordS_le (ds : List (List Nat)) (p : Nat) (h : (rowOf ds).getD p 0 = 0) : ordS ds p ≤ (ds.length : Int) := by
  unfold ordS symS symP
  rw [if_pos h]
  split
  · rename_i hp
    have := zc_mono (rowOf ds) (Nat.le_of_lt hp) (Nat.le_refl _)
    rw [zc_rowOf] at this; omega
  · omega
theorem eqK_of_mat (ds : List (List Nat)) {p q n : Nat} (h : MatC (rowOf ds) p q n) : eqK (ordS ds) n p q := fun i hi => by
  have := h i hi
  rw [ordS_sym ds _ this.2, ordS_sym ds _ (by rw [← this.1]; exact this.2), this.1]
theorem mat_of_eqK (ds : List (List Nat)) {p q n : Nat} (h : eqK (ordS ds) n p q) (hz : ∀ i, i < n → (rowOf ds).getD (p + i) 0 ≠ 0) : MatC (rowOf ds) p q n := fun i hi => by
  have h1 := h i hi
  have h2 := hz i hi
  refine ⟨?_, h2⟩
  rw [ordS_sym ds _ h2] at h1
  by_cases c : (rowOf ds).getD (q + i) 0 = 0
  · have := ordS_le ds _ c; omega
  · rw [ordS_sym ds _ c] at h1; omega
theorem kasai (ds : List (List Nat)) (sa : List Nat) (h : IsSA (ordS ds) (rowOf ds).length sa) (p n : Nat) (hp : p < (rowOf ds).length) (hat : 0 < sa.idxOf p) (hm : MatC (rowOf ds) p (sa.getD (sa.idxOf p - 1) 0) n) :
    MatC (rowOf ds) (p + 1) (sa.getD (sa.idxOf (p + 1) - 1) 0) (n - 1) := by
  rcases Nat.eq_zero_or_pos n with e | hn
  · subst e; exact matC_zero _ _ _
  obtain ⟨i1, i2⟩ := idxOf_at ((h.mem p).2 hp)
  have hq := (h.mem _).1 (getD_mem (l := sa) (i := sa.idxOf p - 1) (by omega))
  have hlt := pair_at h.ord (show sa.idxOf p - 1 < sa.idxOf p by omega) i1
  rw [i2] at hlt
  generalize sa.getD (sa.idxOf p - 1) 0 = q at *
  have hl := last_row ds
  have hp1 := matC_lt hm hp hl
  have hq1 := matC_lt (matC_symm hm) hq hl
  have hp1' : p + 1 < (rowOf ds).length := by omega
  have hq1' : q + 1 < (rowOf ds).length := by omega
  have e0 := eqK_of_mat ds hm 0 hn
  have hlt1 : ltS (ordS ds) (q + 1) (p + 1) := by
    rcases (ltS_step _ _ _).1 hlt with c | c
    · simp only [Nat.add_zero] at e0; omega
    · exact c.2
  obtain ⟨j1, j2⟩ := idxOf_at ((h.mem (p + 1)).2 hp1')
  obtain ⟨k1, k2⟩ := idxOf_at ((h.mem (q + 1)).2 hq1')
  have hord : sa.idxOf (q + 1) < sa.idxOf (p + 1) := by
    rcases Nat.lt_trichotomy (sa.idxOf (q + 1)) (sa.idxOf (p + 1)) with c | c | c
    · exact c
    · rw [← c, k2] at j2
      rw [j2] at hlt1
      exact (ltS_asymm hlt1 hlt1).elim
    · have := pair_at h.ord c k1
      rw [j2, k2] at this
      exact (ltS_asymm this hlt1).elim
  have ht := matC_tail hm
  by_cases c : sa.idxOf (q + 1) = sa.idxOf (p + 1) - 1
  · rw [← c, k2]; exact ht
  · have g1 := pair_at h.ord (show sa.idxOf (q + 1) < sa.idxOf (p + 1) - 1 by omega) (by omega)
    have g2 := pair_at h.ord (show sa.idxOf (p + 1) - 1 < sa.idxOf (p + 1) by omega) j1
    rw [k2] at g1
    rw [j2] at g2
    have g3 := ltS_mid g1 g2 (eqK_of_mat ds (matC_symm ht))
    exact matC_trans ht (mat_of_eqK ds g3 (fun i hi => (matC_symm ht i hi).2))
/-- what stands at a place, as symbols -/
theorem row_text (ds : List (List Nat)) (p : Nat × Nat) (hp : validH ds p) (i : Nat) (hi : i ≤ (textAt ds p).length) : (rowOf ds).getD (placeOf ds p + i) 0 = if i < (textAt ds p).length then (textAt ds p).getD i 0 + 1 else 0 := by
  have hp2 := hp.2
  have hlen : (textAt ds p).length = (ds.getD p.1 []).length - p.2 := by unfold textAt; rw [List.length_drop]
  unfold placeOf
  rw [Nat.add_assoc, row_at ds p.1 (p.2 + i) hp.1 (by omega)]
  by_cases c : i < (textAt ds p).length
  · rw [if_pos c, if_pos (by omega)]
    unfold textAt
    generalize ds.getD p.1 [] = d
    rw [List.getD_eq_getElem?_getD, List.getD_eq_getElem?_getD, List.getElem?_drop]
  · rw [if_neg c, if_neg (by omega)]
theorem isC_text (ds : List (List Nat)) (p q : Nat × Nat) (hp : validH ds p) (hq : validH ds q) (n : Nat) (h1 : n ≤ (textAt ds p).length) (h2 : n ≤ (textAt ds q).length) (hm : ∀ i, i < n → (textAt ds p).getD i 0 = (textAt ds q).getD i 0)
    (hs : n = (textAt ds p).length ∨ n = (textAt ds q).length ∨ (textAt ds p).getD n 0 ≠ (textAt ds q).getD n 0) : IsC (rowOf ds) (placeOf ds p) (placeOf ds q) n := by
  refine ⟨fun i hi => ?_, ?_⟩
  · rw [row_text ds p hp i (by omega), row_text ds q hq i (by omega), if_pos (by omega), if_pos (by omega), hm i hi]
    exact ⟨rfl, by omega⟩
  · rw [row_text ds p hp n h1, row_text ds q hq n h2]
    by_cases c1 : n < (textAt ds p).length
    · by_cases c2 : n < (textAt ds q).length
      · rw [if_pos c1, if_pos c2]
        rcases hs with e | e | e
        · omega
        · omega
        · exact .inr (by omega)
      · rw [if_pos c1, if_neg c2]; exact .inr (by omega)
    · rw [if_neg c1]; exact .inl rfl
theorem map_place (ds : List (List Nat)) (i : Nat) (hi : i < (rowsR ds).length) : ((rowsR ds).map (placeOf ds)).getD i 0 = placeOf ds ((rowsR ds).getD i (0, 0)) := by
  rw [List.getD_eq_getElem?_getD, List.getElem?_map, List.getElem?_eq_getElem hi, List.getD_eq_getElem?_getD, List.getElem?_eq_getElem hi]; rfl
attribute [irreducible] MatC
end Go.Proofs.Ytddceidepmckiaa
