/-
  Documents as one row of symbols: the row, where each begins, the symbols in the order of ends.
-/
import Derived.Test.YtoifmfdaghmleaaSufDbl
namespace Go.Proofs.Ytoifmfdaghmleaa.Tx

def rowOf (ds : List (List Nat)) : List Nat := ds.flatMap fun d => d.map (· + 1) ++ [0]
def startOf (ds : List (List Nat)) (r : Nat) : Nat := (rowOf (ds.take r)).length
theorem rowOf_nil : rowOf [] = [] := rfl
theorem rowOf_append (a b : List (List Nat)) : rowOf (a ++ b) = rowOf a ++ rowOf b := by unfold rowOf; exact List.flatMap_append
theorem rowOf_one (d : List Nat) : rowOf [d] = d.map (· + 1) ++ [0] := by simp [rowOf]
theorem take_succ_doc (ds : List (List Nat)) (r : Nat) (h : r < ds.length) : ds.take (r + 1) = ds.take r ++ [ds.getD r []] := by
  rw [List.take_add_one, List.getD_eq_getElem?_getD, List.getElem?_eq_getElem h]; rfl
theorem rowOf_take (ds : List (List Nat)) (r : Nat) (h : r < ds.length) : rowOf (ds.take (r + 1)) = rowOf (ds.take r) ++ ((ds.getD r []).map (· + 1) ++ [0]) := by
  rw [take_succ_doc ds r h, rowOf_append, rowOf_one]
theorem startOf_zero (ds : List (List Nat)) : startOf ds 0 = 0 := rfl
theorem startOf_succ (ds : List (List Nat)) (r : Nat) (h : r < ds.length) : startOf ds (r + 1) = startOf ds r + (ds.getD r []).length + 1 := by
  unfold startOf; rw [rowOf_take ds r h]; simp; omega
theorem startOf_all (ds : List (List Nat)) : startOf ds ds.length = (rowOf ds).length := by unfold startOf; rw [List.take_length]
theorem startOf_mono (ds : List (List Nat)) {a b : Nat} (h : a ≤ b) (hb : b ≤ ds.length) : startOf ds a ≤ startOf ds b := by
  obtain ⟨m, rfl⟩ := Nat.le.dest h
  induction m with
  | zero => exact Nat.le_refl _
  | succ m ih => rw [← Nat.add_assoc, startOf_succ ds (a + m) (by omega)]; have := ih (by omega) (by omega); omega
theorem startOf_ge (ds : List (List Nat)) (r : Nat) (h : r ≤ ds.length) : r ≤ startOf ds r := by
  induction r with
  | zero => omega
  | succ r ih => rw [startOf_succ ds r (by omega)]; have := ih (by omega); omega
theorem len_le_row (ds : List (List Nat)) : ds.length ≤ (rowOf ds).length := by rw [← startOf_all]; exact startOf_ge ds _ (Nat.le_refl _)
theorem rowOf_split (ds : List (List Nat)) (r : Nat) (h : r < ds.length) : rowOf ds = rowOf (ds.take r) ++ (((ds.getD r []).map (· + 1) ++ [0]) ++ rowOf (ds.drop (r + 1))) := by
  rw [← List.append_assoc, ← rowOf_take ds r h, ← rowOf_append, List.take_append_drop]
/-- the symbol of a place in a document -/
theorem row_at (ds : List (List Nat)) (r k : Nat) (h : r < ds.length) (hk : k ≤ (ds.getD r []).length) : (rowOf ds).getD (startOf ds r + k) 0 = if k < (ds.getD r []).length then (ds.getD r []).getD k 0 + 1 else 0 := by
  rw [rowOf_split ds r h]
  rw [List.getD_eq_getElem?_getD]
  unfold startOf
  rw [List.getElem?_append_right (by omega), show (rowOf (ds.take r)).length + k - (rowOf (ds.take r)).length = k by omega]
  generalize ds.getD r [] = d at *
  rw [List.append_assoc]
  by_cases c : k < d.length
  · rw [if_pos c, List.getElem?_append_left (by simpa using c), List.getElem?_map, List.getElem?_eq_getElem c, List.getD_eq_getElem?_getD, List.getElem?_eq_getElem c]; rfl
  · rw [if_neg c, List.getElem?_append_right (by simp; omega)]
    obtain rfl : k = d.length := by omega
    simp
/-- each place is one document's -/
theorem place_of (ds : List (List Nat)) : ∀ m, m ≤ ds.length → ∀ p, p < startOf ds m → ∃ r k, r < m ∧ k ≤ (ds.getD r []).length ∧ p = startOf ds r + k := by
  intro m
  induction m with
  | zero => intro _ p hp; rw [startOf_zero] at hp; omega
  | succ m ih =>
    intro hm p hp
    rw [startOf_succ ds m (by omega)] at hp
    by_cases c : p < startOf ds m
    · obtain ⟨r, k, h1, h2, h3⟩ := ih (by omega) p c
      exact ⟨r, k, by omega, h2, h3⟩
    · exact ⟨m, p - startOf ds m, by omega, by omega, by omega⟩
theorem place_one (ds : List (List Nat)) (r k r' k' : Nat) (h : r < ds.length) (h' : r' < ds.length) (hk : k ≤ (ds.getD r []).length) (hk' : k' ≤ (ds.getD r' []).length) (e : startOf ds r + k = startOf ds r' + k') : r = r' ∧ k = k' := by
  rcases Nat.lt_trichotomy r r' with c | c | c
  · have := startOf_mono ds (show r + 1 ≤ r' by omega) (by omega)
    rw [startOf_succ ds r h] at this; omega
  · subst c; exact ⟨rfl, by omega⟩
  · have := startOf_mono ds (show r' + 1 ≤ r by omega) (by omega)
    rw [startOf_succ ds r' h'] at this; omega

/-- noughts ahead of a place -/
def zc (row : List Nat) (p : Nat) : Nat := ((row.take p).filter (· == 0)).length
theorem zc_zero (row : List Nat) : zc row 0 = 0 := by simp [zc]
theorem zc_succ (row : List Nat) (p : Nat) (h : p < row.length) : zc row (p + 1) = zc row p + if row.getD p 0 = 0 then 1 else 0 := by
  unfold zc
  rw [take_succ_getD row p h, List.filter_append, List.length_append]
  congr 1
  generalize row.getD p 0 = x
  by_cases e : x = 0 <;> simp [e]
theorem zc_mono (row : List Nat) {a b : Nat} (h : a ≤ b) (hb : b ≤ row.length) : zc row a ≤ zc row b := by
  obtain ⟨m, rfl⟩ := Nat.le.dest h
  induction m with
  | zero => exact Nat.le_refl _
  | succ m ih => rw [← Nat.add_assoc, zc_succ row (a + m) (by omega)]; have := ih (by omega) (by omega); omega
theorem zc_le (row : List Nat) (p : Nat) : zc row p ≤ p := by
  unfold zc
  exact Nat.le_trans (List.length_filter_le _ _) (by rw [List.length_take]; omega)
theorem zc_rowOf (ds : List (List Nat)) : zc (rowOf ds) (rowOf ds).length = ds.length := by
  unfold zc
  rw [List.take_length]
  induction ds with
  | nil => rfl
  | cons d ds ih =>
    rw [show rowOf (d :: ds) = (d.map (· + 1) ++ [0]) ++ rowOf ds from rfl, List.filter_append, List.length_append, ih, List.filter_append]
    have : (d.map (· + 1)).filter (· == 0) = [] := by
      rw [List.filter_eq_nil_iff]; intro a ha; obtain ⟨x, _, rfl⟩ := List.mem_map.1 ha; simp
    rw [this]; simp; omega
theorem zc_start (ds : List (List Nat)) (r : Nat) (h : r ≤ ds.length) : zc (rowOf ds) (startOf ds r) = r := by
  have e : (rowOf ds).take (startOf ds r) = rowOf (ds.take r) := by
    conv => lhs; rhs; rw [← List.take_append_drop r ds]
    rw [rowOf_append]
    unfold startOf
    rw [List.take_left]
  have := zc_rowOf (ds.take r)
  unfold zc at *
  rw [e]
  rw [List.take_length] at this
  rw [this, List.length_take]; omega
theorem zc_in (ds : List (List Nat)) (r k : Nat) (h : r < ds.length) (hk : k ≤ (ds.getD r []).length) : zc (rowOf ds) (startOf ds r + k) = r := by
  induction k with
  | zero => exact zc_start ds r (by omega)
  | succ k ih =>
    have hl : startOf ds r + k < (rowOf ds).length := by
      have := startOf_mono ds (show r + 1 ≤ ds.length by omega) (Nat.le_refl _)
      rw [startOf_succ ds r h, startOf_all] at this; omega
    have h0 := row_at ds r k h (by omega)
    rw [if_pos (by omega)] at h0
    rw [← Nat.add_assoc, zc_succ _ _ hl, ih (by omega), h0, if_neg (by omega)]; rfl
/-- the number of a place's first symbol -/
def symP (row : List Nat) (D p : Nat) : Nat := if row.getD p 0 = 0 then zc row p else D + row.getD p 0
def symS (row : List Nat) (D p : Nat) : Int := if p < row.length then (symP row D p : Int) else -1
theorem symP_lt (ds : List (List Nat)) (hb : ∀ x ∈ rowOf ds, x ≤ 256) (p : Nat) (hp : p < (rowOf ds).length) : symP (rowOf ds) ds.length p < ds.length + 257 := by
  unfold symP
  split
  · have := zc_mono (rowOf ds) (Nat.le_of_lt hp) (Nat.le_refl _)
    rw [zc_rowOf] at this; omega
  · have : (rowOf ds).getD p 0 ∈ rowOf ds := by rw [List.getD_eq_getElem?_getD, List.getElem?_eq_getElem hp]; exact List.getElem_mem _
    have := hb _ this
    omega
theorem symN_row (ds : List (List Nat)) : SymN (symS (rowOf ds) ds.length) (rowOf ds).length := by
  refine ⟨fun p hp => ?_, fun p hp => ?_, fun p hp hne => ?_⟩
  · unfold symS; rw [if_pos hp]; omega
  · unfold symS; rw [if_neg (by omega)]
  · obtain ⟨r, k, h1, h2, h3⟩ := place_of ds ds.length (Nat.le_refl _) ((rowOf ds).length - 1) (by rw [startOf_all]; omega)
    have h4 := startOf_mono ds (show r + 1 ≤ ds.length by omega) (Nat.le_refl _)
    rw [startOf_succ ds r h1, startOf_all] at h4
    have hk : k = (ds.getD r []).length := by omega
    have h0 : (rowOf ds).getD ((rowOf ds).length - 1) 0 = 0 := by rw [h3, row_at ds r k h1 h2, if_neg (by omega)]
    have hz := zc_succ (rowOf ds) ((rowOf ds).length - 1) (by omega)
    rw [show (rowOf ds).length - 1 + 1 = (rowOf ds).length by omega, zc_rowOf, if_pos h0] at hz
    unfold symS
    rw [if_pos hp, if_pos (by omega)]
    unfold symP
    rw [if_pos h0]
    by_cases c : (rowOf ds).getD p 0 = 0
    · rw [if_pos c]
      have h5 := zc_succ (rowOf ds) p hp
      rw [if_pos c] at h5
      have h6 := zc_mono (rowOf ds) (show p + 1 ≤ (rowOf ds).length - 1 by omega) (by omega)
      omega
    · rw [if_neg c]; omega
theorem rank_row (ds : List (List Nat)) (hb : ∀ x ∈ rowOf ds, x ≤ 256) : RankK (symS (rowOf ds) ds.length) (rowOf ds).length 1 (symP (rowOf ds) ds.length) (ds.length + 257) :=
  rank_first _ _ _ _ (fun p hp => by unfold symS; rw [if_pos hp]) (symP_lt ds hb)
theorem row_le (ds : List (List Nat)) (h : ∀ d ∈ ds, ∀ c ∈ d, c < 256) : ∀ x ∈ rowOf ds, x ≤ 256 := by
  intro x hx
  obtain ⟨d, hd, hx⟩ := List.mem_flatMap.1 hx
  rcases List.mem_append.1 hx with hx | hx
  · obtain ⟨c, hc, rfl⟩ := List.mem_map.1 hx
    have := h d hd c hc
    omega
  · have := List.mem_singleton.1 hx; omega
end Go.Proofs.Ytoifmfdaghmleaa.Tx
