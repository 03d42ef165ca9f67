/-
  The samples of documents: their rows, and what the map of them answers.
-/
import Derived.Test.YtjpoebmjfedecaaWalkPut
import Derived.Test.YtjpoebmjfedecaaBwtDocsPut
import Derived.Test.YtjpoebmjfedecaaWayRow
namespace Go.Proofs.Ytjpoebmjfedecaa
open Go.RowKit

/-- the row of a place -/
def rowP (ds : List (List Nat)) (j o : Nat) : Nat := itL (bwtOf ds) j ((ds.getD j []).length - o)
/-- what is put down of document j: so many samples -/
def putD (ds : List (List Nat)) (j k : Nat) : List (Nat × Nat × Nat) := (List.range k).map fun q => (rowP ds j (32 * q), j, 32 * q)
def putsTo (ds : List (List Nat)) (m : Nat) : List (Nat × Nat × Nat) := (List.range m).flatMap fun j => putD ds j ((ds.getD j []).length / 32 + 1)
/-- what the map answers behind so many stores -/
def putF (l : List (Nat × Nat × Nat)) : Int → Option (Nat × Nat) := l.foldl (fun f x => updI f (x.1 : Int) x.2) (fun _ => none)
def putS (l : List (Nat × Nat × Nat)) : List Nat := l.map (·.1)
theorem putF_snoc (l : List (Nat × Nat × Nat)) (x : Nat × Nat × Nat) : putF (l ++ [x]) = updI (putF l) (x.1 : Int) x.2 := by simp [putF]
theorem putS_snoc (l : List (Nat × Nat × Nat)) (x : Nat × Nat × Nat) : putS (l ++ [x]) = putS l ++ [x.1] := by simp [putS]
theorem putD_zero (ds : List (List Nat)) (j : Nat) : putD ds j 0 = [] := rfl
theorem putD_succ (ds : List (List Nat)) (j k : Nat) : putD ds j (k + 1) = putD ds j k ++ [(rowP ds j (32 * k), j, 32 * k)] := by simp [putD, List.range_succ]
theorem putsTo_zero (ds : List (List Nat)) : putsTo ds 0 = [] := rfl
theorem putsTo_succ (ds : List (List Nat)) (m : Nat) : putsTo ds (m + 1) = putsTo ds m ++ putD ds m ((ds.getD m []).length / 32 + 1) := by simp [putsTo, List.range_succ]
theorem putF_some : ∀ (n : Nat) (l : List (Nat × Nat × Nat)), l.length = n → ∀ (r : Int) (p : Nat × Nat), putF l r = some p → ∃ x ∈ l, (x.1 : Int) = r ∧ x.2 = p
  | 0, l, hl, r, p, h => by
    obtain rfl := List.length_eq_zero_iff.1 hl
    cases h
  | n + 1, l, hl, r, p, h => by
    obtain ⟨l', x, rfl⟩ : ∃ l' x, l = l' ++ [x] := ⟨l.dropLast, l.getLast (by intro e; rw [e] at hl; cases hl), (List.dropLast_concat_getLast _).symm⟩
    rw [putF_snoc] at h
    unfold updI at h
    by_cases e : r = (x.1 : Int)
    · rw [if_pos e] at h
      exact ⟨x, by simp, e.symm, Option.some.inj h⟩
    · rw [if_neg e] at h
      obtain ⟨y, hy, h2⟩ := putF_some n l' (by simpa using hl) r p h
      exact ⟨y, by simp [hy], h2⟩
theorem putF_in : ∀ (n : Nat) (l : List (Nat × Nat × Nat)), l.length = n → ∀ x ∈ l, (putF l (x.1 : Int)).isSome = true
  | 0, l, hl, x, hx => by
    obtain rfl := List.length_eq_zero_iff.1 hl
    cases hx
  | n + 1, l, hl, x, hx => by
    obtain ⟨l', y, rfl⟩ : ∃ l' x, l = l' ++ [x] := ⟨l.dropLast, l.getLast (by intro e; rw [e] at hl; cases hl), (List.dropLast_concat_getLast _).symm⟩
    rw [putF_snoc]
    unfold updI
    by_cases e : (x.1 : Int) = (y.1 : Int)
    · rw [if_pos e]; rfl
    · rw [if_neg e]
      rcases List.mem_append.1 hx with h | h
      · exact putF_in n l' (by simpa using hl) x h
      · obtain rfl : x = y := by simpa using h
        exact (e rfl).elim
/-- the first rows are those of the documents' ends -/
theorem row_end (ds : List (List Nat)) (j : Nat) (hj : j < ds.length) : j < (rowsR ds).length ∧ (rowsR ds).getD j (0, 0) = (j, (ds.getD j []).length) := by
  have h1 : j < (rowsR ds).length := by rw [rows_len]; exact Nat.lt_of_lt_of_le hj (len_le_row ds)
  refine ⟨h1, placeOf_one ds _ _ (rows_at ds j h1) ⟨hj, Nat.le_refl _⟩ ?_⟩
  rw [← sa_row ds j h1, sa_end ds j hj]; rfl
theorem rowP_at (ds : List (List Nat)) (hb : ∀ d ∈ ds, ∀ c ∈ d, c < 256) (j o : Nat) (hj : j < ds.length) (ho : o ≤ (ds.getD j []).length) : rowP ds j o < (rowsR ds).length ∧ (rowsR ds).getD (rowP ds j o) (0, 0) = (j, o) := by
  obtain ⟨h1, h2⟩ := row_end ds j hj
  obtain ⟨g1, g2⟩ := way_row ds hb j j _ h1 h2 ((ds.getD j []).length - o) (by omega)
  refine ⟨g1, ?_⟩
  unfold rowP
  rw [g2, show (ds.getD j []).length - ((ds.getD j []).length - o) = o by omega]
theorem rowP_of (ds : List (List Nat)) (hb : ∀ d ∈ ds, ∀ c ∈ d, c < 256) (r j o : Nat) (hr : r < (rowsR ds).length) (h : (rowsR ds).getD r (0, 0) = (j, o)) : j < ds.length ∧ o ≤ (ds.getD j []).length ∧ r = rowP ds j o := by
  have hv := rows_at ds r hr
  rw [h] at hv
  obtain ⟨g1, g2⟩ := rowP_at ds hb j o hv.1 hv.2
  exact ⟨hv.1, hv.2, nodup_idx (rowsR ds) (0, 0) (rows_nodup ds) _ _ hr g1 (by rw [g2, h])⟩
theorem mem_putsTo (ds : List (List Nat)) (m : Nat) (x : Nat × Nat × Nat) : x ∈ putsTo ds m ↔ ∃ j q, j < m ∧ 32 * q ≤ (ds.getD j []).length ∧ x = (rowP ds j (32 * q), j, 32 * q) := by
  unfold putsTo putD
  constructor
  · intro h
    obtain ⟨j, hj, h⟩ := List.mem_flatMap.1 h
    obtain ⟨q, hq, h⟩ := List.mem_map.1 h
    have := List.mem_range.1 hq
    exact ⟨j, q, List.mem_range.1 hj, by omega, h.symm⟩
  · rintro ⟨j, q, hj, hq, rfl⟩
    exact List.mem_flatMap.2 ⟨j, List.mem_range.2 hj, List.mem_map.2 ⟨q, List.mem_range.2 (by omega), rfl⟩⟩
theorem putF_of (ds : List (List Nat)) (hb : ∀ d ∈ ds, ∀ c ∈ d, c < 256) (r : Int) (p : Nat × Nat) (h : putF (putsTo ds ds.length) r = some p) : ∃ q : Nat, r = (q : Int) ∧ q < (rowsR ds).length ∧ (rowsR ds).getD q (0, 0) = p := by
  obtain ⟨x, hx, h1, h2⟩ := putF_some _ _ rfl r p h
  obtain ⟨j, q, hj, hq, rfl⟩ := (mem_putsTo ds _ x).1 hx
  obtain ⟨g1, g2⟩ := rowP_at ds hb j _ hj hq
  exact ⟨_, h1.symm, g1, g2.trans h2⟩
theorem putF_at (ds : List (List Nat)) (hb : ∀ d ∈ ds, ∀ c ∈ d, c < 256) (r j o : Nat) (hr : r < (rowsR ds).length) (h : (rowsR ds).getD r (0, 0) = (j, o)) (ho : o % 32 = 0) : putF (putsTo ds ds.length) (r : Int) = some (j, o) := by
  obtain ⟨h1, h2, rfl⟩ := rowP_of ds hb r j o hr h
  have hx : (rowP ds j o, j, o) ∈ putsTo ds ds.length := (mem_putsTo ds _ _).2 ⟨j, o / 32, h1, by omega, by rw [show 32 * (o / 32) = o by omega]⟩
  have := putF_in _ _ rfl _ hx
  cases hq : putF (putsTo ds ds.length) (rowP ds j o : Int) with
  | none => rw [hq] at this; cases this
  | some p =>
    obtain ⟨q, g1, g2, g3⟩ := putF_of ds hb _ p hq
    obtain rfl : rowP ds j o = q := by omega
    rw [← g3, h]
/-- what At answers of a row: M steps lead to its document's beginning -/
def AtP (f : Int → Option (Nat × Nat)) (L : List Nat) (r M : Nat) (res : Option (Nat × Nat)) : Prop :=
  (∃ k p, k ≤ M ∧ k ≤ 31 ∧ f (itL L r k : Int) = some p ∧ res = some (p.1, p.2 + k)) ∨ ((∀ k, k ≤ M → k ≤ 31 → f (itL L r k : Int) = none) ∧ res = none)
theorem at_samples (ds : List (List Nat)) (hb : ∀ d ∈ ds, ∀ c ∈ d, c < 256) (r d off : Nat) (hr : r < (rowsR ds).length) (he : (rowsR ds).getD r (0, 0) = (d, off)) (res : Option (Nat × Nat)) (h : AtP (putF (putsTo ds ds.length)) (bwtOf ds) r off res) : res = some (d, off) := by
  rcases h with ⟨k, p, hk, _, hf, rfl⟩ | ⟨hn, _⟩
  · obtain ⟨q, g1, _, g3⟩ := putF_of ds hb _ p hf
    obtain ⟨_, g4⟩ := way_row ds hb r d off hr he k hk
    obtain rfl : itL (bwtOf ds) r k = q := by omega
    rw [g4] at g3
    rw [← g3]
    show some (d, off - k + k) = _
    rw [Nat.sub_add_cancel hk]
  · obtain ⟨g3, g4⟩ := way_row ds hb r d off hr he (off % 32) (Nat.mod_le _ _)
    have := putF_at ds hb _ _ _ g3 g4 (by omega)
    rw [hn (off % 32) (Nat.mod_le _ _) (by omega)] at this
    cases this
theorem putS_len (ds : List (List Nat)) (m : Nat) : (putS (putsTo ds m)).length = ((List.range m).map fun j => (ds.getD j []).length / 32 + 1).sum := by
  induction m with
  | zero => rfl
  | succ m ih =>
    unfold putS at ih ⊢
    rw [putsTo_succ, List.map_append, List.length_append, ih, List.range_succ, List.map_append, List.sum_append]
    simp [putD]
end Go.Proofs.Ytjpoebmjfedecaa
