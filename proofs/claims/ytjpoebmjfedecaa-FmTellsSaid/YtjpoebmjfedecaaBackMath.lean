/-
  Rows found from a text's end on: in plain lists.
-/
import Derived.Test.YtjpoebmjfedecaaRefBwt
namespace Go.Proofs.Ytjpoebmjfedecaa
open Go.RowKit

theorem rkC_mono (L : List Nat) (c : Nat) {a b : Nat} (h : a ≤ b) (hb : b ≤ L.length) : rkC L c a ≤ rkC L c b := by
  obtain ⟨m, rfl⟩ := Nat.le.dest h
  clear h
  induction m with
  | zero => exact Nat.le_refl _
  | succ m ih =>
    have h1 := ih (by omega)
    have h2 := rkC_succ L c (a + m) (by omega)
    rw [← Nat.add_assoc] at hb ⊢
    rw [h2]; omega
theorem rk_hit (L : List Nat) (c lo m : Nat) : ∀ hi, lo ≤ hi → hi ≤ L.length → rkC L c lo ≤ m → m < rkC L c hi → ∃ i, lo ≤ i ∧ i < hi ∧ L.getD i 0 = c ∧ rkC L c i = m
  | 0, h, _, h1, h2 => by
    obtain rfl : lo = 0 := by omega
    omega
  | hi + 1, h, hl, h1, h2 => by
    by_cases e : lo = hi + 1
    · subst e; omega
    · by_cases e2 : m < rkC L c hi
      · obtain ⟨i, a1, a2, a3, a4⟩ := rk_hit L c lo m hi (by omega) (by omega) h1 e2
        exact ⟨i, a1, by omega, a3, a4⟩
      · have hs := rkC_succ L c hi (by omega)
        by_cases e3 : L.getD hi 0 = c
        · rw [if_pos e3] at hs
          exact ⟨hi, by omega, by omega, e3, by omega⟩
        · rw [if_neg e3] at hs
          omega
theorem st_rk_le (L : List Nat) (c i : Nat) (hi : i ≤ L.length) : stC L c + rkC L c i ≤ L.length := by
  have h1 := rkC_mono L c hi (Nat.le_refl _)
  have h2 := stC_succ L c
  have h3 := stC_le L (c + 1)
  rw [rkC_all] at h1
  omega
theorem rows_idx (ds : List (List Nat)) (p : Nat × Nat) (hp : validH ds p) : ∃ i, i < (rowsR ds).length ∧ (rowsR ds).getD i (0, 0) = p := by
  obtain ⟨i, hi, e⟩ := List.getElem_of_mem (((rowsR_spec ds).2.1 p).2 hp)
  exact ⟨i, hi, by rw [List.getD_eq_getElem?_getD, List.getElem?_eq_getElem hi]; exact e⟩
theorem sa_row (ds : List (List Nat)) (i : Nat) (hi : i < (rowsR ds).length) : (saOf ds).getD i 0 = placeOf ds ((rowsR ds).getD i (0, 0)) := by
  unfold saOf
  rw [List.getD_eq_getElem?_getD, List.getElem?_map, List.getD_eq_getElem?_getD, List.getElem?_eq_getElem hi]; rfl
theorem bwt_row (ds : List (List Nat)) (i : Nat) (hi : i < (rowsR ds).length) : (bwtOf ds).getD i 0 = if ((rowsR ds).getD i (0, 0)).2 = 0 then 0 else (ds.getD ((rowsR ds).getD i (0, 0)).1 []).getD (((rowsR ds).getD i (0, 0)).2 - 1) 0 + 1 := by
  rw [bwt_hit ds i hi, prev_hit ds _ (rows_at ds i hi)]
theorem nodup_idx {α : Type} (l : List α) (d : α) (h : l.Nodup) (i j : Nat) (hi : i < l.length) (hj : j < l.length) (e : l.getD i d = l.getD j d) : i = j := by
  rw [List.getD_eq_getElem?_getD, List.getElem?_eq_getElem hi, List.getD_eq_getElem?_getD, List.getElem?_eq_getElem hj] at e
  simp only [Option.getD_some] at e
  have hp := List.pairwise_iff_getElem.1 h
  rcases Nat.lt_trichotomy i j with g | g | g
  · exact (hp i j hi hj g e).elim
  · exact g
  · exact (hp j i hj hi g e.symm).elim
/-- a Step goes from a row to that of the place ahead -/
theorem row_step (ds : List (List Nat)) (hb : ∀ d ∈ ds, ∀ c ∈ d, c < 256) (i : Nat) (hi : i < (rowsR ds).length) (hne : (bwtOf ds).getD i 0 ≠ 0) :
    stepL (bwtOf ds) i < (rowsR ds).length ∧ 1 ≤ ((rowsR ds).getD i (0, 0)).2 ∧ (rowsR ds).getD (stepL (bwtOf ds) i) (0, 0) = (((rowsR ds).getD i (0, 0)).1, ((rowsR ds).getD i (0, 0)).2 - 1) := by
  have hi' : i < (rowOf ds).length := by rw [← rows_len]; exact hi
  have hlt : stepL (bwtOf ds) i < (rowsR ds).length := by
    rw [rows_len, ← bwtOf_len]; exact stepL_lt _ i (by rw [bwtOf_len]; exact hi') (bwtOf_le ds hb)
  have hs := step_sa ds hb i hi' hne
  rw [sa_row ds _ hlt, sa_row ds i hi] at hs
  have hv := rows_at ds i hi
  have hv2 := rows_at ds _ hlt
  have h1 : 1 ≤ ((rowsR ds).getD i (0, 0)).2 := by
    rcases Nat.eq_zero_or_pos ((rowsR ds).getD i (0, 0)).2 with e | e
    · rw [bwt_row ds i hi, if_pos e] at hne; exact (hne rfl).elim
    · exact e
  refine ⟨hlt, h1, ?_⟩
  generalize (rowsR ds).getD i (0, 0) = p at *
  obtain ⟨r, k⟩ := p
  refine placeOf_one ds _ _ hv2 ⟨hv.1, by have := hv.2; simp only at this ⊢; omega⟩ ?_
  unfold placeOf at hs ⊢
  simp only at hs h1 ⊢
  omega
/-- and each row is come to from that of the place behind -/
theorem row_back (ds : List (List Nat)) (hb : ∀ d ∈ ds, ∀ c ∈ d, c < 256) (j r k : Nat) (hj : j < (rowsR ds).length) (he : (rowsR ds).getD j (0, 0) = (r, k)) (hk : k < (ds.getD r []).length) :
    ∃ i, i < (rowsR ds).length ∧ (rowsR ds).getD i (0, 0) = (r, k + 1) ∧ (bwtOf ds).getD i 0 = (ds.getD r []).getD k 0 + 1 ∧ stepL (bwtOf ds) i = j := by
  have hv := rows_at ds j hj
  rw [he] at hv
  obtain ⟨i, hi, e⟩ := rows_idx ds (r, k + 1) ⟨hv.1, hk⟩
  have hL : (bwtOf ds).getD i 0 = (ds.getD r []).getD k 0 + 1 := by rw [bwt_row ds i hi, e]; simp
  obtain ⟨h1, _, h3⟩ := row_step ds hb i hi (by rw [hL]; omega)
  refine ⟨i, hi, e, hL, ?_⟩
  rw [e] at h3
  exact nodup_idx (rowsR ds) (0, 0) (rows_nodup ds) _ _ h1 hj (by rw [h3, he]; rfl)
/-- the rows that begin with a text -/
structure IsB (ds : List (List Nat)) (P : List Nat) (lo hi : Nat) : Prop where
  le : lo ≤ hi
  len : hi ≤ (rowsR ds).length
  all : ∀ j, j < (rowsR ds).length → ((lo ≤ j ∧ j < hi) ↔ (textAt ds ((rowsR ds).getD j (0, 0))).take P.length = P)
theorem IsB.nil (ds : List (List Nat)) : IsB ds [] 0 (rowsR ds).length := ⟨Nat.zero_le _, Nat.le_refl _, fun _ hj => ⟨fun _ => rfl, fun _ => ⟨Nat.zero_le _, hj⟩⟩⟩
theorem IsB.more {ds : List (List Nat)} {P : List Nat} {lo hi : Nat} (h : IsB ds P lo hi) (hb : ∀ d ∈ ds, ∀ c ∈ d, c < 256) (c : Nat) :
    IsB ds (c :: P) (stC (bwtOf ds) (c + 1) + rkC (bwtOf ds) (c + 1) lo) (stC (bwtOf ds) (c + 1) + rkC (bwtOf ds) (c + 1) hi) := by
  have hlen : (bwtOf ds).length = (rowsR ds).length := by rw [bwtOf_len, rows_len]
  have hl := h.len
  have hle := h.le
  refine ⟨by have := rkC_mono (bwtOf ds) (c + 1) h.le (by omega); omega, by rw [← hlen]; exact st_rk_le _ _ _ (by omega), fun j hj => ⟨fun ⟨h1, h2⟩ => ?_, fun ht => ?_⟩⟩
  · obtain ⟨i, a1, a2, a3, a4⟩ := rk_hit (bwtOf ds) (c + 1) lo (j - stC (bwtOf ds) (c + 1)) hi h.le (by omega) (by omega) (by omega)
    have hst : stepL (bwtOf ds) i = j := by unfold stepL; rw [a3, a4]; omega
    obtain ⟨_, b2, b3⟩ := row_step ds hb i (by omega) (by rw [a3]; omega)
    rw [hst] at b3
    have hv := rows_at ds i (by omega)
    have hp := (h.all i (by omega)).1 ⟨a1, a2⟩
    rw [bwt_row ds i (by omega), if_neg (by omega)] at a3
    rw [b3]
    generalize (rowsR ds).getD i (0, 0) = p at *
    obtain ⟨r, k⟩ := p
    unfold textAt at hp ⊢
    unfold validH at hv
    simp only at hp hv a3 b2 ⊢
    rw [drop_cons (ds.getD r []) (k - 1) (by omega), show k - 1 + 1 = k by omega, List.length_cons, List.take_succ_cons, hp]
    congr 1
    omega
  · have hv := rows_at ds j hj
    generalize he : (rowsR ds).getD j (0, 0) = p at *
    obtain ⟨r, k⟩ := p
    unfold textAt at ht
    unfold validH at hv
    simp only at ht hv
    have hk : k < (ds.getD r []).length := by
      rcases Nat.lt_or_ge k (ds.getD r []).length with g | g
      · exact g
      · rw [List.drop_of_length_le g] at ht; simp at ht
    rw [drop_cons (ds.getD r []) k hk, List.length_cons, List.take_succ_cons] at ht
    injection ht with t1 t2
    obtain ⟨i, i1, i2, i3, i4⟩ := row_back ds hb j r k hj he hk
    rw [t1] at i3
    have hin := (h.all i i1).2 (by rw [i2]; exact t2)
    have hs := rkC_succ (bwtOf ds) (c + 1) i (by omega)
    rw [if_pos i3] at hs
    have m1 := rkC_mono (bwtOf ds) (c + 1) hin.1 (by omega)
    have m2 := rkC_mono (bwtOf ds) (c + 1) (show i + 1 ≤ hi by omega) (by omega)
    have hst : j = stC (bwtOf ds) (c + 1) + rkC (bwtOf ds) (c + 1) i := by rw [← i4]; unfold stepL; rw [i3]
    omega
/-- the rows of a text, from its end on -/
def bkR (L : List Nat) : List Nat → Nat × Nat
  | [] => (0, L.length)
  | c :: P => (stC L (c + 1) + rkC L (c + 1) (bkR L P).1, stC L (c + 1) + rkC L (c + 1) (bkR L P).2)
theorem bkR_nil (L : List Nat) : bkR L [] = (0, L.length) := rfl
theorem bkR_cons (L : List Nat) (c : Nat) (P : List Nat) : bkR L (c :: P) = (stC L (c + 1) + rkC L (c + 1) (bkR L P).1, stC L (c + 1) + rkC L (c + 1) (bkR L P).2) := rfl
theorem bkR_is (ds : List (List Nat)) (hb : ∀ d ∈ ds, ∀ c ∈ d, c < 256) : ∀ P, IsB ds P (bkR (bwtOf ds) P).1 (bkR (bwtOf ds) P).2
  | [] => by rw [bkR_nil, bwtOf_len, ← rows_len]; exact IsB.nil ds
  | c :: P => (bkR_is ds hb P).more hb c
theorem bkR_le (L : List Nat) : ∀ P, (bkR L P).1 ≤ (bkR L P).2 ∧ (bkR L P).2 ≤ L.length
  | [] => ⟨Nat.zero_le _, Nat.le_refl _⟩
  | c :: P => by
    obtain ⟨h1, h2⟩ := bkR_le L P
    rw [bkR_cons]
    exact ⟨by have := rkC_mono L (c + 1) h1 h2; simp only; omega, st_rk_le L _ _ h2⟩
attribute [irreducible] bkR
end Go.Proofs.Ytjpoebmjfedecaa
