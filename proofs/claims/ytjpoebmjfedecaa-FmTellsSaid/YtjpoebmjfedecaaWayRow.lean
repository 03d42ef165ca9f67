/-
  Steps from a row lead through the places ahead.
-/
import Derived.Test.YtjpoebmjfedecaaBackMath
namespace Go.Proofs.Ytjpoebmjfedecaa
open Go.RowKit

/-- Steps from a row lead through the places ahead -/
theorem way_row (ds : List (List Nat)) (hb : ∀ d ∈ ds, ∀ c ∈ d, c < 256) (r d off : Nat) (hr : r < (rowsR ds).length) (he : (rowsR ds).getD r (0, 0) = (d, off)) : ∀ q, q ≤ off →
    itL (bwtOf ds) r q < (rowsR ds).length ∧ (rowsR ds).getD (itL (bwtOf ds) r q) (0, 0) = (d, off - q)
  | 0, _ => ⟨hr, by rw [itL_zero, he]; rfl⟩
  | q + 1, hq => by
    obtain ⟨h1, h2⟩ := way_row ds hb r d off hr he q (by omega)
    have hL := bwt_row ds _ h1
    rw [h2] at hL
    simp only at hL
    rw [if_neg (by omega)] at hL
    obtain ⟨g1, _, g3⟩ := row_step ds hb _ h1 (by rw [hL]; omega)
    rw [itL_succ]
    refine ⟨g1, ?_⟩
    rw [g3, h2]
    show (d, off - q - 1) = (d, off - (q + 1))
    rw [Nat.sub_sub]
theorem way_sym (ds : List (List Nat)) (hb : ∀ d ∈ ds, ∀ c ∈ d, c < 256) (r d off : Nat) (hr : r < (rowsR ds).length) (he : (rowsR ds).getD r (0, 0) = (d, off)) (q : Nat) (hq : q ≤ off) :
    (bwtOf ds).getD (itL (bwtOf ds) r q) 0 = if q < off then (ds.getD d []).getD (off - 1 - q) 0 + 1 else 0 := by
  obtain ⟨h1, h2⟩ := way_row ds hb r d off hr he q hq
  rw [bwt_row ds _ h1, h2]
  simp only
  by_cases c : q < off
  · rw [if_neg (by omega), if_pos c, show off - q - 1 = off - 1 - q by omega]
  · rw [if_pos (by omega), if_neg c]
theorem way_ends (ds : List (List Nat)) (hb : ∀ d ∈ ds, ∀ c ∈ d, c < 256) (r d off : Nat) (hr : r < (rowsR ds).length) (he : (rowsR ds).getD r (0, 0) = (d, off)) : EndsL (bwtOf ds) r off :=
  ⟨fun q hq => by rw [way_sym ds hb r d off hr he q (by omega), if_pos hq]; omega, by rw [way_sym ds hb r d off hr he off (Nat.le_refl _), if_neg (by omega)]⟩
end Go.Proofs.Ytjpoebmjfedecaa
