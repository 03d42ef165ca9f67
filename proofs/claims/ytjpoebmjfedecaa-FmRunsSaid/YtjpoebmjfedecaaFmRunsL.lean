/-
  Documents of one byte over and over: where a text of that byte stands in them.
-/
import Derived.Test.YtjpoebmjfedecaaFmMath
namespace Go.Proofs.Ytjpoebmjfedecaa
open Go.RowKit

def runH (r u : Nat) : List (Nat × Nat) := (List.range u).map fun j => (r, j)
theorem runH_len (r u : Nat) : (runH r u).length = u := by simp [runH]
theorem filter_below (u N : Nat) (h : u ≤ N) : (List.range N).filter (fun j => decide (j < u)) = List.range u := by
  induction N with
  | zero => obtain rfl : u = 0 := by omega
            rfl
  | succ N ih =>
    rw [List.range_succ, List.filter_append]
    rcases Nat.lt_or_ge N u with e | e
    · obtain rfl : u = N + 1 := by omega
      have h1 : (List.range N).filter (fun j => decide (j < N + 1)) = List.range N := List.filter_eq_self.2 fun j hj => by have := List.mem_range.1 hj; simp; omega
      rw [h1, List.range_succ]
      simp
    · rw [ih e]
      have h1 : ([N] : List Nat).filter (fun j => decide (j < u)) = [] := by simp; omega
      rw [h1, List.append_nil]
theorem found_run (ds : List (List Nat)) (P : List Nat) (r u N : Nat) (hu : u ≤ N) (h : ∀ j, j < N → prefH ds P (r, j) = decide (j < u)) : foundL ds P (hitsD ds r N) = runH r u := by
  unfold foundL hitsD runH
  rw [List.filter_map]
  refine congrArg (List.map _) ?_
  rw [← filter_below u N hu]
  exact List.filter_congr fun j hj => h j (List.mem_range.1 hj)
theorem pref_run (ds : List (List Nat)) (r j n k c : Nat) (hd : ds.getD r [] = List.replicate n c) (hj : j ≤ n) (hk : 1 ≤ k) : prefH ds (List.replicate k c) (r, j) = decide (j < n + 1 - k) := by
  unfold prefH textAt
  simp only [hd, List.drop_replicate, List.length_replicate, List.take_replicate]
  rw [decide_eq_decide]
  constructor
  · intro h
    have := congrArg List.length h
    simp at this
    omega
  · intro h
    rw [show min k (n - j) = k by omega]
theorem hits_run (n m k c : Nat) (hk : 1 ≤ k) : hitL [List.replicate n c, List.replicate m c] (List.replicate k c) = runH 0 (n + 1 - k) ++ runH 1 (m + 1 - k) := by
  have e : ∀ A B : List (Nat × Nat), foundL [List.replicate n c, List.replicate m c] (List.replicate k c) (A ++ B) = foundL [List.replicate n c, List.replicate m c] (List.replicate k c) A ++ foundL [List.replicate n c, List.replicate m c] (List.replicate k c) B := fun A B => by unfold foundL; exact List.filter_append ..
  unfold hitL
  rw [show ([List.replicate n c, List.replicate m c] : List (List Nat)).length = 0 + 1 + 1 from rfl, allH_succ, allH_succ, allH_zero, List.nil_append, e]
  rw [show ([List.replicate n c, List.replicate m c] : List (List Nat)).getD 0 [] = List.replicate n c from rfl, show ([List.replicate n c, List.replicate m c] : List (List Nat)).getD (0 + 1) [] = List.replicate m c from rfl, List.length_replicate, List.length_replicate]
  congr 1
  · exact found_run _ _ _ _ _ (by omega) fun j hj => pref_run _ _ _ n _ _ rfl (by omega) hk
  · exact found_run _ _ _ _ _ (by omega) fun j hj => pref_run _ _ _ m _ _ rfl (by omega) hk
theorem runs_at (u v i : Nat) (h : i < u + v) : (runH 0 u ++ runH 1 v).getD i (0, 0) = if i < u then (0, i) else (1, i - u) := by
  rw [List.getD_eq_getElem?_getD, List.getElem?_append, runH_len]
  split
  · next h1 => simp [runH, h1]
  · next h1 =>
    have h2 : i - u < v := by omega
    simp [runH, h2]
theorem rep_getD (n c j : Nat) (h : j < n) : (List.replicate n c).getD j 0 = c := by simp [List.getD_eq_getElem?_getD, h]
attribute [irreducible] runH
end Go.Proofs.Ytjpoebmjfedecaa
