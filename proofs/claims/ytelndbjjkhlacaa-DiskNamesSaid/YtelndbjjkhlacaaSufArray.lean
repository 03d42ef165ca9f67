/-
  suffix.Array: all places in order.
-/
import Derived.Test.YtelndbjjkhlacaaSufWalk
import Derived.Test.YtelndbjjkhlacaaTextNew
namespace Go.Proofs.Ytelndbjjkhlacaa
open Go.RowKit

def symL (row : List Nat) (D i : Nat) : List Nat := (List.range i).map (symP row D)
theorem symL_zero (row : List Nat) (D : Nat) : symL row D 0 = [] := rfl
theorem symL_succ (row : List Nat) (D i : Nat) : symL row D (i + 1) = symL row D i ++ [symP row D i] := by simp [symL, List.range_succ]
theorem symL_len (row : List Nat) (D i : Nat) : (symL row D i).length = i := by simp [symL]
theorem symL_at (row : List Nat) (D i j : Nat) (h : j < i) : (symL row D i).getD j 0 = symP row D j := by simp [symL, List.getD_eq_getElem?_getD, h]
attribute [irreducible] symL
/-- all places, each once, in order -/
structure IsSA (s : Nat → Int) (n : Nat) (sa : List Nat) : Prop where
  len : sa.length = n
  mem : ∀ x, x ∈ sa ↔ x < n
  ord : sa.Pairwise (ltS s)
theorem IsSA.one {s : Nat → Int} {n : Nat} {sa sb : List Nat} (h : IsSA s n sa) (g : IsSA s n sb) : sa = sb :=
  sorted_unique (fun _ _ h g => ltS_asymm h g) sa sb h.ord g.ord (fun x => (h.mem x).trans (g.mem x).symm)
def ArrPost (w : World) (s : Nat → Int) (n : Nat) (e : Ending) (w' : World) : Prop :=
  ∃ a cap sa, e = .returned (.slice a n cap) ∧ Row w' a n (natV sa) ∧ IsSA s n sa ∧ Below w.heap.size w w' ∧ (n = 0 ∨ w.heap.size ≤ bOf a)
/-- the loop's state -/
structure ArrSt (w : World) (s : Nat → Int) (n k : Nat) (sa : List Nat) (r : Nat → Nat) (K : Nat) (a5 a3 : Option Addr) (wr : World) : Prop where
  r5 : Row wr a5 n (natV sa)
  r3 : Row wr a3 n (fun p => .int .i64 ((r p : Nat) : Int))
  len : sa.length = n
  mem : ∀ x, x ∈ sa ↔ x < n
  ord : sa.Pairwise (ltT s k)
  rk : RankK s n k r K
  bel : Below w.heap.size w wr
  low : w.heap.size ≤ bOf a5
theorem range_natV (n : Nat) (j : Nat) (h : j < n) : natV (List.range n) j = .int .i64 (j : Int) := by simp [natV, List.getD_eq_getElem?_getD, h]
theorem range_nodup (n : Nat) : (List.range n).Nodup := (List.pairwise_lt_range (n := n)).imp (fun h e => by subst e; omega)
theorem range_len (n : Nat) : (List.range n).length = n := List.length_range
end Go.Proofs.Ytelndbjjkhlacaa
