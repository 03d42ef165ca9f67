/-
  The contracts of package suffix that sort: sortBy, second, ranks.
-/
import Derived.Test.YtelndbjjkhlacaaAppendRow
import Derived.Test.YtelndbjjkhlacaaTextMath
import Derived.Test.YtelndbjjkhlacaaSameInts
namespace Go.Proofs.Ytelndbjjkhlacaa
open Go.RowKit

theorem info_int : (Try.prog.info? 3).map (fun i => (i.zero, i.size, i.bytes)) = some (some (.int .i64 0), 1, 8) := by kernel_rfl
theorem make_int (N : Nat) (h : N ≤ 1000000) : ∀ W : World, (Instr.makeSlice 34 (.int .i64 (N : Int)) (.int .i64 (N : Int))).run Try.prog W = .ok (.slice (some ⟨W.heap.size, 0, none⟩) N N) (W.alloc (.cells (madeCells #[.int .i64 0] N) 3)) := by
  intro W
  obtain ⟨i0, hi, hz0, hz1, hz2⟩ := info_parts info_int
  have := run_make (P := Try.prog) W 34 3 i0 _ Try.underlying34 hi hz0 .i64 .i64 N N (by omega) (by omega) (by rw [hz2]; omega) (by omega)
  rw [hz1] at this
  simpa [Value.cells] using this

/-- a row of numbers that is read -/
abbrev natV (l : List Nat) : Nat → Value := fun j => .int .i64 ((l.getD j 0 : Nat) : Int)
def IntsPost (w : World) (l : List Nat) (e : Ending) (w' : World) : Prop :=
  ∃ a cap, e = .returned (.slice a l.length cap) ∧ Row w' a l.length (natV l) ∧ Below w.heap.size w w' ∧ (l.length = 0 ∨ w.heap.size ≤ bOf a)
/-- how many are in the class ahead -/
def cls1 (l : List Nat) (r : Nat → Nat) (i c : Nat) : Nat := if c = 0 then 0 else inK (l.take i) r (c - 1)
theorem cls1_zero (l : List Nat) (r : Nat → Nat) (c : Nat) : cls1 l r 0 c = 0 := by unfold cls1; rw [List.take_zero, inK_nil]; split <;> rfl
theorem cls1_succ (l : List Nat) (r : Nat → Nat) (i c : Nat) (hi : i < l.length) : cls1 l r (i + 1) c = if c = r (l.getD i 0) + 1 then cls1 l r i (r (l.getD i 0) + 1) + 1 else cls1 l r i c := by
  unfold cls1
  by_cases h : c = 0
  · subst h; rw [if_pos rfl, if_pos rfl, if_neg (by omega)]
  · by_cases e : c = r (l.getD i 0) + 1
    · rw [if_neg h, if_pos e, if_neg (by omega), inK_take l r (c - 1) i hi, if_pos (by omega), e]
    · rw [if_neg h, if_neg e, if_neg h, inK_take l r (c - 1) i hi, if_neg (by omega)]; rfl
theorem cls1_le (l : List Nat) (r : Nat → Nat) (i c : Nat) : cls1 l r i c ≤ l.length := by
  unfold cls1; split
  · omega
  · exact Nat.le_trans (inK_le _ _ _) (List.length_take_le' _ _)
/-- .. summed up behind k of them -/
def cls2 (l : List Nat) (r : Nat → Nat) (k c : Nat) : Nat := if c ≤ k then below l r c else cls1 l r l.length c
theorem cls2_zero (l : List Nat) (r : Nat → Nat) (c : Nat) : cls2 l r 0 c = cls1 l r l.length c := by
  unfold cls2; split
  · obtain rfl : c = 0 := by omega
    simp [below_zero, cls1]
  · rfl
theorem cls2_at (l : List Nat) (r : Nat → Nat) (k : Nat) : cls2 l r k k = below l r k ∧ cls2 l r k (k + 1) = inK l r k := by
  unfold cls2
  rw [if_pos (Nat.le_refl _), if_neg (by omega)]
  refine ⟨rfl, ?_⟩
  unfold cls1
  rw [if_neg (by omega), List.take_length]; rfl
theorem cls2_succ (l : List Nat) (r : Nat → Nat) (k c : Nat) : cls2 l r (k + 1) c = if c = k + 1 then below l r (k + 1) else cls2 l r k c := by
  unfold cls2
  by_cases e : c = k + 1
  · subst e; rw [if_pos (Nat.le_refl _), if_pos rfl]
  · rw [if_neg e]
    by_cases h : c ≤ k
    · rw [if_pos (by omega), if_pos h]
    · rw [if_neg (by omega), if_neg h]
theorem cls2_end (l : List Nat) (r : Nat → Nat) (K c : Nat) (h : c ≤ K) : cls2 l r K c = below l r c := by unfold cls2; rw [if_pos h]
theorem cls2_le (l : List Nat) (r : Nat → Nat) (k c : Nat) : cls2 l r k c ≤ l.length := by
  unfold cls2; split
  · exact below_le _ _ _
  · exact cls1_le _ _ _ _
/-- where the next of a class goes -/
def cls3 (l : List Nat) (r : Nat → Nat) (i c : Nat) : Nat := below l r c + inK (l.take i) r c
theorem cls3_zero (l : List Nat) (r : Nat → Nat) (c : Nat) : cls3 l r 0 c = below l r c := by unfold cls3; rw [List.take_zero, inK_nil]; rfl
theorem cls3_at (l : List Nat) (r : Nat → Nat) (i : Nat) : cls3 l r i (r (l.getD i 0)) = posK l r i := by rw [posK_def]; rfl
theorem cls3_succ (l : List Nat) (r : Nat → Nat) (i c : Nat) (hi : i < l.length) : cls3 l r (i + 1) c = if c = r (l.getD i 0) then posK l r i + 1 else cls3 l r i c := by
  unfold cls3
  rw [inK_take l r c i hi]
  by_cases e : c = r (l.getD i 0)
  · rw [if_pos e, if_pos e.symm, e, posK_def]; omega
  · rw [if_neg e, if_neg (fun h => e h.symm)]; rfl
theorem getD_mem {l : List Nat} {i : Nat} (h : i < l.length) : l.getD i 0 ∈ l := by
  rw [List.getD_eq_getElem?_getD, List.getElem?_eq_getElem h]; exact List.getElem_mem _
attribute [irreducible] cls1 cls2 cls3

/-- the first places of second -/
theorem make_cap (N : Nat) (h : N ≤ 1000000) : ∀ W : World, (Instr.makeSlice 34 (.int .i64 0) (.int .i64 (N : Int))).run Try.prog W = .ok (.slice (some ⟨W.heap.size, 0, none⟩) 0 N) (W.alloc (.cells (madeCells #[.int .i64 0] N) 3)) := by
  intro W
  obtain ⟨i0, hi, hz0, hz1, hz2⟩ := info_parts info_int
  have := run_make (P := Try.prog) W 34 3 i0 _ Try.underlying34 hi hz0 .i64 .i64 0 N (by omega) (by omega) (by rw [hz2]; omega) (by omega)
  rw [hz1] at this
  simpa [Value.cells] using this
abbrev intVs (l : List Nat) : List Value := l.map fun x : Nat => Value.int .i64 (x : Int)
theorem owns_natV {w : World} {base cap : Nat} {a : Option Addr} {l : List Nat} (h : w.ownsRow base 3 1 (.slice a l.length cap) l.length (intVs l)) : Row w a l.length (natV l) ∧ (l.length = 0 ∨ base ≤ bOf a) := by
  obtain ⟨h1, h2⟩ := owns_row h
  exact ⟨h1.congr fun k hk => by simp [List.getD_eq_getElem?_getD, hk], h2⟩
/-- second's row behind its first loop / behind i of the second one's rounds -/
def snd1 (n k i : Nat) : List Nat := (List.range i).map fun j => n - k + j
def snd2 (sa : List Nat) (n k i : Nat) : List Nat := snd1 n k k ++ ((sa.take i).filter fun p => decide (k ≤ p)).map fun p => p - k
theorem snd1_zero (n k : Nat) : snd1 n k 0 = [] := rfl
theorem snd1_succ (n k i : Nat) : snd1 n k (i + 1) = snd1 n k i ++ [n - k + i] := by simp [snd1, List.range_succ]
theorem snd1_len (n k i : Nat) : (snd1 n k i).length = i := by simp [snd1]
theorem snd2_zero (sa : List Nat) (n k : Nat) : snd2 sa n k 0 = snd1 n k k := by simp [snd2]
theorem snd2_succ (sa : List Nat) (n k i : Nat) (hi : i < sa.length) : snd2 sa n k (i + 1) = if k ≤ sa.getD i 0 then snd2 sa n k i ++ [sa.getD i 0 - k] else snd2 sa n k i := by
  unfold snd2
  rw [take_succ_getD sa i hi, List.filter_append, List.map_append]
  generalize sa.getD i 0 = x
  by_cases e : k ≤ x
  · rw [if_pos e]; simp [e]
  · rw [if_neg e]; simp [e]
theorem snd2_len (sa : List Nat) (n k i : Nat) : (snd2 sa n k i).length ≤ k + i := by
  unfold snd2
  rw [List.length_append, snd1_len, List.length_map]
  have h1 := List.length_filter_le (fun p => decide (k ≤ p)) (sa.take i)
  have h2 : (sa.take i).length ≤ i := List.length_take_le _ _
  omega
theorem snd2_all (sa : List Nat) (k : Nat) : snd2 sa sa.length k sa.length = sndK sa sa.length k := by
  unfold snd2 snd1 sndK; rw [List.take_length]
attribute [irreducible] snd1 snd2

def RanksPost (w : World) (n : Nat) (cls : Nat → Nat) (K : Nat) (e : Ending) (w' : World) : Prop :=
  ∃ a cap, e = .returned (.tuple #[.slice a n cap, .int .i64 (K : Int)]) ∧ Row w' a n (fun p => .int .i64 ((cls p : Nat) : Int)) ∧ Below w.heap.size w w'
end Go.Proofs.Ytelndbjjkhlacaa
