/-
  The statement BwtSteps: its walk.
-/
import Derived.Test.YtckmabdphdcpmaaBwtAwake
namespace Go.Proofs.Ytckmabdphdcpmaa
open Go.RowKit

/-- the rows that have been gone through: those of places below lo, or between t and hi -/
def swB (ds : List (List Nat)) (lo t hi q : Nat) : Bool := decide ((saOf ds).getD q 0 < lo ∨ (t < (saOf ds).getD q 0 ∧ (saOf ds).getD q 0 < hi))
theorem swB_first (ds : List (List Nat)) (lo hi q : Nat) : swB ds lo (hi - 1) hi q = decide ((saOf ds).getD q 0 < lo) := by
  unfold swB; rw [decide_eq_decide]; omega
theorem swB_at (ds : List (List Nat)) (lo t hi q : Nat) (h : (saOf ds).getD q 0 = t) (hl : lo ≤ t) : swB ds lo t hi q = false := by
  unfold swB; rw [decide_eq_false_iff_not, h]; omega
theorem sa_inj (ds : List (List Nat)) (q r : Nat) (hq : q < (rowOf ds).length) (hr : r < (rowOf ds).length) (h : (saOf ds).getD q 0 = (saOf ds).getD r 0) : q = r := by
  have hs := saOf_sa ds
  have hn : (saOf ds).Nodup := nodup_ltS hs.ord
  rw [← hs.len] at hq hr
  refine nodup_getElem? hn (x := (saOf ds).getD q 0) ?_ ?_
  · rw [List.getD_eq_getElem?_getD, List.getElem?_eq_getElem hq]; rfl
  · rw [h, List.getD_eq_getElem?_getD, List.getElem?_eq_getElem hr]; rfl
theorem swB_next (ds : List (List Nat)) (lo t hi r q : Nat) (hr : r < (rowOf ds).length) (hq : q < (rowOf ds).length) (h : (saOf ds).getD r 0 = t) (h1 : t < hi) (h0 : 0 < t) : (if q = r then true else swB ds lo t hi q) = swB ds lo (t - 1) hi q := by
  by_cases e : q = r
  · subst e; rw [if_pos rfl]; unfold swB; symm; rw [decide_eq_true_eq, h]; omega
  · rw [if_neg e]
    have : (saOf ds).getD q 0 ≠ t := fun e2 => e (sa_inj ds q r hq hr (by rw [e2, h]))
    unfold swB; rw [decide_eq_decide]; omega
theorem swB_last (ds : List (List Nat)) (lo hi r q : Nat) (hr : r < (rowOf ds).length) (hq : q < (rowOf ds).length) (h : (saOf ds).getD r 0 = lo) (h1 : lo < hi) : (if q = r then true else swB ds lo lo hi q) = decide ((saOf ds).getD q 0 < hi) := by
  by_cases e : q = r
  · subst e; rw [if_pos rfl, h]; symm; simpa using h1
  · rw [if_neg e]
    have : (saOf ds).getD q 0 ≠ lo := fun e2 => e (sa_inj ds q r hq hr (by rw [e2, h]))
    unfold swB; rw [decide_eq_decide]; omega
attribute [irreducible] swB
theorem size_bool (w : World) : (sizeOf (Try.prog.elem 47)).run Try.prog w = .ok 1 w := by kernel_rfl
theorem info_bool : (Try.prog.info? 4).map (fun i => (i.zero, i.size, i.bytes)) = some (some (.bool false), 1, 1) := by kernel_rfl
theorem make_bool (n : Nat) (h : n ≤ 1000000) : ∀ W : World, (Instr.makeSlice 47 (.int .i64 (n : Int)) (.int .i64 (n : Int))).run Try.prog W = .ok (.slice (some ⟨W.heap.size, 0, none⟩) n n) (W.alloc (.cells (madeCells #[.bool false] n) 4)) := by
  intro W
  obtain ⟨i0, hi, hz0, hz1, hz2⟩ := info_parts info_bool
  have := run_make (P := Try.prog) W 47 4 i0 _ Try.underlying47 hi hz0 .i64 .i64 n n (by omega) (by omega) (by rw [hz2]; omega) (by omega)
  rw [hz1] at this
  simpa [Value.cells] using this
end Go.Proofs.Ytckmabdphdcpmaa
