/-
  What the laws of sets share: a list of numbers that came in, its set.
-/
import Derived.Test.YtoifmfdaghmleaaBagAwake
import Derived.Test.YtoifmfdaghmleaaBagPutL
set_option linter.unusedVariables false
namespace Go.Proofs.Ytoifmfdaghmleaa
open Go.RowKit Go.Lib Go.Sort Go.Shelf

/-- the numbers of a row that came in -/
def listOf {α : Type} (f : Nat → α) (n : Nat) : List α := (List.range n).map f
theorem listOf_len {α : Type} (f : Nat → α) (n : Nat) : (listOf f n).length = n := by simp [listOf]
theorem listOf_getD {α : Type} (f : Nat → α) (n j : Nat) (d : α) (h : j < n) : (listOf f n).getD j d = f j := by
  unfold listOf
  rw [List.getD_eq_getElem?_getD, List.getElem?_map, List.getElem?_range h]; rfl
theorem row_listOf {w : World} {a : Option Addr} {n : Nat} {f : Nat → Int} (h : Row w a n (fun k => .int .i64 (f k))) : Row w a n (intsF (listOf f n)) := h.congr fun j hj => by
  show _ = Value.int .i64 _
  rw [listOf_getD f n j 0 hj]
theorem set_len_le (l : List Int) : (setL ltI l).length ≤ l.length := setL_len l
theorem owns_intsF {w : World} {base cap : Nat} {a : Option Addr} {l : List Int} (h : w.ownsRow base 3 1 (.slice a l.length cap) l.length (mapVI l)) : Row w a l.length (intsF l) := row_ofI h
end Go.Proofs.Ytoifmfdaghmleaa
