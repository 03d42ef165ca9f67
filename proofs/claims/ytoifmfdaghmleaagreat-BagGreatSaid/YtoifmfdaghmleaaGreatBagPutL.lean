/-
  The statements' own lists: put, set, at.
-/
import Derived.Test.YtoifmfdaghmleaaGreatBagApp
import Derived.Test.YtoifmfdaghmleaaGreatSameInts
set_option linter.unusedVariables false
namespace Go.Proofs.YtoifmfdaghmleaaGreat
open Go.RowKit Go.Lib Go.Sort Go.Shelf

theorem getD_insAt (l : List Int) (r : Nat) (x : Int) (f : Int → Value) (hr : r ≤ l.length) : (List.range r).map (fun j => f (l.getD j 0)) ++ [f x] ++ (List.range (l.length - r)).map (fun j => f (l.getD (r + j) 0)) = (insAt l r x).map f := by
  unfold insAt
  rw [List.map_append, List.map_cons, List.append_assoc, List.singleton_append]
  congr 1
  · apply List.ext_getElem?
    intro j
    rw [List.getElem?_map, List.getElem?_map]
    rcases Nat.lt_or_ge j r with h | h
    · rw [List.getElem?_range h, List.getElem?_take_of_lt h, List.getElem?_eq_getElem (by omega)]
      simp [List.getD_eq_getElem?_getD, List.getElem?_eq_getElem (show j < l.length by omega)]
    · rw [List.getElem?_eq_none (by simpa using h), List.getElem?_eq_none (by simp; omega)]; rfl
  · congr 1
    apply List.ext_getElem?
    intro j
    rw [List.getElem?_map, List.getElem?_map, List.getElem?_drop]
    rcases Nat.lt_or_ge j (l.length - r) with h | h
    · rw [List.getElem?_range h, List.getElem?_eq_getElem (by omega)]
      simp [List.getD_eq_getElem?_getD, List.getElem?_eq_getElem (show r + j < l.length by omega)]
    · rw [List.getElem?_eq_none (by simpa using h), List.getElem?_eq_none (by omega)]; rfl
abbrev intsF (l : List Int) : Nat → Value := fun j => .int .i64 (l.getD j 0)
def PutP (w : World) (l : List Int) (e : Ending) (w' : World) : Prop := ∃ a cap, e = .returned (.slice a l.length cap) ∧ SRow w' a l.length cap (intsF l) ∧ Below w.heap.size w w'
theorem srow_ints {w : World} {base : Nat} {v : Value} {l : List Int} (h : w.ownsRow base 3 1 v l.length (l.map (Value.int .i64))) : ∃ a cap, v = .slice a l.length cap ∧ SRow w a l.length cap (intsF l) := by
  obtain ⟨a, cap, rfl, hr⟩ := SRow.of_owns h
  exact ⟨a, cap, rfl, hr.at_, hr.le, hr.row.congr fun j hj => by
    show (l.map (Value.int .i64)).getD j undef = .int .i64 (l.getD j 0)
    rw [List.getD_eq_getElem?_getD, List.getElem?_map, List.getElem?_eq_getElem hj, List.getD_eq_getElem?_getD, List.getElem?_eq_getElem hj]; rfl⟩
theorem take_snoc {α : Type} (l : List α) (k : Nat) (d : α) (hk : k < l.length) : l.take (k + 1) = l.take k ++ [l.getD k d] := by
  rw [List.take_add_one, List.getElem?_eq_getElem hk, List.getD_eq_getElem?_getD, List.getElem?_eq_getElem hk]
  rfl
def whereI (l : List Int) (x : Int) : Int := if x ∈ l then (rk ltI l x : Int) else -1
end Go.Proofs.YtoifmfdaghmleaaGreat
