/-
  What is left of a row that is gone through by cutting its head off.
-/
import Derived.Test.YtoifmfdaghmleaaBagCol
import Derived.Test.YtoifmfdaghmleaaBagAlg
set_option linter.unusedVariables false
namespace Go.Proofs.Ytoifmfdaghmleaa
open Go.RowKit Go.Lib Go.Sort Go.Shelf
attribute [local go_sem] Oper.semAt_some

def tl1 (o cap : Nat) : Nat := if cap = 1 then o else o + 1
theorem run_tail1 {P : Program} (W : World) (t e : TypeId) (ht : P.underlying t = some (.slice e)) (hz : ∀ w, (Go.sizeOf e).run P w = .ok 1 w) (g o len cap : Nat) (h : 1 ≤ len) (hc : len ≤ cap) :
    (Instr.slice t (.slice (some ⟨g, o, none⟩) len cap) (some (.int .i64 1)) none none).run P W = .ok (.slice (some ⟨g, tl1 o cap, none⟩) (len - 1) (cap - 1)) W := by
  have ht' : P.underlying t = some (.slice (P.elem t)) := by simp [Program.elem, ht]
  have he : P.elem t = e := by simp [Program.elem, ht]
  rw [run_slice_l W t _ _ _ ht' .i64 _ (by omega) (by omega), he, hz]
  unfold tl1
  by_cases h0 : cap = 1
  · simp [Result.andThen, sliced, h0]
  · simp [Result.andThen, sliced, Addr.add, h0]
/-- what is left of a row, within the iterator's blocks -/
structure JRow {α : Type} (enc : α → Value) (zr : α) (W : World) (X : Nat → Prop) (a : Option Addr) (cap : Nat) (l : List α) : Prop where
  row : Row W a l.length (fun j => enc (l.getD j zr))
  le : l.length ≤ cap
  own : l.length = 0 ∨ X (bOf a)
theorem JRow.keep {α : Type} {enc : α → Value} {zr : α} {W W' : World} {X : Nat → Prop} {a : Option Addr} {cap : Nat} {l : List α} (h : JRow enc zr W X a cap l) (hk : KeepX X W W') : JRow enc zr W' X a cap l :=
  ⟨⟨h.row.at_, fun j hj => by
    have h1 := h.row.cell j hj
    have hlt1 := World.block_lt_of_cell? W _ h1
    exact (World.cell?_of_block (a := ⟨bOf a, oOf a + j, none⟩) (hk.block _ hlt1 (h.own.resolve_left (by omega)))).trans h1⟩, h.le, h.own⟩
theorem JRow.drewN {α : Type} {enc : α → Value} {zr : α} {W : World} {X : Nat → Prop} {a : Option Addr} {cap : Nat} {l : List α} (h : JRow enc zr W X a cap l) (q : Nat) : JRow enc zr (W.drewN q) X a cap l := ⟨h.row.drewN q, h.le, h.own⟩
theorem JRow.head {α : Type} {enc : α → Value} {zr : α} {W : World} {X : Nat → Prop} {a : Option Addr} {cap : Nat} {x : α} {l : List α} (h : JRow enc zr W X a cap (x :: l)) : ∃ g o, a = some ⟨g, o, none⟩ ∧ W.cell? ⟨g, o, none⟩ = some (enc x) ∧ 1 ≤ cap ∧ JRow enc zr W X (some ⟨g, tl1 o cap, none⟩) (cap - 1) l := by
  have ha : a = some ⟨bOf a, oOf a, none⟩ := h.row.at_.resolve_left (by simp)
  have hc := h.row.cell 0 (by simp)
  have hle := h.le
  rw [List.length_cons] at hle
  refine ⟨bOf a, oOf a, ha, by simpa using hc, by omega, ⟨⟨.inr rfl, fun j hj => ?_⟩, by omega, ?_⟩⟩
  · have := h.row.cell (j + 1) (by simpa using hj)
    have e : tl1 (oOf a) cap = oOf a + 1 := by unfold tl1; rw [if_neg (by omega)]
    show W.cell? ⟨bOf a, tl1 (oOf a) cap + j, none⟩ = _
    rw [e, show oOf a + 1 + j = oOf a + (j + 1) by omega, this]
    rfl
  · rcases Nat.eq_zero_or_pos l.length with h0 | h0
    · exact .inl h0
    · exact .inr (h.own.resolve_left (by simp))
def lenV : Value → Nat | .slice _ n _ => n | _ => 0
theorem below_undrew {W w1 : World} (h : Below W.drew.heap.size W.drew w1) : Below W.heap.size W w1 := ⟨h.os, h.tape, h.output, h.size, h.block⟩
end Go.Proofs.Ytoifmfdaghmleaa
