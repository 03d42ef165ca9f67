/-
  A slice of numbers that came in, opened to its row, with its length within its room.
-/
import Derived.Test.YtelndbjjkhlacaaRowOpen
namespace Go.Proofs.Ytelndbjjkhlacaa
open Go.ChangeShapes Go.WideShapes Go.ChangeAt Go.RowKit Go.Deep

section
variable {H : Type} {enc : TypeId × Value → H} {P : Program} {w : World} {base : Nat} {held : Bool}

theorem open_intRowC {t e : TypeId} {kd : IntKind} {r : Reach} {b0 : Nat} {v : Value} {d : DataW H} {p : List MemPlace} (ht : P.underlying t = some (.slice e)) (he : P.underlying e = some (.int kd)) (hc : P.cellsOf e = 1)
    (hv : Value.okWide P w r b0 t v) (h : DataW.Trod enc P w base (fun _ => true) held t v d p) :
    ∃ (a : Option Addr) (len cap : Nat) (f : Nat → Int), v = .slice a len cap ∧ len ≤ maxLen ∧ len ≤ cap ∧ Row w a len (fun k => .int kd (f k)) ∧ ∀ k, k < len → (Lit.int kd (f k)).wf = true := by
  obtain ⟨a0, len, cap, rfl⟩ := okWide_slice ht hv
  obtain ⟨fuel, hf⟩ := h
  rcases open_ints ht he hc hf with ⟨hcs, _⟩ | ⟨a, l, c, zs, hcs, _, hl, hm, hz, _, hcell, hwz⟩
  · simp [Value.cells] at hcs
    obtain ⟨rfl, rfl, rfl⟩ := hcs
    exact ⟨none, 0, 0, fun _ => 0, rfl, Nat.zero_le _, Nat.le_refl _, Row.nil _ _ _, fun k hk => by omega⟩
  · simp [Value.cells] at hcs
    obtain ⟨rfl, rfl, rfl⟩ := hcs
    have hz' : zs.length = cap := by simpa using hz
    refine ⟨some a, len, cap, fun k => zs.getD k 0, rfl, Nat.le_trans hl hm, hl, row_of_cells fun i hi => hcell i (by omega), fun k hk => hwz _ ?_⟩
    show zs.getD k 0 ∈ zs
    rw [List.getD_eq_getElem?_getD, List.getElem?_eq_getElem (by omega)]
    exact List.getElem_mem _
end
end Go.Proofs.Ytelndbjjkhlacaa
