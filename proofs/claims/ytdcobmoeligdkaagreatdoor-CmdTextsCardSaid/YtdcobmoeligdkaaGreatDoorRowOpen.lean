/-
  Arguments opened to rows: what a slice that came in holds, nil or not.
-/
import Derived.ProofKit
import Derived.OpenShut
import Derived.Deep.Grids
import Derived.Test.YtdcobmoeligdkaaGreatDoorCommon
namespace Go.Proofs.YtdcobmoeligdkaaGreatDoor
open Go.ChangeShapes Go.WideShapes Go.ChangeAt Go.RowKit Go.Deep

section
variable {H : Type} {enc : TypeId × Value → H} {P : Program} {w : World} {base : Nat} {held : Bool}

theorem row_of_cells {a : Addr} {len : Nat} {V : Nat → Value} (h : ∀ i, i < len → w.cell? (a.add i) = some (V i)) : Row w (some a) len V := by
  rcases Nat.eq_zero_or_pos len with e | e
  · subst e; exact Row.nil _ _ _
  · obtain ⟨b, off, spot⟩ := a
    have hc := h 0 e
    have hspot : spot = none := by simpa [Addr.add] using World.cell?_spot hc
    subst hspot
    exact ⟨.inr rfl, fun k hk => by have := h k hk; rw [Addr.add_lit] at this; exact this⟩

theorem open_boolRow {t e : TypeId} {r : Reach} {b0 : Nat} {v : Value} {d : DataW H} {p : List MemPlace} (ht : P.underlying t = some (.slice e)) (he : P.underlying e = some .bool) (hc : P.cellsOf e = 1)
    (hv : Value.okWide P w r b0 t v) (h : DataW.Trod enc P w base (fun _ => true) held t v d p) :
    ∃ (a : Option Addr) (len cap : Nat) (f : Nat → Bool), v = .slice a len cap ∧ len ≤ maxLen ∧ Row w a len (fun k => .bool (f k)) := by
  obtain ⟨a0, len, cap, rfl⟩ := okWide_slice ht hv
  obtain ⟨fuel, hf⟩ := h
  rcases open_bools ht he hc hf with ⟨hcs, _⟩ | ⟨a, l, c, B, hcs, _, hl, hm, _, hcell⟩
  · simp [Value.cells] at hcs
    obtain ⟨rfl, rfl, rfl⟩ := hcs
    exact ⟨none, 0, 0, fun _ => false, rfl, Nat.zero_le _, Row.nil _ _ _⟩
  · simp [Value.cells] at hcs
    obtain ⟨rfl, rfl, rfl⟩ := hcs
    exact ⟨some a, len, cap, B, rfl, Nat.le_trans hl hm, row_of_cells fun i hi => hcell i (by omega)⟩

theorem open_intRow {t e : TypeId} {kd : IntKind} {r : Reach} {b0 : Nat} {v : Value} {d : DataW H} {p : List MemPlace} (ht : P.underlying t = some (.slice e)) (he : P.underlying e = some (.int kd)) (hc : P.cellsOf e = 1)
    (hv : Value.okWide P w r b0 t v) (h : DataW.Trod enc P w base (fun _ => true) held t v d p) :
    ∃ (a : Option Addr) (len cap : Nat) (f : Nat → Int), v = .slice a len cap ∧ len ≤ maxLen ∧ Row w a len (fun k => .int kd (f k)) ∧ ∀ k, k < len → (Lit.int kd (f k)).wf = true := by
  obtain ⟨a0, len, cap, rfl⟩ := okWide_slice ht hv
  obtain ⟨fuel, hf⟩ := h
  rcases open_ints ht he hc hf with ⟨hcs, _⟩ | ⟨a, l, c, zs, hcs, _, hl, hm, hz, _, hcell, hwz⟩
  · simp [Value.cells] at hcs
    obtain ⟨rfl, rfl, rfl⟩ := hcs
    exact ⟨none, 0, 0, fun _ => 0, rfl, Nat.zero_le _, Row.nil _ _ _, fun k hk => by omega⟩
  · simp [Value.cells] at hcs
    obtain ⟨rfl, rfl, rfl⟩ := hcs
    have hz' : zs.length = cap := by simpa using hz
    refine ⟨some a, len, cap, fun k => zs.getD k 0, rfl, Nat.le_trans hl hm, row_of_cells fun i hi => hcell i (by omega), fun k hk => hwz _ ?_⟩
    show zs.getD k 0 ∈ zs
    rw [List.getD_eq_getElem?_getD, List.getElem?_eq_getElem (by omega)]
    exact List.getElem_mem _
end
end Go.Proofs.YtdcobmoeligdkaaGreatDoor
