/-
  Arguments opened to rows: a slice of texts that came in.
-/
import Derived.SliceStrings
import Derived.Test.YtoifmfdaghmleaaRowOpen
namespace Go.Proofs.Ytoifmfdaghmleaa
open Go.ChangeShapes Go.WideShapes Go.ChangeAt Go.RowKit Go.Deep

section
variable {H : Type} {enc : TypeId × Value → H} {P : Program} {w : World} {base : Nat} {held : Bool}
theorem open_strRow {t e : TypeId} {r : Reach} {b0 : Nat} {v : Value} {d : DataW H} {p : List MemPlace} (ht : P.underlying t = some (.slice e)) (he : P.underlying e = some .string) (hc : P.cellsOf e = 1)
    (hv : Value.okWide P w r b0 t v) (h : DataW.Trod enc P w base (fun _ => true) held t v d p) :
    ∃ (a : Option Addr) (len cap : Nat) (f : Nat → ByteArray), v = .slice a len cap ∧ len ≤ maxLen ∧ Row w a len (fun k => .string (f k)) ∧ ∀ k, k < len → (f k).size ≤ maxLen := by
  obtain ⟨a0, len, cap, rfl⟩ := okWide_slice ht hv
  obtain ⟨fuel, hf⟩ := h
  rcases open_strings ht he hc hf with ⟨hcs, _⟩ | ⟨a, l, c, ss, hcs, _, hl, hm, hz, _, hcell, hwz⟩
  · simp [Value.cells] at hcs
    obtain ⟨rfl, rfl, rfl⟩ := hcs
    exact ⟨none, 0, 0, fun _ => ByteArray.empty, rfl, Nat.zero_le _, Row.nil _ _ _, fun k hk => by omega⟩
  · simp [Value.cells] at hcs
    obtain ⟨rfl, rfl, rfl⟩ := hcs
    have hz' : ss.length = cap := by simpa using hz
    refine ⟨some a, len, cap, fun k => ss.getD k ByteArray.empty, rfl, Nat.le_trans hl hm, row_of_cells fun i hi => hcell i (by omega), fun k hk => hwz _ ?_⟩
    show ss.getD k ByteArray.empty ∈ ss
    rw [List.getD_eq_getElem?_getD, List.getElem?_eq_getElem (by omega)]
    exact List.getElem_mem _
end
end Go.Proofs.Ytoifmfdaghmleaa
