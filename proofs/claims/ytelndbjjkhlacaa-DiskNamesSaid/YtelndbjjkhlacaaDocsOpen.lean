/-
  Arguments opened: documents that came in.
-/
import Derived.ProofKit
import Derived.OpenShut
import Derived.Deep.Matrix
import Derived.Test.YtelndbjjkhlacaaTextWalk
import Derived.Test.YtelndbjjkhlacaaRowOpen
namespace Go.Proofs.Ytelndbjjkhlacaa
open Go.ChangeShapes Go.WideShapes Go.ChangeAt Go.RowKit Go.Deep

section
variable {H : Type} {enc : TypeId × Value → H} {P : Program} {w : World} {base : Nat} {held : Bool}

/-- what is told of documents that came in -/
structure DocsIn (w : World) (a : Option Addr) (A : Nat → Option Addr) (C : Nat → Nat) (ds : List (List Nat)) : Prop where
  docs : DocsAt w a A C ds
  many : ds.length ≤ maxLen
  long : ∀ r, r < ds.length → (ds.getD r []).length ≤ maxLen
  byte : ∀ d ∈ ds, ∀ c ∈ d, c < 256
  caps : ∀ r, r < ds.length → (ds.getD r []).length ≤ C r
theorem open_docs {t e q : TypeId} {r : Reach} {b0 : Nat} {v : Value} {d : DataW H} {p : List MemPlace} (ht : P.underlying t = some (.slice e)) (he : P.underlying e = some (.slice q)) (hq : P.underlying q = some (.int .u8)) (ce : P.cellsOf e = 1) (cq : P.cellsOf q = 1)
    (hv : Value.okWide P w r b0 t v) (h : DataW.Trod enc P w base (fun _ => true) held t v d p) :
    ∃ (a : Option Addr) (cap : Nat) (A : Nat → Option Addr) (C : Nat → Nat) (ds : List (List Nat)), v = .slice a ds.length cap ∧ DocsIn w a A C ds := by
  obtain ⟨a0, len, cap, rfl⟩ := okWide_slice ht hv
  obtain ⟨fuel, hf⟩ := h
  rcases open_int_rows ht he hq ce cq hf with ⟨hcs, _⟩ | ⟨a, l, c, A, L, C, Z, hcs, _, hl, hm, _, hrow⟩
  · simp [Value.cells] at hcs
    obtain ⟨rfl, rfl, rfl⟩ := hcs
    exact ⟨none, 0, fun _ => none, fun _ => 0, [], rfl, ⟨⟨Row.nil _ _ _, fun r hr => by simp at hr⟩, Nat.zero_le _, fun r hr => by simp at hr, fun d hd => (by cases hd), fun r hr => (by simp at hr)⟩⟩
  · simp [Value.cells] at hcs
    obtain ⟨rfl, rfl, rfl⟩ := hcs
    let ds : List (List Nat) := (List.range len).map fun r => ((Z r).take (L r)).map Int.toNat
    have hlen : ds.length = len := by simp [ds]
    have hget : ∀ r, r < len → ds.getD r [] = ((Z r).take (L r)).map Int.toNat := fun r hr => by simp [ds, List.getD_eq_getElem?_getD, hr]
    have hgl : ∀ r, r < len → (ds.getD r []).length = L r := fun r hr => by
      rw [hget r hr, List.length_map, List.length_take, (hrow r (by omega)).2.2.2.1]
      have := (hrow r (by omega)).2.1
      omega
    have hwf : ∀ r, r < len → ∀ n ∈ Z r, 0 ≤ n ∧ n ≤ 255 := fun r hr n hn => bounds_u8 ((hrow r (by omega)).2.2.2.2.1 n hn)
    refine ⟨some a, cap, A, C, ds, by rw [hlen], ⟨⟨?_, fun r hr => ?_⟩, by rw [hlen]; omega, fun r hr => ?_, ?_, fun r hr => ?_⟩⟩
    · rw [hlen]
      exact row_of_cells fun i hi => by rw [(hrow i (by omega)).1, hgl i hi]
    · rw [hlen] at hr
      rw [hgl r hr]
      obtain ⟨_, h1, h2, h3, _, h5, h6⟩ := hrow r (by omega)
      cases hA : A r with
      | none =>
        have := h5 hA
        obtain e : L r = 0 := by omega
        rw [e]; exact Row.nil _ _ _
      | some a' =>
        refine row_of_cells fun i hi => ?_
        rw [(h6 a' hA).2 i (by omega), hget r hr]
        have hz : (Z r).getD i 0 ∈ Z r := by rw [List.getD_eq_getElem?_getD, List.getElem?_eq_getElem (by omega)]; exact List.getElem_mem _
        have hn := hwf r hr _ hz
        have e : (((Z r).take (L r)).map Int.toNat).getD i 0 = ((Z r).getD i 0).toNat := by
          rw [List.getD_eq_getElem?_getD, List.getElem?_map, List.getElem?_take, if_pos hi, List.getD_eq_getElem?_getD, List.getElem?_eq_getElem (by omega)]; rfl
        show some (Value.int .u8 ((Z r).getD i 0)) = some (Value.int .u8 (((((Z r).take (L r)).map Int.toNat).getD i 0 : Nat) : Int))
        rw [e, Int.toNat_of_nonneg hn.1]
    · rw [hlen] at hr
      rw [hgl r hr]
      have := (hrow r (by omega)).2.1
      have := (hrow r (by omega)).2.2.1
      omega
    · intro d hd c hc
      obtain ⟨r, hr, rfl⟩ := List.mem_map.1 hd
      obtain ⟨n, hn, rfl⟩ := List.mem_map.1 hc
      have := hwf r (List.mem_range.1 hr) n (List.mem_of_mem_take hn)
      omega
    · rw [hlen] at hr
      rw [hgl r hr]
      exact (hrow r (by omega)).2.1
end
end Go.Proofs.Ytelndbjjkhlacaa
