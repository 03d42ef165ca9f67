/-
  The document's own order: sorted, Rows, Array.
-/
import Derived.Test.YtehgpggkicoddaaRefWalk
import Derived.Test.YtehgpggkicoddaaHitRow
import Derived.Deep.AppendLies
namespace Go.Proofs.Ytehgpggkicoddaa
open Go.RowKit

theorem size_hit (w : World) : (sizeOf (Try.prog.elem 32)).run Try.prog w = .ok 2 w := by kernel_rfl
theorem info_hit : (Try.prog.info? 46).map (fun i => (i.zero, i.size, i.bytes)) = some (some (.agg #[.int .i64 0, .int .i64 0]), 2, 16) := by kernel_rfl
/-- a row cut -/
theorem cut_from (a : Option Addr) (n cap k : Nat) (h : k ≤ n) : ∀ W : World, (Instr.slice 32 (.slice a n cap) (some (.int .i64 (k : Int))) none none).run Try.prog W = .ok (.slice (cutA a cap k) (n - k) (cap - k)) W := by
  intro W
  have hs := size_hit W
  unfold cutA
  simp [Instr.slice, run_underlying Try.underlying32, Instr.sliceBounds, run_sliceBound, show (0 : Int) ≤ k by omega, show (k : Int) ≤ n by omega]
theorem cut_to (a : Option Addr) (n cap k : Nat) (h : k ≤ n) (hc : n ≤ cap) (h1 : a = some ⟨bOf a, oOf a, none⟩) : ∀ W : World, (Instr.slice 32 (.slice a n cap) none (some (.int .i64 (k : Int))) none).run Try.prog W = .ok (.slice a k cap) W := by
  intro W
  have hs := size_hit W
  have e : (if cap = 0 then a else a.map (·.add 0)) = a := by
    split
    · rfl
    · conv => lhs; rw [h1]
      conv => rhs; rw [h1]
      simp [Addr.add]
  simp [Instr.slice, run_underlying Try.underlying32, Instr.sliceBounds, run_sliceBound, show (0 : Int) ≤ k by omega, show (k : Int) ≤ cap by omega]
  intro hne
  rw [if_neg hne] at e
  exact e
def lenOf : Value → Nat
  | .slice _ n _ => n
  | _ => 0
theorem lenOf_slice (a : Option Addr) (n c : Nat) : lenOf (.slice a n c) = n := rfl
attribute [irreducible] lenOf
def SortPostH (w : World) (r : List (Nat × Nat)) (e : Ending) (w' : World) : Prop :=
  ∃ a cap, e = .returned (.slice a r.length cap) ∧ r.length ≤ cap ∧ HRow w' a r ∧ Below w.heap.size w w'
end Go.Proofs.Ytehgpggkicoddaa
