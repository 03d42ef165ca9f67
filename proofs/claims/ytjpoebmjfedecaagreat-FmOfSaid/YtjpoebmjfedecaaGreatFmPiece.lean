/-
  Piece: a piece of a document.
-/
import Derived.Test.YtjpoebmjfedecaaGreatFmGetPut
namespace Go.Proofs.YtjpoebmjfedecaaGreat
open Go.RowKit

/-- a cut within bytes -/
def cutB (a : Option Addr) (cap l : Nat) : Option Addr := if cap = l then a else a.map (·.add (l * 1))
theorem cut_lh8 (a : Option Addr) (n cap l h : Nat) (hl : l ≤ h) (hh : h ≤ n) (hc : n ≤ cap) : ∀ W : World, (Instr.slice 24 (.slice a n cap) (some (.int .i64 (l : Int))) (some (.int .i64 (h : Int))) none).run Tryz.prog W = .ok (.slice (cutB a cap l) (h - l) (cap - l)) W := by
  intro W
  rw [run_slice_lh (P := Tryz.prog) (w := W) 24 a n cap (by kernel_rfl) .i64 .i64 (l : Int) (h : Int) (by omega) (by omega) (by omega), size_u8 W]
  rfl
theorem cut_row {w : World} {a : Option Addr} {n : Nat} {f : Nat → Value} (hr : Row w a n f) (cap l h : Nat) (hl : l ≤ h) (hh : h ≤ n) (hc : n ≤ cap) : Row w (cutB a cap l) (h - l) (fun k => f (l + k)) := by
  rcases Nat.eq_zero_or_pos (h - l) with h0 | h0
  · rw [h0]; exact Row.nil _ _ _
  · have ha := hr.at_.resolve_left (by omega)
    have hcell := hr.cell
    unfold cutB
    have e1 : a.map (·.add (l * 1)) = some ⟨bOf a, oOf a + l * 1, none⟩ := by
      conv => lhs; rw [ha]
      simp [Addr.add]
    rw [if_neg (by omega), e1]
    refine ⟨.inr rfl, fun k hk => ?_⟩
    have := hcell (l + k) (by omega)
    show w.cell? ⟨bOf a, oOf a + l * 1 + k, none⟩ = _
    rw [show oOf a + l * 1 + k = oOf a + (l + k) by omega]
    exact this
attribute [irreducible] cutB
def PiecePost (w : World) (d : List Nat) (e : Ending) (w' : World) : Prop :=
  ∃ a, e = .returned (.tuple #[.slice a d.length d.length, .bool true]) ∧ Row w' a d.length (byteV d) ∧ Below w.heap.size w w'
def pieceL (d : List Nat) (k m : Nat) : List Nat := (d.drop k).take m
theorem pieceL_len (d : List Nat) (k m : Nat) : (pieceL d k m).length = min m (d.length - k) := by unfold pieceL; rw [List.length_take, List.length_drop]
end Go.Proofs.YtjpoebmjfedecaaGreat
