/-
  The statement SuffixRuns: its walk.
-/
import Derived.Test.YtehgpggkicoddaaRefRows
import Derived.Test.YtehgpggkicoddaaSufOk
namespace Go.Proofs.Ytehgpggkicoddaa
open Go.RowKit

theorem make_u8 (N : Nat) (h : N ≤ 1000000) : ∀ W : World, (Instr.makeSlice 29 (.int .i64 (N : Int)) (.int .i64 (N : Int))).run Try.prog W = .ok (.slice (some ⟨W.heap.size, 0, none⟩) N N) (W.alloc (.cells (madeCells #[.int .u8 0] N) 5)) := by
  intro W
  obtain ⟨i0, hi, hz0, hz1, hz2⟩ := info_parts info_u8
  have := run_make (P := Try.prog) W 29 5 i0 _ Try.underlying29 hi hz0 .i64 .i64 N N (by omega) (by omega) (by rw [hz2]; omega) (by omega)
  rw [hz1] at this
  simpa [Value.cells] using this
def perD (per n : Nat) : List Nat := (List.range n).map fun i => 97 + i % per
theorem perD_len (per n : Nat) : (perD per n).length = n := by simp [perD]
theorem perD_at (per n j : Nat) (h : j < n) : (perD per n).getD j 0 = 97 + j % per := by simp [perD, List.getD_eq_getElem?_getD, h]
theorem perD_byte (per n : Nat) (h : 0 < per) (h5 : per ≤ 5) : ∀ c ∈ perD per n, c < 256 := by
  intro c hc
  obtain ⟨i, _, rfl⟩ := List.mem_map.1 hc
  have := Nat.mod_lt i h
  omega
attribute [irreducible] perD
theorem docs_three {w : World} {a b : Option Addr} {d e : List Nat} {ca cb : Nat} (h : Row w a d.length (byteV d)) (g : Row w b e.length (byteV e)) :
    DocsAt (w.alloc (.cells #[.slice a d.length ca, .slice b e.length cb, .slice a d.length ca] 29)) (some ⟨w.heap.size, 0, none⟩) (fun r => if r = 1 then b else a) (fun r => if r = 1 then cb else ca) [d, e, d] := by
  have r := row_marked w #[.slice a d.length ca, .slice b e.length cb, .slice a d.length ca] 29 (0, 0) (fun r => .slice (if r = 1 then b else a) (([d, e, d] : List (List Nat)).getD r []).length (if r = 1 then cb else ca)) (by
    intro i hi
    match i, hi with
    | 0, _ => rfl
    | 1, _ => rfl
    | 2, _ => rfl)
  refine ⟨r, fun r hr => ?_⟩
  match r, hr with
  | 0, _ => exact row_alloc h _
  | 1, _ => exact row_alloc g _
  | 2, _ => exact row_alloc h _
end Go.Proofs.Ytehgpggkicoddaa
