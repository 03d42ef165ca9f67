/-
  No cell of these rows narrows 'for every input' (looked for: loops, veiled, ifaces, maps, wideKeys, modest, calm, conditions, laid).
  DERIVED. THE GIVEN ROWS OF THIS SEAT. 9 by the template 'for every input the law returns true; each argument reads behind the call as it read before'; 0 by the template 'total and deterministic' (their statements: YtelndbjjkhlacaaTotals.lean).
  GIVEN WITH THE SEED: the statements are not yours to turn. If you find one false, say at which input.
  Laid BY PROGRAM, IN A SANDBOX (cutbox-rows.mjs): the forced cells as the released guide's own fill.sh prints them over the translation 30157bfb7fdec07c… (all of the seat's roots in one cut). By AI agents, Wed Nov 11 2026. No macro, syntax, notation, axiom, sorry.
-/
import Derived.Test.YtelndbjjkhlacaaChecked
import GoSem.Claim
import GoSem.ClaimJoined
import GoSem.ClaimMapViews
import Derived.JoinedTies
import Derived.KernelRfl
namespace Go.Proofs.Ytelndbjjkhlacaa
/- THE CELL 'sum', in the pinned program and in every row, IS THE sha256 OF THE DUMP (.gsa) THAT YtelndbjjkhlacaaProg.lean LOADS. Nothing in Lean hashes anything: it is a label: what it is worth is what the hold of that sum in a sandbox is worth. -/
noncomputable def Try.pinned : Pinned := { name := "ytelndbjjkhlacaa", sum := "30157bfb7fdec07cca5e64c6687c011215c0ded98bf927ab83fbcbab5e86fd15", checked := Try.checked }
namespace Rows
def none {H : Type} : Left H := { results := [], args := [] }

/-- 'concordancelaw4.DiskReads': WHATEVER THE INPUT: true; the input reads as it did. -/
def diskReadsSpec : ChangeSpec := { name := "diskReads", fn := fun _ => fun
  | [d1, d2, d3] => { results := [.lit (.bool true)], args := [d1, d2, d3] }
  | _ => none }
def diskReadsRow : OpenClaim := { program := "ytelndbjjkhlacaa", sum := "30157bfb7fdec07cca5e64c6687c011215c0ded98bf927ab83fbcbab5e86fd15", func := "concordance/concordancelaw4.DiskReads", spec := "diskReads", inPlace := ["maps.clone"], unfollowed := true, recurses := true, apart := false }
def DiskReadsSaid : Prop := diskReadsRow.holds Try.pinned (OpenSpec.ofChange diskReadsSpec)

/-- ITS FALSE NEIGHBOUR: 'it returns false'. Refute it at one input. -/
def diskReadsWrong : ChangeSpec := { name := "diskReads", fn := fun _ => fun
  | [d1, d2, d3] => { results := [.lit (.bool false)], args := [d1, d2, d3] }
  | _ => none }
def DiskReadsWrongFalsely : Prop := diskReadsRow.holds Try.pinned (OpenSpec.ofChange diskReadsWrong)

/-- 'concordancelaw4.DiskStops': WHATEVER THE INPUT: true; the input reads as it did. -/
def diskStopsSpec : ChangeSpec := { name := "diskStops", fn := fun _ => fun
  | [d1, d2] => { results := [.lit (.bool true)], args := [d1, d2] }
  | _ => none }
def diskStopsRow : OpenClaim := { program := "ytelndbjjkhlacaa", sum := "30157bfb7fdec07cca5e64c6687c011215c0ded98bf927ab83fbcbab5e86fd15", func := "concordance/concordancelaw4.DiskStops", spec := "diskStops", inPlace := ["maps.clone"], unfollowed := true, recurses := true, apart := false }
def DiskStopsSaid : Prop := diskStopsRow.holds Try.pinned (OpenSpec.ofChange diskStopsSpec)

/-- ITS FALSE NEIGHBOUR: 'it returns false'. Refute it at one input. -/
def diskStopsWrong : ChangeSpec := { name := "diskStops", fn := fun _ => fun
  | [d1, d2] => { results := [.lit (.bool false)], args := [d1, d2] }
  | _ => none }
def DiskStopsWrongFalsely : Prop := diskStopsRow.holds Try.pinned (OpenSpec.ofChange diskStopsWrong)

/-- 'concordancelaw4.DiskLasts': WHATEVER THE INPUT: true; the input reads as it did. -/
def diskLastsSpec : ChangeSpec := { name := "diskLasts", fn := fun _ => fun
  | [d1, d2, d3, d4] => { results := [.lit (.bool true)], args := [d1, d2, d3, d4] }
  | _ => none }
def diskLastsRow : OpenClaim := { program := "ytelndbjjkhlacaa", sum := "30157bfb7fdec07cca5e64c6687c011215c0ded98bf927ab83fbcbab5e86fd15", func := "concordance/concordancelaw4.DiskLasts", spec := "diskLasts", inPlace := ["maps.clone"], unfollowed := true, recurses := true, apart := false }
def DiskLastsSaid : Prop := diskLastsRow.holds Try.pinned (OpenSpec.ofChange diskLastsSpec)

/-- ITS FALSE NEIGHBOUR: 'it returns false'. Refute it at one input. -/
def diskLastsWrong : ChangeSpec := { name := "diskLasts", fn := fun _ => fun
  | [d1, d2, d3, d4] => { results := [.lit (.bool false)], args := [d1, d2, d3, d4] }
  | _ => none }
def DiskLastsWrongFalsely : Prop := diskLastsRow.holds Try.pinned (OpenSpec.ofChange diskLastsWrong)

/-- 'concordancelaw4.DiskFails': WHATEVER THE INPUT: true; the input reads as it did. -/
def diskFailsSpec : ChangeSpec := { name := "diskFails", fn := fun _ => fun
  | [d1, d2, d3] => { results := [.lit (.bool true)], args := [d1, d2, d3] }
  | _ => none }
def diskFailsRow : OpenClaim := { program := "ytelndbjjkhlacaa", sum := "30157bfb7fdec07cca5e64c6687c011215c0ded98bf927ab83fbcbab5e86fd15", func := "concordance/concordancelaw4.DiskFails", spec := "diskFails", inPlace := ["maps.clone"], unfollowed := true, recurses := true, apart := false }
def DiskFailsSaid : Prop := diskFailsRow.holds Try.pinned (OpenSpec.ofChange diskFailsSpec)

/-- ITS FALSE NEIGHBOUR: 'it returns false'. Refute it at one input. -/
def diskFailsWrong : ChangeSpec := { name := "diskFails", fn := fun _ => fun
  | [d1, d2, d3] => { results := [.lit (.bool false)], args := [d1, d2, d3] }
  | _ => none }
def DiskFailsWrongFalsely : Prop := diskFailsRow.holds Try.pinned (OpenSpec.ofChange diskFailsWrong)

/-- 'concordancelaw4.DiskQuota': WHATEVER THE INPUT: true; the input reads as it did. -/
def diskQuotaSpec : ChangeSpec := { name := "diskQuota", fn := fun _ => fun
  | [d1, d2] => { results := [.lit (.bool true)], args := [d1, d2] }
  | _ => none }
def diskQuotaRow : OpenClaim := { program := "ytelndbjjkhlacaa", sum := "30157bfb7fdec07cca5e64c6687c011215c0ded98bf927ab83fbcbab5e86fd15", func := "concordance/concordancelaw4.DiskQuota", spec := "diskQuota", inPlace := ["maps.clone"], unfollowed := true, recurses := true, apart := false }
def DiskQuotaSaid : Prop := diskQuotaRow.holds Try.pinned (OpenSpec.ofChange diskQuotaSpec)

/-- ITS FALSE NEIGHBOUR: 'it returns false'. Refute it at one input. -/
def diskQuotaWrong : ChangeSpec := { name := "diskQuota", fn := fun _ => fun
  | [d1, d2] => { results := [.lit (.bool false)], args := [d1, d2] }
  | _ => none }
def DiskQuotaWrongFalsely : Prop := diskQuotaRow.holds Try.pinned (OpenSpec.ofChange diskQuotaWrong)

/-- 'concordancelaw4.DiskMoves': WHATEVER THE INPUT: true; the input reads as it did. -/
def diskMovesSpec : ChangeSpec := { name := "diskMoves", fn := fun _ => fun
  | [d1, d2, d3] => { results := [.lit (.bool true)], args := [d1, d2, d3] }
  | _ => none }
def diskMovesRow : OpenClaim := { program := "ytelndbjjkhlacaa", sum := "30157bfb7fdec07cca5e64c6687c011215c0ded98bf927ab83fbcbab5e86fd15", func := "concordance/concordancelaw4.DiskMoves", spec := "diskMoves", inPlace := ["maps.clone"], unfollowed := true, recurses := true, apart := false }
def DiskMovesSaid : Prop := diskMovesRow.holds Try.pinned (OpenSpec.ofChange diskMovesSpec)

/-- ITS FALSE NEIGHBOUR: 'it returns false'. Refute it at one input. -/
def diskMovesWrong : ChangeSpec := { name := "diskMoves", fn := fun _ => fun
  | [d1, d2, d3] => { results := [.lit (.bool false)], args := [d1, d2, d3] }
  | _ => none }
def DiskMovesWrongFalsely : Prop := diskMovesRow.holds Try.pinned (OpenSpec.ofChange diskMovesWrong)

/-- 'concordancelaw4.DiskSwaps': WHATEVER THE INPUT: true; the input reads as it did. -/
def diskSwapsSpec : ChangeSpec := { name := "diskSwaps", fn := fun _ => fun
  | [d1, d2, d3, d4, d5] => { results := [.lit (.bool true)], args := [d1, d2, d3, d4, d5] }
  | _ => none }
def diskSwapsRow : OpenClaim := { program := "ytelndbjjkhlacaa", sum := "30157bfb7fdec07cca5e64c6687c011215c0ded98bf927ab83fbcbab5e86fd15", func := "concordance/concordancelaw4.DiskSwaps", spec := "diskSwaps", inPlace := ["maps.clone"], unfollowed := true, recurses := true, apart := false }
def DiskSwapsSaid : Prop := diskSwapsRow.holds Try.pinned (OpenSpec.ofChange diskSwapsSpec)

/-- ITS FALSE NEIGHBOUR: 'it returns false'. Refute it at one input. -/
def diskSwapsWrong : ChangeSpec := { name := "diskSwaps", fn := fun _ => fun
  | [d1, d2, d3, d4, d5] => { results := [.lit (.bool false)], args := [d1, d2, d3, d4, d5] }
  | _ => none }
def DiskSwapsWrongFalsely : Prop := diskSwapsRow.holds Try.pinned (OpenSpec.ofChange diskSwapsWrong)

/-- 'concordancelaw4.DiskNames': WHATEVER THE INPUT: true; the input reads as it did. -/
def diskNamesSpec : ChangeSpec := { name := "diskNames", fn := fun _ => fun
  | [d1, d2, d3] => { results := [.lit (.bool true)], args := [d1, d2, d3] }
  | _ => none }
def diskNamesRow : OpenClaim := { program := "ytelndbjjkhlacaa", sum := "30157bfb7fdec07cca5e64c6687c011215c0ded98bf927ab83fbcbab5e86fd15", func := "concordance/concordancelaw4.DiskNames", spec := "diskNames", inPlace := ["maps.clone"], unfollowed := true, recurses := true, apart := false }
def DiskNamesSaid : Prop := diskNamesRow.holds Try.pinned (OpenSpec.ofChange diskNamesSpec)

/-- ITS FALSE NEIGHBOUR: 'it returns false'. Refute it at one input. -/
def diskNamesWrong : ChangeSpec := { name := "diskNames", fn := fun _ => fun
  | [d1, d2, d3] => { results := [.lit (.bool false)], args := [d1, d2, d3] }
  | _ => none }
def DiskNamesWrongFalsely : Prop := diskNamesRow.holds Try.pinned (OpenSpec.ofChange diskNamesWrong)

/-- 'concordancelaw4.DiskFiles': WHATEVER THE INPUT: true; the input reads as it did. -/
def diskFilesSpec : ChangeSpec := { name := "diskFiles", fn := fun _ => fun
  | [d1, d2] => { results := [.lit (.bool true)], args := [d1, d2] }
  | _ => none }
def diskFilesRow : OpenClaim := { program := "ytelndbjjkhlacaa", sum := "30157bfb7fdec07cca5e64c6687c011215c0ded98bf927ab83fbcbab5e86fd15", func := "concordance/concordancelaw4.DiskFiles", spec := "diskFiles", inPlace := ["maps.clone"], unfollowed := true, recurses := true, apart := false }
def DiskFilesSaid : Prop := diskFilesRow.holds Try.pinned (OpenSpec.ofChange diskFilesSpec)

/-- ITS FALSE NEIGHBOUR: 'it returns false'. Refute it at one input. -/
def diskFilesWrong : ChangeSpec := { name := "diskFiles", fn := fun _ => fun
  | [d1, d2] => { results := [.lit (.bool false)], args := [d1, d2] }
  | _ => none }
def DiskFilesWrongFalsely : Prop := diskFilesRow.holds Try.pinned (OpenSpec.ofChange diskFilesWrong)

/- THE SECOND FORM. 'bulk': how many values and letters a reading holds, each counted each time it is reached (what is shared counts as often as it is met; a slice's spare places count too). A statement '..UptoSaid' is the law's where the arguments, and the package variables that the reading takes, are together of bulk at most 1048576: NARROWER than '..Said'. Prove '..Said' where nothing that the law and all that it calls make is longer than what came in: it says more and counts as full. Else prove '..UptoSaid'. A law counts once. -/
mutual
def uptoBulk {H : Type} : DataW H → Nat
  | .lit (.string bytes) => bytes.length + 1
  | .lit _ => 1
  | .nil => 1
  | .ptr d => uptoBulk d + 1
  | .slice elems spare => uptoBulkAll elems + uptoBulkAll spare + 1
  | .agg parts => uptoBulkAll parts + 1
  | .iface _ d => uptoBulk d + 1
  | .map entries => uptoBulkEntries entries + 1
  | .held _ => 1
def uptoBulkAll {H : Type} : List (DataW H) → Nat
  | [] => 0
  | d :: r => uptoBulk d + uptoBulkAll r
def uptoBulkEntries {H : Type} : List (Lit × DataW H) → Nat
  | [] => 0
  | x :: r => uptoBulkEntry x + uptoBulkEntries r
def uptoBulkEntry {H : Type} : Lit × DataW H → Nat
  | (.string bytes, d) => bytes.length + uptoBulk d + 1
  | (_, d) => uptoBulk d + 1
 end
def uptoSmall : (H : Type) → List (DataW H) → Bool := fun _ ds => decide (uptoBulkAll ds ≤ 1048576)
def OpenSpec.upto (s : _root_.Go.ChangeSpec) : _root_.Go.OpenSpec := { _root_.Go.OpenSpec.ofChange s with cond := some uptoSmall }

/-- 'concordancelaw4.DiskReads', WHERE WHAT IT READS IS OF BULK AT MOST 1048576: true; the input reads as it did. -/
def diskReadsUptoRow : OpenClaim := { program := "ytelndbjjkhlacaa", sum := "30157bfb7fdec07cca5e64c6687c011215c0ded98bf927ab83fbcbab5e86fd15", func := "concordance/concordancelaw4.DiskReads", spec := "diskReads", inPlace := ["maps.clone"], unfollowed := true, recurses := true, apart := false, narrowed := true }
def DiskReadsUptoSaid : Prop := diskReadsUptoRow.holds Try.pinned (OpenSpec.upto diskReadsSpec)

/-- 'concordancelaw4.DiskStops', WHERE WHAT IT READS IS OF BULK AT MOST 1048576: true; the input reads as it did. -/
def diskStopsUptoRow : OpenClaim := { program := "ytelndbjjkhlacaa", sum := "30157bfb7fdec07cca5e64c6687c011215c0ded98bf927ab83fbcbab5e86fd15", func := "concordance/concordancelaw4.DiskStops", spec := "diskStops", inPlace := ["maps.clone"], unfollowed := true, recurses := true, apart := false, narrowed := true }
def DiskStopsUptoSaid : Prop := diskStopsUptoRow.holds Try.pinned (OpenSpec.upto diskStopsSpec)

/-- 'concordancelaw4.DiskLasts', WHERE WHAT IT READS IS OF BULK AT MOST 1048576: true; the input reads as it did. -/
def diskLastsUptoRow : OpenClaim := { program := "ytelndbjjkhlacaa", sum := "30157bfb7fdec07cca5e64c6687c011215c0ded98bf927ab83fbcbab5e86fd15", func := "concordance/concordancelaw4.DiskLasts", spec := "diskLasts", inPlace := ["maps.clone"], unfollowed := true, recurses := true, apart := false, narrowed := true }
def DiskLastsUptoSaid : Prop := diskLastsUptoRow.holds Try.pinned (OpenSpec.upto diskLastsSpec)

/-- 'concordancelaw4.DiskFails', WHERE WHAT IT READS IS OF BULK AT MOST 1048576: true; the input reads as it did. -/
def diskFailsUptoRow : OpenClaim := { program := "ytelndbjjkhlacaa", sum := "30157bfb7fdec07cca5e64c6687c011215c0ded98bf927ab83fbcbab5e86fd15", func := "concordance/concordancelaw4.DiskFails", spec := "diskFails", inPlace := ["maps.clone"], unfollowed := true, recurses := true, apart := false, narrowed := true }
def DiskFailsUptoSaid : Prop := diskFailsUptoRow.holds Try.pinned (OpenSpec.upto diskFailsSpec)

/-- 'concordancelaw4.DiskQuota', WHERE WHAT IT READS IS OF BULK AT MOST 1048576: true; the input reads as it did. -/
def diskQuotaUptoRow : OpenClaim := { program := "ytelndbjjkhlacaa", sum := "30157bfb7fdec07cca5e64c6687c011215c0ded98bf927ab83fbcbab5e86fd15", func := "concordance/concordancelaw4.DiskQuota", spec := "diskQuota", inPlace := ["maps.clone"], unfollowed := true, recurses := true, apart := false, narrowed := true }
def DiskQuotaUptoSaid : Prop := diskQuotaUptoRow.holds Try.pinned (OpenSpec.upto diskQuotaSpec)

/-- 'concordancelaw4.DiskMoves', WHERE WHAT IT READS IS OF BULK AT MOST 1048576: true; the input reads as it did. -/
def diskMovesUptoRow : OpenClaim := { program := "ytelndbjjkhlacaa", sum := "30157bfb7fdec07cca5e64c6687c011215c0ded98bf927ab83fbcbab5e86fd15", func := "concordance/concordancelaw4.DiskMoves", spec := "diskMoves", inPlace := ["maps.clone"], unfollowed := true, recurses := true, apart := false, narrowed := true }
def DiskMovesUptoSaid : Prop := diskMovesUptoRow.holds Try.pinned (OpenSpec.upto diskMovesSpec)

/-- 'concordancelaw4.DiskSwaps', WHERE WHAT IT READS IS OF BULK AT MOST 1048576: true; the input reads as it did. -/
def diskSwapsUptoRow : OpenClaim := { program := "ytelndbjjkhlacaa", sum := "30157bfb7fdec07cca5e64c6687c011215c0ded98bf927ab83fbcbab5e86fd15", func := "concordance/concordancelaw4.DiskSwaps", spec := "diskSwaps", inPlace := ["maps.clone"], unfollowed := true, recurses := true, apart := false, narrowed := true }
def DiskSwapsUptoSaid : Prop := diskSwapsUptoRow.holds Try.pinned (OpenSpec.upto diskSwapsSpec)

/-- 'concordancelaw4.DiskNames', WHERE WHAT IT READS IS OF BULK AT MOST 1048576: true; the input reads as it did. -/
def diskNamesUptoRow : OpenClaim := { program := "ytelndbjjkhlacaa", sum := "30157bfb7fdec07cca5e64c6687c011215c0ded98bf927ab83fbcbab5e86fd15", func := "concordance/concordancelaw4.DiskNames", spec := "diskNames", inPlace := ["maps.clone"], unfollowed := true, recurses := true, apart := false, narrowed := true }
def DiskNamesUptoSaid : Prop := diskNamesUptoRow.holds Try.pinned (OpenSpec.upto diskNamesSpec)

/-- 'concordancelaw4.DiskFiles', WHERE WHAT IT READS IS OF BULK AT MOST 1048576: true; the input reads as it did. -/
def diskFilesUptoRow : OpenClaim := { program := "ytelndbjjkhlacaa", sum := "30157bfb7fdec07cca5e64c6687c011215c0ded98bf927ab83fbcbab5e86fd15", func := "concordance/concordancelaw4.DiskFiles", spec := "diskFiles", inPlace := ["maps.clone"], unfollowed := true, recurses := true, apart := false, narrowed := true }
def DiskFilesUptoSaid : Prop := diskFilesUptoRow.holds Try.pinned (OpenSpec.upto diskFilesSpec)

end Rows
end Go.Proofs.Ytelndbjjkhlacaa
