/-
  No cell of these rows narrows 'for every input' (looked for: loops, veiled, ifaces, maps, wideKeys, modest, calm, conditions, laid).
  DERIVED. THE GIVEN ROWS OF THIS SEAT. 5 by the template 'for every input the law returns true; each argument reads behind the call as it read before'; 0 by the template 'total and deterministic' (their statements: YtckmabdphdcpmaaTotals.lean).
  GIVEN WITH THE SEED: the statements are not yours to turn. If you find one false, say at which input.
  Laid BY PROGRAM, IN A SANDBOX (cutbox-rows.mjs): the forced cells as the released guide's own fill.sh prints them over the translation f7e6881665968ad7… (all of the seat's roots in one cut). By AI agents, Wed Nov 11 2026. No macro, syntax, notation, axiom, sorry.
-/
import Derived.Test.YtckmabdphdcpmaaChecked
import GoSem.Claim
import GoSem.ClaimJoined
import GoSem.ClaimMapViews
import Derived.JoinedTies
import Derived.KernelRfl
namespace Go.Proofs.Ytckmabdphdcpmaa
/- THE CELL 'sum', in the pinned program and in every row, IS THE sha256 OF THE DUMP (.gsa) THAT YtckmabdphdcpmaaProg.lean LOADS. Nothing in Lean hashes anything: it is a label: what it is worth is what the hold of that sum in a sandbox is worth. -/
noncomputable def Try.pinned : Pinned := { name := "ytckmabdphdcpmaa", sum := "f7e6881665968ad7daa205fb6f3bc7214ef90880d6be5b719a785b0141162bc9", checked := Try.checked }
namespace Rows
def none {H : Type} : Left H := { results := [], args := [] }

/-- 'concordancelaw12.BackNests': WHATEVER THE INPUT: true; the input reads as it did. -/
def backNestsSpec : ChangeSpec := { name := "backNests", fn := fun _ => fun
  | [d1, d2] => { results := [.lit (.bool true)], args := [d1, d2] }
  | _ => none }
def backNestsRow : OpenClaim := { program := "ytckmabdphdcpmaa", sum := "f7e6881665968ad7daa205fb6f3bc7214ef90880d6be5b719a785b0141162bc9", func := "concordance/concordancelaw12.BackNests", spec := "backNests", unfollowed := true, recurses := true, apart := false }
def BackNestsSaid : Prop := backNestsRow.holds Try.pinned (OpenSpec.ofChange backNestsSpec)

/-- ITS FALSE NEIGHBOUR: 'it returns false'. Refute it at one input. -/
def backNestsWrong : ChangeSpec := { name := "backNests", fn := fun _ => fun
  | [d1, d2] => { results := [.lit (.bool false)], args := [d1, d2] }
  | _ => none }
def BackNestsWrongFalsely : Prop := backNestsRow.holds Try.pinned (OpenSpec.ofChange backNestsWrong)

/-- 'concordancelaw12.BackSame': WHATEVER THE INPUT: true; the input reads as it did. -/
def backSameSpec : ChangeSpec := { name := "backSame", fn := fun _ => fun
  | [d1, d2] => { results := [.lit (.bool true)], args := [d1, d2] }
  | _ => none }
def backSameRow : OpenClaim := { program := "ytckmabdphdcpmaa", sum := "f7e6881665968ad7daa205fb6f3bc7214ef90880d6be5b719a785b0141162bc9", func := "concordance/concordancelaw12.BackSame", spec := "backSame", unfollowed := true, recurses := true, apart := false }
def BackSameSaid : Prop := backSameRow.holds Try.pinned (OpenSpec.ofChange backSameSpec)

/-- ITS FALSE NEIGHBOUR: 'it returns false'. Refute it at one input. -/
def backSameWrong : ChangeSpec := { name := "backSame", fn := fun _ => fun
  | [d1, d2] => { results := [.lit (.bool false)], args := [d1, d2] }
  | _ => none }
def BackSameWrongFalsely : Prop := backSameRow.holds Try.pinned (OpenSpec.ofChange backSameWrong)

/-- 'concordancelaw12.BackRanges': WHATEVER THE INPUT: true; the input reads as it did. -/
def backRangesSpec : ChangeSpec := { name := "backRanges", fn := fun _ => fun
  | [d1, d2] => { results := [.lit (.bool true)], args := [d1, d2] }
  | _ => none }
def backRangesRow : OpenClaim := { program := "ytckmabdphdcpmaa", sum := "f7e6881665968ad7daa205fb6f3bc7214ef90880d6be5b719a785b0141162bc9", func := "concordance/concordancelaw12.BackRanges", spec := "backRanges", unfollowed := true, recurses := true, apart := false }
def BackRangesSaid : Prop := backRangesRow.holds Try.pinned (OpenSpec.ofChange backRangesSpec)

/-- ITS FALSE NEIGHBOUR: 'it returns false'. Refute it at one input. -/
def backRangesWrong : ChangeSpec := { name := "backRanges", fn := fun _ => fun
  | [d1, d2] => { results := [.lit (.bool false)], args := [d1, d2] }
  | _ => none }
def BackRangesWrongFalsely : Prop := backRangesRow.holds Try.pinned (OpenSpec.ofChange backRangesWrong)

/-- 'concordancelaw12.BackSteps': WHATEVER THE INPUT: true; the input reads as it did. -/
def backStepsSpec : ChangeSpec := { name := "backSteps", fn := fun _ => fun
  | [d] => { results := [.lit (.bool true)], args := [d] }
  | _ => none }
def backStepsRow : OpenClaim := { program := "ytckmabdphdcpmaa", sum := "f7e6881665968ad7daa205fb6f3bc7214ef90880d6be5b719a785b0141162bc9", func := "concordance/concordancelaw12.BackSteps", spec := "backSteps", unfollowed := true, recurses := true, apart := false }
def BackStepsSaid : Prop := backStepsRow.holds Try.pinned (OpenSpec.ofChange backStepsSpec)

/-- ITS FALSE NEIGHBOUR: 'it returns false'. Refute it at one input. -/
def backStepsWrong : ChangeSpec := { name := "backSteps", fn := fun _ => fun
  | [d] => { results := [.lit (.bool false)], args := [d] }
  | _ => none }
def BackStepsWrongFalsely : Prop := backStepsRow.holds Try.pinned (OpenSpec.ofChange backStepsWrong)

/-- 'concordancelaw12.BackWalks': WHATEVER THE INPUT: true; the input reads as it did. -/
def backWalksSpec : ChangeSpec := { name := "backWalks", fn := fun _ => fun
  | [d1, d2, d3] => { results := [.lit (.bool true)], args := [d1, d2, d3] }
  | _ => none }
def backWalksRow : OpenClaim := { program := "ytckmabdphdcpmaa", sum := "f7e6881665968ad7daa205fb6f3bc7214ef90880d6be5b719a785b0141162bc9", func := "concordance/concordancelaw12.BackWalks", spec := "backWalks", unfollowed := true, recurses := true, apart := false }
def BackWalksSaid : Prop := backWalksRow.holds Try.pinned (OpenSpec.ofChange backWalksSpec)

/-- ITS FALSE NEIGHBOUR: 'it returns false'. Refute it at one input. -/
def backWalksWrong : ChangeSpec := { name := "backWalks", fn := fun _ => fun
  | [d1, d2, d3] => { results := [.lit (.bool false)], args := [d1, d2, d3] }
  | _ => none }
def BackWalksWrongFalsely : Prop := backWalksRow.holds Try.pinned (OpenSpec.ofChange backWalksWrong)

/- THE SECOND FORM. 'bulk': how many values and letters a reading holds, each counted each time it is reached (what is shared counts as often as it is met; a slice's spare places count too). A statement '..UptoSaid' is the law's where the arguments, and the package variables that the reading takes, are together of bulk at most 1048576: NARROWER than '..Said'. Prove '..Said' where nothing that the law and all that it calls make is longer than what came in: it says more and counts as full. Else prove '..UptoSaid'. A law counts once. -/
mutual
def uptoBulk {H : Type} : DataW H → Nat
  | .lit (.string bytes) => bytes.length + 1
  | .lit _ => 1
  | .nil => 1
  | .ptr d => uptoBulk d + 1
  | .slice elems spare => uptoBulkAll elems + uptoBulkAll spare + 1
  | .agg parts => uptoBulkAll parts + 1
  | .iface _ d => uptoBulk d + 1
  | .map entries => uptoBulkEntries entries + 1
  | .held _ => 1
def uptoBulkAll {H : Type} : List (DataW H) → Nat
  | [] => 0
  | d :: r => uptoBulk d + uptoBulkAll r
def uptoBulkEntries {H : Type} : List (Lit × DataW H) → Nat
  | [] => 0
  | x :: r => uptoBulkEntry x + uptoBulkEntries r
def uptoBulkEntry {H : Type} : Lit × DataW H → Nat
  | (.string bytes, d) => bytes.length + uptoBulk d + 1
  | (_, d) => uptoBulk d + 1
 end
def uptoSmall : (H : Type) → List (DataW H) → Bool := fun _ ds => decide (uptoBulkAll ds ≤ 1048576)
def OpenSpec.upto (s : _root_.Go.ChangeSpec) : _root_.Go.OpenSpec := { _root_.Go.OpenSpec.ofChange s with cond := some uptoSmall }

/-- 'concordancelaw12.BackNests', WHERE WHAT IT READS IS OF BULK AT MOST 1048576: true; the input reads as it did. -/
def backNestsUptoRow : OpenClaim := { program := "ytckmabdphdcpmaa", sum := "f7e6881665968ad7daa205fb6f3bc7214ef90880d6be5b719a785b0141162bc9", func := "concordance/concordancelaw12.BackNests", spec := "backNests", unfollowed := true, recurses := true, apart := false, narrowed := true }
def BackNestsUptoSaid : Prop := backNestsUptoRow.holds Try.pinned (OpenSpec.upto backNestsSpec)

/-- 'concordancelaw12.BackSame', WHERE WHAT IT READS IS OF BULK AT MOST 1048576: true; the input reads as it did. -/
def backSameUptoRow : OpenClaim := { program := "ytckmabdphdcpmaa", sum := "f7e6881665968ad7daa205fb6f3bc7214ef90880d6be5b719a785b0141162bc9", func := "concordance/concordancelaw12.BackSame", spec := "backSame", unfollowed := true, recurses := true, apart := false, narrowed := true }
def BackSameUptoSaid : Prop := backSameUptoRow.holds Try.pinned (OpenSpec.upto backSameSpec)

/-- 'concordancelaw12.BackRanges', WHERE WHAT IT READS IS OF BULK AT MOST 1048576: true; the input reads as it did. -/
def backRangesUptoRow : OpenClaim := { program := "ytckmabdphdcpmaa", sum := "f7e6881665968ad7daa205fb6f3bc7214ef90880d6be5b719a785b0141162bc9", func := "concordance/concordancelaw12.BackRanges", spec := "backRanges", unfollowed := true, recurses := true, apart := false, narrowed := true }
def BackRangesUptoSaid : Prop := backRangesUptoRow.holds Try.pinned (OpenSpec.upto backRangesSpec)

/-- 'concordancelaw12.BackSteps', WHERE WHAT IT READS IS OF BULK AT MOST 1048576: true; the input reads as it did. -/
def backStepsUptoRow : OpenClaim := { program := "ytckmabdphdcpmaa", sum := "f7e6881665968ad7daa205fb6f3bc7214ef90880d6be5b719a785b0141162bc9", func := "concordance/concordancelaw12.BackSteps", spec := "backSteps", unfollowed := true, recurses := true, apart := false, narrowed := true }
def BackStepsUptoSaid : Prop := backStepsUptoRow.holds Try.pinned (OpenSpec.upto backStepsSpec)

/-- 'concordancelaw12.BackWalks', WHERE WHAT IT READS IS OF BULK AT MOST 1048576: true; the input reads as it did. -/
def backWalksUptoRow : OpenClaim := { program := "ytckmabdphdcpmaa", sum := "f7e6881665968ad7daa205fb6f3bc7214ef90880d6be5b719a785b0141162bc9", func := "concordance/concordancelaw12.BackWalks", spec := "backWalks", unfollowed := true, recurses := true, apart := false, narrowed := true }
def BackWalksUptoSaid : Prop := backWalksUptoRow.holds Try.pinned (OpenSpec.upto backWalksSpec)

end Rows
end Go.Proofs.Ytckmabdphdcpmaa
