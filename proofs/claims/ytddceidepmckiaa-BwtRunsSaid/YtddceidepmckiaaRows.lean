/-
  No cell of these rows narrows 'for every input' (looked for: loops, veiled, ifaces, maps, wideKeys, modest, calm, conditions, laid).
  DERIVED. THE GIVEN ROWS OF THIS SEAT. 12 by the template 'for every input the law returns true; each argument reads behind the call as it read before'; 0 by the template 'total and deterministic' (their statements: YtddceidepmckiaaTotals.lean).
  GIVEN WITH THE SEED: the statements are not yours to turn. If you find one false, say at which input.
  Laid BY PROGRAM, IN A SANDBOX (cutbox-rows.mjs): the forced cells as the released guide's own fill.sh prints them over the translation 65718c673e2f9949… (all of the seat's roots in one cut). By AI agents, Wed Nov 11 2026. No macro, syntax, notation, axiom, sorry.
-/
import Derived.Test.YtddceidepmckiaaChecked
import GoSem.Claim
import GoSem.ClaimJoined
import GoSem.ClaimMapViews
import Derived.JoinedTies
import Derived.KernelRfl
namespace Go.Proofs.Ytddceidepmckiaa
/- THE CELL 'sum', in the pinned program and in every row, IS THE sha256 OF THE DUMP (.gsa) THAT YtddceidepmckiaaProg.lean LOADS. Nothing in Lean hashes anything: it is a label: what it is worth is what the hold of that sum in a sandbox is worth. -/
noncomputable def Try.pinned : Pinned := { name := "ytddceidepmckiaa", sum := "65718c673e2f9949bc11aace2bed7cdb8d9a87bb88c16da2f9094adddccab73b", checked := Try.checked }
namespace Rows
def none {H : Type} : Left H := { results := [], args := [] }

/-- 'concordancelaw10.SuffixMore': WHATEVER THE INPUT: true; the input reads as it did. -/
def suffixMoreSpec : ChangeSpec := { name := "suffixMore", fn := fun _ => fun
  | [d1, d2] => { results := [.lit (.bool true)], args := [d1, d2] }
  | _ => none }
def suffixMoreRow : OpenClaim := { program := "ytddceidepmckiaa", sum := "65718c673e2f9949bc11aace2bed7cdb8d9a87bb88c16da2f9094adddccab73b", func := "concordance/concordancelaw10.SuffixMore", spec := "suffixMore", unfollowed := true, recurses := true, apart := false }
def SuffixMoreSaid : Prop := suffixMoreRow.holds Try.pinned (OpenSpec.ofChange suffixMoreSpec)

/-- ITS FALSE NEIGHBOUR: 'it returns false'. Refute it at one input. -/
def suffixMoreWrong : ChangeSpec := { name := "suffixMore", fn := fun _ => fun
  | [d1, d2] => { results := [.lit (.bool false)], args := [d1, d2] }
  | _ => none }
def SuffixMoreWrongFalsely : Prop := suffixMoreRow.holds Try.pinned (OpenSpec.ofChange suffixMoreWrong)

/-- 'concordancelaw10.SuffixRuns': WHATEVER THE INPUT: true; the input reads as it did. -/
def suffixRunsSpec : ChangeSpec := { name := "suffixRuns", fn := fun _ => fun
  | [d1, d2, d3] => { results := [.lit (.bool true)], args := [d1, d2, d3] }
  | _ => none }
def suffixRunsRow : OpenClaim := { program := "ytddceidepmckiaa", sum := "65718c673e2f9949bc11aace2bed7cdb8d9a87bb88c16da2f9094adddccab73b", func := "concordance/concordancelaw10.SuffixRuns", spec := "suffixRuns", unfollowed := true, recurses := true, apart := false }
def SuffixRunsSaid : Prop := suffixRunsRow.holds Try.pinned (OpenSpec.ofChange suffixRunsSpec)

/-- ITS FALSE NEIGHBOUR: 'it returns false'. Refute it at one input. -/
def suffixRunsWrong : ChangeSpec := { name := "suffixRuns", fn := fun _ => fun
  | [d1, d2, d3] => { results := [.lit (.bool false)], args := [d1, d2, d3] }
  | _ => none }
def SuffixRunsWrongFalsely : Prop := suffixRunsRow.holds Try.pinned (OpenSpec.ofChange suffixRunsWrong)

/-- 'concordancelaw10.SuffixArrays': WHATEVER THE INPUT: true; the input reads as it did. -/
def suffixArraysSpec : ChangeSpec := { name := "suffixArrays", fn := fun _ => fun
  | [d] => { results := [.lit (.bool true)], args := [d] }
  | _ => none }
def suffixArraysRow : OpenClaim := { program := "ytddceidepmckiaa", sum := "65718c673e2f9949bc11aace2bed7cdb8d9a87bb88c16da2f9094adddccab73b", func := "concordance/concordancelaw10.SuffixArrays", spec := "suffixArrays", unfollowed := true, recurses := true, apart := false }
def SuffixArraysSaid : Prop := suffixArraysRow.holds Try.pinned (OpenSpec.ofChange suffixArraysSpec)

/-- ITS FALSE NEIGHBOUR: 'it returns false'. Refute it at one input. -/
def suffixArraysWrong : ChangeSpec := { name := "suffixArrays", fn := fun _ => fun
  | [d] => { results := [.lit (.bool false)], args := [d] }
  | _ => none }
def SuffixArraysWrongFalsely : Prop := suffixArraysRow.holds Try.pinned (OpenSpec.ofChange suffixArraysWrong)

/-- 'concordancelaw10.SuffixRanges': WHATEVER THE INPUT: true; the input reads as it did. -/
def suffixRangesSpec : ChangeSpec := { name := "suffixRanges", fn := fun _ => fun
  | [d1, d2] => { results := [.lit (.bool true)], args := [d1, d2] }
  | _ => none }
def suffixRangesRow : OpenClaim := { program := "ytddceidepmckiaa", sum := "65718c673e2f9949bc11aace2bed7cdb8d9a87bb88c16da2f9094adddccab73b", func := "concordance/concordancelaw10.SuffixRanges", spec := "suffixRanges", unfollowed := true, recurses := true, apart := false }
def SuffixRangesSaid : Prop := suffixRangesRow.holds Try.pinned (OpenSpec.ofChange suffixRangesSpec)

/-- ITS FALSE NEIGHBOUR: 'it returns false'. Refute it at one input. -/
def suffixRangesWrong : ChangeSpec := { name := "suffixRanges", fn := fun _ => fun
  | [d1, d2] => { results := [.lit (.bool false)], args := [d1, d2] }
  | _ => none }
def SuffixRangesWrongFalsely : Prop := suffixRangesRow.holds Try.pinned (OpenSpec.ofChange suffixRangesWrong)

/-- 'concordancelaw10.SuffixSame': WHATEVER THE INPUT: true; the input reads as it did. -/
def suffixSameSpec : ChangeSpec := { name := "suffixSame", fn := fun _ => fun
  | [d] => { results := [.lit (.bool true)], args := [d] }
  | _ => none }
def suffixSameRow : OpenClaim := { program := "ytddceidepmckiaa", sum := "65718c673e2f9949bc11aace2bed7cdb8d9a87bb88c16da2f9094adddccab73b", func := "concordance/concordancelaw10.SuffixSame", spec := "suffixSame", unfollowed := true, recurses := true, apart := false }
def SuffixSameSaid : Prop := suffixSameRow.holds Try.pinned (OpenSpec.ofChange suffixSameSpec)

/-- ITS FALSE NEIGHBOUR: 'it returns false'. Refute it at one input. -/
def suffixSameWrong : ChangeSpec := { name := "suffixSame", fn := fun _ => fun
  | [d] => { results := [.lit (.bool false)], args := [d] }
  | _ => none }
def SuffixSameWrongFalsely : Prop := suffixSameRow.holds Try.pinned (OpenSpec.ofChange suffixSameWrong)

/-- 'concordancelaw11.BwtHeads': WHATEVER THE INPUT: true; the input reads as it did. -/
def bwtHeadsSpec : ChangeSpec := { name := "bwtHeads", fn := fun _ => fun
  | [d] => { results := [.lit (.bool true)], args := [d] }
  | _ => none }
def bwtHeadsRow : OpenClaim := { program := "ytddceidepmckiaa", sum := "65718c673e2f9949bc11aace2bed7cdb8d9a87bb88c16da2f9094adddccab73b", func := "concordance/concordancelaw11.BwtHeads", spec := "bwtHeads", unfollowed := true, recurses := true, apart := false }
def BwtHeadsSaid : Prop := bwtHeadsRow.holds Try.pinned (OpenSpec.ofChange bwtHeadsSpec)

/-- ITS FALSE NEIGHBOUR: 'it returns false'. Refute it at one input. -/
def bwtHeadsWrong : ChangeSpec := { name := "bwtHeads", fn := fun _ => fun
  | [d] => { results := [.lit (.bool false)], args := [d] }
  | _ => none }
def BwtHeadsWrongFalsely : Prop := bwtHeadsRow.holds Try.pinned (OpenSpec.ofChange bwtHeadsWrong)

/-- 'concordancelaw11.BwtTells': WHATEVER THE INPUT: true; the input reads as it did. -/
def bwtTellsSpec : ChangeSpec := { name := "bwtTells", fn := fun _ => fun
  | [d] => { results := [.lit (.bool true)], args := [d] }
  | _ => none }
def bwtTellsRow : OpenClaim := { program := "ytddceidepmckiaa", sum := "65718c673e2f9949bc11aace2bed7cdb8d9a87bb88c16da2f9094adddccab73b", func := "concordance/concordancelaw11.BwtTells", spec := "bwtTells", unfollowed := true, recurses := true, apart := false }
def BwtTellsSaid : Prop := bwtTellsRow.holds Try.pinned (OpenSpec.ofChange bwtTellsSpec)

/-- ITS FALSE NEIGHBOUR: 'it returns false'. Refute it at one input. -/
def bwtTellsWrong : ChangeSpec := { name := "bwtTells", fn := fun _ => fun
  | [d] => { results := [.lit (.bool false)], args := [d] }
  | _ => none }
def BwtTellsWrongFalsely : Prop := bwtTellsRow.holds Try.pinned (OpenSpec.ofChange bwtTellsWrong)

/-- 'concordancelaw11.BwtNear': WHATEVER THE INPUT: true; the input reads as it did. -/
def bwtNearSpec : ChangeSpec := { name := "bwtNear", fn := fun _ => fun
  | [d1, d2, d3, d4] => { results := [.lit (.bool true)], args := [d1, d2, d3, d4] }
  | _ => none }
def bwtNearRow : OpenClaim := { program := "ytddceidepmckiaa", sum := "65718c673e2f9949bc11aace2bed7cdb8d9a87bb88c16da2f9094adddccab73b", func := "concordance/concordancelaw11.BwtNear", spec := "bwtNear", unfollowed := true, recurses := true, apart := false }
def BwtNearSaid : Prop := bwtNearRow.holds Try.pinned (OpenSpec.ofChange bwtNearSpec)

/-- ITS FALSE NEIGHBOUR: 'it returns false'. Refute it at one input. -/
def bwtNearWrong : ChangeSpec := { name := "bwtNear", fn := fun _ => fun
  | [d1, d2, d3, d4] => { results := [.lit (.bool false)], args := [d1, d2, d3, d4] }
  | _ => none }
def BwtNearWrongFalsely : Prop := bwtNearRow.holds Try.pinned (OpenSpec.ofChange bwtNearWrong)

/-- 'concordancelaw10.SuffixNests': WHATEVER THE INPUT: true; the input reads as it did. -/
def suffixNestsSpec : ChangeSpec := { name := "suffixNests", fn := fun _ => fun
  | [d1, d2] => { results := [.lit (.bool true)], args := [d1, d2] }
  | _ => none }
def suffixNestsRow : OpenClaim := { program := "ytddceidepmckiaa", sum := "65718c673e2f9949bc11aace2bed7cdb8d9a87bb88c16da2f9094adddccab73b", func := "concordance/concordancelaw10.SuffixNests", spec := "suffixNests", unfollowed := true, recurses := true, apart := false }
def SuffixNestsSaid : Prop := suffixNestsRow.holds Try.pinned (OpenSpec.ofChange suffixNestsSpec)

/-- ITS FALSE NEIGHBOUR: 'it returns false'. Refute it at one input. -/
def suffixNestsWrong : ChangeSpec := { name := "suffixNests", fn := fun _ => fun
  | [d1, d2] => { results := [.lit (.bool false)], args := [d1, d2] }
  | _ => none }
def SuffixNestsWrongFalsely : Prop := suffixNestsRow.holds Try.pinned (OpenSpec.ofChange suffixNestsWrong)

/-- 'concordancelaw11.BwtRaw': WHATEVER THE INPUT: true; the input reads as it did. -/
def bwtRawSpec : ChangeSpec := { name := "bwtRaw", fn := fun _ => fun
  | [d1, d2] => { results := [.lit (.bool true)], args := [d1, d2] }
  | _ => none }
def bwtRawRow : OpenClaim := { program := "ytddceidepmckiaa", sum := "65718c673e2f9949bc11aace2bed7cdb8d9a87bb88c16da2f9094adddccab73b", func := "concordance/concordancelaw11.BwtRaw", spec := "bwtRaw", unfollowed := true, recurses := true, apart := false }
def BwtRawSaid : Prop := bwtRawRow.holds Try.pinned (OpenSpec.ofChange bwtRawSpec)

/-- ITS FALSE NEIGHBOUR: 'it returns false'. Refute it at one input. -/
def bwtRawWrong : ChangeSpec := { name := "bwtRaw", fn := fun _ => fun
  | [d1, d2] => { results := [.lit (.bool false)], args := [d1, d2] }
  | _ => none }
def BwtRawWrongFalsely : Prop := bwtRawRow.holds Try.pinned (OpenSpec.ofChange bwtRawWrong)

/-- 'concordancelaw11.BwtSteps': WHATEVER THE INPUT: true; the input reads as it did. -/
def bwtStepsSpec : ChangeSpec := { name := "bwtSteps", fn := fun _ => fun
  | [d] => { results := [.lit (.bool true)], args := [d] }
  | _ => none }
def bwtStepsRow : OpenClaim := { program := "ytddceidepmckiaa", sum := "65718c673e2f9949bc11aace2bed7cdb8d9a87bb88c16da2f9094adddccab73b", func := "concordance/concordancelaw11.BwtSteps", spec := "bwtSteps", unfollowed := true, recurses := true, apart := false }
def BwtStepsSaid : Prop := bwtStepsRow.holds Try.pinned (OpenSpec.ofChange bwtStepsSpec)

/-- ITS FALSE NEIGHBOUR: 'it returns false'. Refute it at one input. -/
def bwtStepsWrong : ChangeSpec := { name := "bwtSteps", fn := fun _ => fun
  | [d] => { results := [.lit (.bool false)], args := [d] }
  | _ => none }
def BwtStepsWrongFalsely : Prop := bwtStepsRow.holds Try.pinned (OpenSpec.ofChange bwtStepsWrong)

/-- 'concordancelaw11.BwtRuns': WHATEVER THE INPUT: true; the input reads as it did. -/
def bwtRunsSpec : ChangeSpec := { name := "bwtRuns", fn := fun _ => fun
  | [d1, d2] => { results := [.lit (.bool true)], args := [d1, d2] }
  | _ => none }
def bwtRunsRow : OpenClaim := { program := "ytddceidepmckiaa", sum := "65718c673e2f9949bc11aace2bed7cdb8d9a87bb88c16da2f9094adddccab73b", func := "concordance/concordancelaw11.BwtRuns", spec := "bwtRuns", unfollowed := true, recurses := true, apart := false }
def BwtRunsSaid : Prop := bwtRunsRow.holds Try.pinned (OpenSpec.ofChange bwtRunsSpec)

/-- ITS FALSE NEIGHBOUR: 'it returns false'. Refute it at one input. -/
def bwtRunsWrong : ChangeSpec := { name := "bwtRuns", fn := fun _ => fun
  | [d1, d2] => { results := [.lit (.bool false)], args := [d1, d2] }
  | _ => none }
def BwtRunsWrongFalsely : Prop := bwtRunsRow.holds Try.pinned (OpenSpec.ofChange bwtRunsWrong)

/- THE SECOND FORM. 'bulk': how many values and letters a reading holds, each counted each time it is reached (what is shared counts as often as it is met; a slice's spare places count too). A statement '..UptoSaid' is the law's where the arguments, and the package variables that the reading takes, are together of bulk at most 1048576: NARROWER than '..Said'. Prove '..Said' where nothing that the law and all that it calls make is longer than what came in: it says more and counts as full. Else prove '..UptoSaid'. A law counts once. -/
mutual
def uptoBulk {H : Type} : DataW H → Nat
  | .lit (.string bytes) => bytes.length + 1
  | .lit _ => 1
  | .nil => 1
  | .ptr d => uptoBulk d + 1
  | .slice elems spare => uptoBulkAll elems + uptoBulkAll spare + 1
  | .agg parts => uptoBulkAll parts + 1
  | .iface _ d => uptoBulk d + 1
  | .map entries => uptoBulkEntries entries + 1
  | .held _ => 1
def uptoBulkAll {H : Type} : List (DataW H) → Nat
  | [] => 0
  | d :: r => uptoBulk d + uptoBulkAll r
def uptoBulkEntries {H : Type} : List (Lit × DataW H) → Nat
  | [] => 0
  | x :: r => uptoBulkEntry x + uptoBulkEntries r
def uptoBulkEntry {H : Type} : Lit × DataW H → Nat
  | (.string bytes, d) => bytes.length + uptoBulk d + 1
  | (_, d) => uptoBulk d + 1
 end
def uptoSmall : (H : Type) → List (DataW H) → Bool := fun _ ds => decide (uptoBulkAll ds ≤ 1048576)
def OpenSpec.upto (s : _root_.Go.ChangeSpec) : _root_.Go.OpenSpec := { _root_.Go.OpenSpec.ofChange s with cond := some uptoSmall }

/-- 'concordancelaw10.SuffixMore', WHERE WHAT IT READS IS OF BULK AT MOST 1048576: true; the input reads as it did. -/
def suffixMoreUptoRow : OpenClaim := { program := "ytddceidepmckiaa", sum := "65718c673e2f9949bc11aace2bed7cdb8d9a87bb88c16da2f9094adddccab73b", func := "concordance/concordancelaw10.SuffixMore", spec := "suffixMore", unfollowed := true, recurses := true, apart := false, narrowed := true }
def SuffixMoreUptoSaid : Prop := suffixMoreUptoRow.holds Try.pinned (OpenSpec.upto suffixMoreSpec)

/-- 'concordancelaw10.SuffixRuns', WHERE WHAT IT READS IS OF BULK AT MOST 1048576: true; the input reads as it did. -/
def suffixRunsUptoRow : OpenClaim := { program := "ytddceidepmckiaa", sum := "65718c673e2f9949bc11aace2bed7cdb8d9a87bb88c16da2f9094adddccab73b", func := "concordance/concordancelaw10.SuffixRuns", spec := "suffixRuns", unfollowed := true, recurses := true, apart := false, narrowed := true }
def SuffixRunsUptoSaid : Prop := suffixRunsUptoRow.holds Try.pinned (OpenSpec.upto suffixRunsSpec)

/-- 'concordancelaw10.SuffixArrays', WHERE WHAT IT READS IS OF BULK AT MOST 1048576: true; the input reads as it did. -/
def suffixArraysUptoRow : OpenClaim := { program := "ytddceidepmckiaa", sum := "65718c673e2f9949bc11aace2bed7cdb8d9a87bb88c16da2f9094adddccab73b", func := "concordance/concordancelaw10.SuffixArrays", spec := "suffixArrays", unfollowed := true, recurses := true, apart := false, narrowed := true }
def SuffixArraysUptoSaid : Prop := suffixArraysUptoRow.holds Try.pinned (OpenSpec.upto suffixArraysSpec)

/-- 'concordancelaw10.SuffixRanges', WHERE WHAT IT READS IS OF BULK AT MOST 1048576: true; the input reads as it did. -/
def suffixRangesUptoRow : OpenClaim := { program := "ytddceidepmckiaa", sum := "65718c673e2f9949bc11aace2bed7cdb8d9a87bb88c16da2f9094adddccab73b", func := "concordance/concordancelaw10.SuffixRanges", spec := "suffixRanges", unfollowed := true, recurses := true, apart := false, narrowed := true }
def SuffixRangesUptoSaid : Prop := suffixRangesUptoRow.holds Try.pinned (OpenSpec.upto suffixRangesSpec)

/-- 'concordancelaw10.SuffixSame', WHERE WHAT IT READS IS OF BULK AT MOST 1048576: true; the input reads as it did. -/
def suffixSameUptoRow : OpenClaim := { program := "ytddceidepmckiaa", sum := "65718c673e2f9949bc11aace2bed7cdb8d9a87bb88c16da2f9094adddccab73b", func := "concordance/concordancelaw10.SuffixSame", spec := "suffixSame", unfollowed := true, recurses := true, apart := false, narrowed := true }
def SuffixSameUptoSaid : Prop := suffixSameUptoRow.holds Try.pinned (OpenSpec.upto suffixSameSpec)

/-- 'concordancelaw11.BwtHeads', WHERE WHAT IT READS IS OF BULK AT MOST 1048576: true; the input reads as it did. -/
def bwtHeadsUptoRow : OpenClaim := { program := "ytddceidepmckiaa", sum := "65718c673e2f9949bc11aace2bed7cdb8d9a87bb88c16da2f9094adddccab73b", func := "concordance/concordancelaw11.BwtHeads", spec := "bwtHeads", unfollowed := true, recurses := true, apart := false, narrowed := true }
def BwtHeadsUptoSaid : Prop := bwtHeadsUptoRow.holds Try.pinned (OpenSpec.upto bwtHeadsSpec)

/-- 'concordancelaw11.BwtTells', WHERE WHAT IT READS IS OF BULK AT MOST 1048576: true; the input reads as it did. -/
def bwtTellsUptoRow : OpenClaim := { program := "ytddceidepmckiaa", sum := "65718c673e2f9949bc11aace2bed7cdb8d9a87bb88c16da2f9094adddccab73b", func := "concordance/concordancelaw11.BwtTells", spec := "bwtTells", unfollowed := true, recurses := true, apart := false, narrowed := true }
def BwtTellsUptoSaid : Prop := bwtTellsUptoRow.holds Try.pinned (OpenSpec.upto bwtTellsSpec)

/-- 'concordancelaw11.BwtNear', WHERE WHAT IT READS IS OF BULK AT MOST 1048576: true; the input reads as it did. -/
def bwtNearUptoRow : OpenClaim := { program := "ytddceidepmckiaa", sum := "65718c673e2f9949bc11aace2bed7cdb8d9a87bb88c16da2f9094adddccab73b", func := "concordance/concordancelaw11.BwtNear", spec := "bwtNear", unfollowed := true, recurses := true, apart := false, narrowed := true }
def BwtNearUptoSaid : Prop := bwtNearUptoRow.holds Try.pinned (OpenSpec.upto bwtNearSpec)

/-- 'concordancelaw10.SuffixNests', WHERE WHAT IT READS IS OF BULK AT MOST 1048576: true; the input reads as it did. -/
def suffixNestsUptoRow : OpenClaim := { program := "ytddceidepmckiaa", sum := "65718c673e2f9949bc11aace2bed7cdb8d9a87bb88c16da2f9094adddccab73b", func := "concordance/concordancelaw10.SuffixNests", spec := "suffixNests", unfollowed := true, recurses := true, apart := false, narrowed := true }
def SuffixNestsUptoSaid : Prop := suffixNestsUptoRow.holds Try.pinned (OpenSpec.upto suffixNestsSpec)

/-- 'concordancelaw11.BwtRaw', WHERE WHAT IT READS IS OF BULK AT MOST 1048576: true; the input reads as it did. -/
def bwtRawUptoRow : OpenClaim := { program := "ytddceidepmckiaa", sum := "65718c673e2f9949bc11aace2bed7cdb8d9a87bb88c16da2f9094adddccab73b", func := "concordance/concordancelaw11.BwtRaw", spec := "bwtRaw", unfollowed := true, recurses := true, apart := false, narrowed := true }
def BwtRawUptoSaid : Prop := bwtRawUptoRow.holds Try.pinned (OpenSpec.upto bwtRawSpec)

/-- 'concordancelaw11.BwtSteps', WHERE WHAT IT READS IS OF BULK AT MOST 1048576: true; the input reads as it did. -/
def bwtStepsUptoRow : OpenClaim := { program := "ytddceidepmckiaa", sum := "65718c673e2f9949bc11aace2bed7cdb8d9a87bb88c16da2f9094adddccab73b", func := "concordance/concordancelaw11.BwtSteps", spec := "bwtSteps", unfollowed := true, recurses := true, apart := false, narrowed := true }
def BwtStepsUptoSaid : Prop := bwtStepsUptoRow.holds Try.pinned (OpenSpec.upto bwtStepsSpec)

/-- 'concordancelaw11.BwtRuns', WHERE WHAT IT READS IS OF BULK AT MOST 1048576: true; the input reads as it did. -/
def bwtRunsUptoRow : OpenClaim := { program := "ytddceidepmckiaa", sum := "65718c673e2f9949bc11aace2bed7cdb8d9a87bb88c16da2f9094adddccab73b", func := "concordance/concordancelaw11.BwtRuns", spec := "bwtRuns", unfollowed := true, recurses := true, apart := false, narrowed := true }
def BwtRunsUptoSaid : Prop := bwtRunsUptoRow.holds Try.pinned (OpenSpec.upto bwtRunsSpec)

end Rows
end Go.Proofs.Ytddceidepmckiaa
