/-
  No cell of these rows narrows 'for every input' (looked for: loops, veiled, ifaces, maps, wideKeys, modest, calm, conditions, laid).
  DERIVED. THE GIVEN ROWS OF THIS SEAT. 9 by the template 'for every input the law returns true; each argument reads behind the call as it read before'; 0 by the template 'total and deterministic' (their statements: YtoifmfdaghmleaaTotals.lean).
  GIVEN WITH THE SEED: the statements are not yours to turn. If you find one false, say at which input.
  Laid BY PROGRAM, IN A SANDBOX (cutbox-rows.mjs): the forced cells as the released guide's own fill.sh prints them over the translation 72e19c9f424b4709… (all of the seat's roots in one cut). By AI agents, Wed Nov 11 2026. No macro, syntax, notation, axiom, sorry.
-/
import Derived.Test.YtoifmfdaghmleaaChecked
import GoSem.Claim
import GoSem.ClaimJoined
import GoSem.ClaimMapViews
import Derived.JoinedTies
import Derived.KernelRfl
namespace Go.Proofs.Ytoifmfdaghmleaa
/- THE CELL 'sum', in the pinned program and in every row, IS THE sha256 OF THE DUMP (.gsa) THAT YtoifmfdaghmleaaProg.lean LOADS. Nothing in Lean hashes anything: it is a label: what it is worth is what the hold of that sum in a sandbox is worth. -/
noncomputable def Try.pinned : Pinned := { name := "ytoifmfdaghmleaa", sum := "72e19c9f424b47099359a9d73f205cab6743f3b162bb94ac50c69ae16e1d986a", checked := Try.checked }
namespace Rows
def none {H : Type} : Left H := { results := [], args := [] }

/-- 'concordancelaw15.BufFills': WHATEVER THE INPUT: true; the input reads as it did. -/
def bufFillsSpec : ChangeSpec := { name := "bufFills", fn := fun _ => fun
  | [d1, d2] => { results := [.lit (.bool true)], args := [d1, d2] }
  | _ => none }
def bufFillsRow : OpenClaim := { program := "ytoifmfdaghmleaa", sum := "72e19c9f424b47099359a9d73f205cab6743f3b162bb94ac50c69ae16e1d986a", func := "concordance/concordancelaw15.BufFills", spec := "bufFills", inPlace := ["slices.overlaps[concordance/bag.entry[int, []byte]]", "internal/bytealg.IndexByte", "internal/bytealg.Index"], unfollowed := true, recurses := true, named := ["internal/bytealg.MaxLen"], apart := false }
def BufFillsSaid : Prop := bufFillsRow.holds Try.pinned (OpenSpec.ofChange bufFillsSpec)

/-- ITS FALSE NEIGHBOUR: 'it returns false'. Refute it at one input. -/
def bufFillsWrong : ChangeSpec := { name := "bufFills", fn := fun _ => fun
  | [d1, d2] => { results := [.lit (.bool false)], args := [d1, d2] }
  | _ => none }
def BufFillsWrongFalsely : Prop := bufFillsRow.holds Try.pinned (OpenSpec.ofChange bufFillsWrong)

/-- 'concordancelaw15.BufTwice': WHATEVER THE INPUT: true; the input reads as it did. -/
def bufTwiceSpec : ChangeSpec := { name := "bufTwice", fn := fun _ => fun
  | [d1, d2, d3] => { results := [.lit (.bool true)], args := [d1, d2, d3] }
  | _ => none }
def bufTwiceRow : OpenClaim := { program := "ytoifmfdaghmleaa", sum := "72e19c9f424b47099359a9d73f205cab6743f3b162bb94ac50c69ae16e1d986a", func := "concordance/concordancelaw15.BufTwice", spec := "bufTwice", inPlace := ["slices.overlaps[concordance/bag.entry[int, []byte]]", "internal/bytealg.IndexByte", "internal/bytealg.Index"], unfollowed := true, recurses := true, named := ["internal/bytealg.MaxLen"], apart := false }
def BufTwiceSaid : Prop := bufTwiceRow.holds Try.pinned (OpenSpec.ofChange bufTwiceSpec)

/-- ITS FALSE NEIGHBOUR: 'it returns false'. Refute it at one input. -/
def bufTwiceWrong : ChangeSpec := { name := "bufTwice", fn := fun _ => fun
  | [d1, d2, d3] => { results := [.lit (.bool false)], args := [d1, d2, d3] }
  | _ => none }
def BufTwiceWrongFalsely : Prop := bufTwiceRow.holds Try.pinned (OpenSpec.ofChange bufTwiceWrong)

/-- 'concordancelaw5.BagLaws': WHATEVER THE INPUT: true; the input reads as it did. -/
def bagLawsSpec : ChangeSpec := { name := "bagLaws", fn := fun _ => fun
  | [d1, d2] => { results := [.lit (.bool true)], args := [d1, d2] }
  | _ => none }
def bagLawsRow : OpenClaim := { program := "ytoifmfdaghmleaa", sum := "72e19c9f424b47099359a9d73f205cab6743f3b162bb94ac50c69ae16e1d986a", func := "concordance/concordancelaw5.BagLaws", spec := "bagLaws", unfollowed := true, recurses := true, apart := false }
def BagLawsSaid : Prop := bagLawsRow.holds Try.pinned (OpenSpec.ofChange bagLawsSpec)

/-- ITS FALSE NEIGHBOUR: 'it returns false'. Refute it at one input. -/
def bagLawsWrong : ChangeSpec := { name := "bagLaws", fn := fun _ => fun
  | [d1, d2] => { results := [.lit (.bool false)], args := [d1, d2] }
  | _ => none }
def BagLawsWrongFalsely : Prop := bagLawsRow.holds Try.pinned (OpenSpec.ofChange bagLawsWrong)

/-- 'concordancelaw5.BagJoins': WHATEVER THE INPUT: true; the input reads as it did. -/
def bagJoinsSpec : ChangeSpec := { name := "bagJoins", fn := fun _ => fun
  | [d1, d2, d3] => { results := [.lit (.bool true)], args := [d1, d2, d3] }
  | _ => none }
def bagJoinsRow : OpenClaim := { program := "ytoifmfdaghmleaa", sum := "72e19c9f424b47099359a9d73f205cab6743f3b162bb94ac50c69ae16e1d986a", func := "concordance/concordancelaw5.BagJoins", spec := "bagJoins", unfollowed := true, recurses := true, apart := false }
def BagJoinsSaid : Prop := bagJoinsRow.holds Try.pinned (OpenSpec.ofChange bagJoinsSpec)

/-- ITS FALSE NEIGHBOUR: 'it returns false'. Refute it at one input. -/
def bagJoinsWrong : ChangeSpec := { name := "bagJoins", fn := fun _ => fun
  | [d1, d2, d3] => { results := [.lit (.bool false)], args := [d1, d2, d3] }
  | _ => none }
def BagJoinsWrongFalsely : Prop := bagJoinsRow.holds Try.pinned (OpenSpec.ofChange bagJoinsWrong)

/-- 'concordancelaw5.BagWords': WHATEVER THE INPUT: true; the input reads as it did. -/
def bagWordsSpec : ChangeSpec := { name := "bagWords", fn := fun _ => fun
  | [d1, d2] => { results := [.lit (.bool true)], args := [d1, d2] }
  | _ => none }
def bagWordsRow : OpenClaim := { program := "ytoifmfdaghmleaa", sum := "72e19c9f424b47099359a9d73f205cab6743f3b162bb94ac50c69ae16e1d986a", func := "concordance/concordancelaw5.BagWords", spec := "bagWords", unfollowed := true, recurses := true, apart := false }
def BagWordsSaid : Prop := bagWordsRow.holds Try.pinned (OpenSpec.ofChange bagWordsSpec)

/-- ITS FALSE NEIGHBOUR: 'it returns false'. Refute it at one input. -/
def bagWordsWrong : ChangeSpec := { name := "bagWords", fn := fun _ => fun
  | [d1, d2] => { results := [.lit (.bool false)], args := [d1, d2] }
  | _ => none }
def BagWordsWrongFalsely : Prop := bagWordsRow.holds Try.pinned (OpenSpec.ofChange bagWordsWrong)

/-- 'concordancelaw5.BagRanks': WHATEVER THE INPUT: true; the input reads as it did. -/
def bagRanksSpec : ChangeSpec := { name := "bagRanks", fn := fun _ => fun
  | [d] => { results := [.lit (.bool true)], args := [d] }
  | _ => none }
def bagRanksRow : OpenClaim := { program := "ytoifmfdaghmleaa", sum := "72e19c9f424b47099359a9d73f205cab6743f3b162bb94ac50c69ae16e1d986a", func := "concordance/concordancelaw5.BagRanks", spec := "bagRanks", unfollowed := true, recurses := true, apart := false }
def BagRanksSaid : Prop := bagRanksRow.holds Try.pinned (OpenSpec.ofChange bagRanksSpec)

/-- ITS FALSE NEIGHBOUR: 'it returns false'. Refute it at one input. -/
def bagRanksWrong : ChangeSpec := { name := "bagRanks", fn := fun _ => fun
  | [d] => { results := [.lit (.bool false)], args := [d] }
  | _ => none }
def BagRanksWrongFalsely : Prop := bagRanksRow.holds Try.pinned (OpenSpec.ofChange bagRanksWrong)

/-- 'concordancelaw5.BagTurned': WHATEVER THE INPUT: true; the input reads as it did. -/
def bagTurnedSpec : ChangeSpec := { name := "bagTurned", fn := fun _ => fun
  | [d1, d2] => { results := [.lit (.bool true)], args := [d1, d2] }
  | _ => none }
def bagTurnedRow : OpenClaim := { program := "ytoifmfdaghmleaa", sum := "72e19c9f424b47099359a9d73f205cab6743f3b162bb94ac50c69ae16e1d986a", func := "concordance/concordancelaw5.BagTurned", spec := "bagTurned", inPlace := ["slices.overlaps[int]"], unfollowed := true, recurses := true, apart := false }
def BagTurnedSaid : Prop := bagTurnedRow.holds Try.pinned (OpenSpec.ofChange bagTurnedSpec)

/-- ITS FALSE NEIGHBOUR: 'it returns false'. Refute it at one input. -/
def bagTurnedWrong : ChangeSpec := { name := "bagTurned", fn := fun _ => fun
  | [d1, d2] => { results := [.lit (.bool false)], args := [d1, d2] }
  | _ => none }
def BagTurnedWrongFalsely : Prop := bagTurnedRow.holds Try.pinned (OpenSpec.ofChange bagTurnedWrong)

/-- 'concordancelaw5.BagSets': WHATEVER THE INPUT: true; the input reads as it did. -/
def bagSetsSpec : ChangeSpec := { name := "bagSets", fn := fun _ => fun
  | [d1, d2] => { results := [.lit (.bool true)], args := [d1, d2] }
  | _ => none }
def bagSetsRow : OpenClaim := { program := "ytoifmfdaghmleaa", sum := "72e19c9f424b47099359a9d73f205cab6743f3b162bb94ac50c69ae16e1d986a", func := "concordance/concordancelaw5.BagSets", spec := "bagSets", inPlace := ["slices.overlaps[int]"], unfollowed := true, recurses := true, apart := false }
def BagSetsSaid : Prop := bagSetsRow.holds Try.pinned (OpenSpec.ofChange bagSetsSpec)

/-- ITS FALSE NEIGHBOUR: 'it returns false'. Refute it at one input. -/
def bagSetsWrong : ChangeSpec := { name := "bagSets", fn := fun _ => fun
  | [d1, d2] => { results := [.lit (.bool false)], args := [d1, d2] }
  | _ => none }
def BagSetsWrongFalsely : Prop := bagSetsRow.holds Try.pinned (OpenSpec.ofChange bagSetsWrong)

/-- 'concordancelaw5.BagMaps': WHATEVER THE INPUT: true; the input reads as it did. -/
def bagMapsSpec : ChangeSpec := { name := "bagMaps", fn := fun _ => fun
  | [d] => { results := [.lit (.bool true)], args := [d] }
  | _ => none }
def bagMapsRow : OpenClaim := { program := "ytoifmfdaghmleaa", sum := "72e19c9f424b47099359a9d73f205cab6743f3b162bb94ac50c69ae16e1d986a", func := "concordance/concordancelaw5.BagMaps", spec := "bagMaps", inPlace := ["slices.overlaps[concordance/bag.entry[string, int]]"], unfollowed := true, recurses := true, apart := false }
def BagMapsSaid : Prop := bagMapsRow.holds Try.pinned (OpenSpec.ofChange bagMapsSpec)

/-- ITS FALSE NEIGHBOUR: 'it returns false'. Refute it at one input. -/
def bagMapsWrong : ChangeSpec := { name := "bagMaps", fn := fun _ => fun
  | [d] => { results := [.lit (.bool false)], args := [d] }
  | _ => none }
def BagMapsWrongFalsely : Prop := bagMapsRow.holds Try.pinned (OpenSpec.ofChange bagMapsWrong)

/- THE SECOND FORM. 'bulk': how many values and letters a reading holds, each counted each time it is reached (what is shared counts as often as it is met; a slice's spare places count too). A statement '..UptoSaid' is the law's where the arguments, and the package variables that the reading takes, are together of bulk at most 1048576: NARROWER than '..Said'. Prove '..Said' where nothing that the law and all that it calls make is longer than what came in: it says more and counts as full. Else prove '..UptoSaid'. A law counts once. -/
mutual
def uptoBulk {H : Type} : DataW H → Nat
  | .lit (.string bytes) => bytes.length + 1
  | .lit _ => 1
  | .nil => 1
  | .ptr d => uptoBulk d + 1
  | .slice elems spare => uptoBulkAll elems + uptoBulkAll spare + 1
  | .agg parts => uptoBulkAll parts + 1
  | .iface _ d => uptoBulk d + 1
  | .map entries => uptoBulkEntries entries + 1
  | .held _ => 1
def uptoBulkAll {H : Type} : List (DataW H) → Nat
  | [] => 0
  | d :: r => uptoBulk d + uptoBulkAll r
def uptoBulkEntries {H : Type} : List (Lit × DataW H) → Nat
  | [] => 0
  | x :: r => uptoBulkEntry x + uptoBulkEntries r
def uptoBulkEntry {H : Type} : Lit × DataW H → Nat
  | (.string bytes, d) => bytes.length + uptoBulk d + 1
  | (_, d) => uptoBulk d + 1
 end
def uptoSmall : (H : Type) → List (DataW H) → Bool := fun _ ds => decide (uptoBulkAll ds ≤ 1048576)
def OpenSpec.upto (s : _root_.Go.ChangeSpec) : _root_.Go.OpenSpec := { _root_.Go.OpenSpec.ofChange s with cond := some uptoSmall }

/-- 'concordancelaw15.BufFills', WHERE WHAT IT READS IS OF BULK AT MOST 1048576: true; the input reads as it did. -/
def bufFillsUptoRow : OpenClaim := { program := "ytoifmfdaghmleaa", sum := "72e19c9f424b47099359a9d73f205cab6743f3b162bb94ac50c69ae16e1d986a", func := "concordance/concordancelaw15.BufFills", spec := "bufFills", inPlace := ["slices.overlaps[concordance/bag.entry[int, []byte]]", "internal/bytealg.IndexByte", "internal/bytealg.Index"], unfollowed := true, recurses := true, named := ["internal/bytealg.MaxLen"], apart := false, narrowed := true }
def BufFillsUptoSaid : Prop := bufFillsUptoRow.holds Try.pinned (OpenSpec.upto bufFillsSpec)

/-- 'concordancelaw15.BufTwice', WHERE WHAT IT READS IS OF BULK AT MOST 1048576: true; the input reads as it did. -/
def bufTwiceUptoRow : OpenClaim := { program := "ytoifmfdaghmleaa", sum := "72e19c9f424b47099359a9d73f205cab6743f3b162bb94ac50c69ae16e1d986a", func := "concordance/concordancelaw15.BufTwice", spec := "bufTwice", inPlace := ["slices.overlaps[concordance/bag.entry[int, []byte]]", "internal/bytealg.IndexByte", "internal/bytealg.Index"], unfollowed := true, recurses := true, named := ["internal/bytealg.MaxLen"], apart := false, narrowed := true }
def BufTwiceUptoSaid : Prop := bufTwiceUptoRow.holds Try.pinned (OpenSpec.upto bufTwiceSpec)

/-- 'concordancelaw5.BagLaws', WHERE WHAT IT READS IS OF BULK AT MOST 1048576: true; the input reads as it did. -/
def bagLawsUptoRow : OpenClaim := { program := "ytoifmfdaghmleaa", sum := "72e19c9f424b47099359a9d73f205cab6743f3b162bb94ac50c69ae16e1d986a", func := "concordance/concordancelaw5.BagLaws", spec := "bagLaws", unfollowed := true, recurses := true, apart := false, narrowed := true }
def BagLawsUptoSaid : Prop := bagLawsUptoRow.holds Try.pinned (OpenSpec.upto bagLawsSpec)

/-- 'concordancelaw5.BagJoins', WHERE WHAT IT READS IS OF BULK AT MOST 1048576: true; the input reads as it did. -/
def bagJoinsUptoRow : OpenClaim := { program := "ytoifmfdaghmleaa", sum := "72e19c9f424b47099359a9d73f205cab6743f3b162bb94ac50c69ae16e1d986a", func := "concordance/concordancelaw5.BagJoins", spec := "bagJoins", unfollowed := true, recurses := true, apart := false, narrowed := true }
def BagJoinsUptoSaid : Prop := bagJoinsUptoRow.holds Try.pinned (OpenSpec.upto bagJoinsSpec)

/-- 'concordancelaw5.BagWords', WHERE WHAT IT READS IS OF BULK AT MOST 1048576: true; the input reads as it did. -/
def bagWordsUptoRow : OpenClaim := { program := "ytoifmfdaghmleaa", sum := "72e19c9f424b47099359a9d73f205cab6743f3b162bb94ac50c69ae16e1d986a", func := "concordance/concordancelaw5.BagWords", spec := "bagWords", unfollowed := true, recurses := true, apart := false, narrowed := true }
def BagWordsUptoSaid : Prop := bagWordsUptoRow.holds Try.pinned (OpenSpec.upto bagWordsSpec)

/-- 'concordancelaw5.BagRanks', WHERE WHAT IT READS IS OF BULK AT MOST 1048576: true; the input reads as it did. -/
def bagRanksUptoRow : OpenClaim := { program := "ytoifmfdaghmleaa", sum := "72e19c9f424b47099359a9d73f205cab6743f3b162bb94ac50c69ae16e1d986a", func := "concordance/concordancelaw5.BagRanks", spec := "bagRanks", unfollowed := true, recurses := true, apart := false, narrowed := true }
def BagRanksUptoSaid : Prop := bagRanksUptoRow.holds Try.pinned (OpenSpec.upto bagRanksSpec)

/-- 'concordancelaw5.BagTurned', WHERE WHAT IT READS IS OF BULK AT MOST 1048576: true; the input reads as it did. -/
def bagTurnedUptoRow : OpenClaim := { program := "ytoifmfdaghmleaa", sum := "72e19c9f424b47099359a9d73f205cab6743f3b162bb94ac50c69ae16e1d986a", func := "concordance/concordancelaw5.BagTurned", spec := "bagTurned", inPlace := ["slices.overlaps[int]"], unfollowed := true, recurses := true, apart := false, narrowed := true }
def BagTurnedUptoSaid : Prop := bagTurnedUptoRow.holds Try.pinned (OpenSpec.upto bagTurnedSpec)

/-- 'concordancelaw5.BagSets', WHERE WHAT IT READS IS OF BULK AT MOST 1048576: true; the input reads as it did. -/
def bagSetsUptoRow : OpenClaim := { program := "ytoifmfdaghmleaa", sum := "72e19c9f424b47099359a9d73f205cab6743f3b162bb94ac50c69ae16e1d986a", func := "concordance/concordancelaw5.BagSets", spec := "bagSets", inPlace := ["slices.overlaps[int]"], unfollowed := true, recurses := true, apart := false, narrowed := true }
def BagSetsUptoSaid : Prop := bagSetsUptoRow.holds Try.pinned (OpenSpec.upto bagSetsSpec)

/-- 'concordancelaw5.BagMaps', WHERE WHAT IT READS IS OF BULK AT MOST 1048576: true; the input reads as it did. -/
def bagMapsUptoRow : OpenClaim := { program := "ytoifmfdaghmleaa", sum := "72e19c9f424b47099359a9d73f205cab6743f3b162bb94ac50c69ae16e1d986a", func := "concordance/concordancelaw5.BagMaps", spec := "bagMaps", inPlace := ["slices.overlaps[concordance/bag.entry[string, int]]"], unfollowed := true, recurses := true, apart := false, narrowed := true }
def BagMapsUptoSaid : Prop := bagMapsUptoRow.holds Try.pinned (OpenSpec.upto bagMapsSpec)

end Rows
end Go.Proofs.Ytoifmfdaghmleaa
