/-
  No cell of these rows narrows 'for every input' (looked for: loops, veiled, ifaces, maps, wideKeys, modest, calm, conditions, laid).
  DERIVED. THE GIVEN ROWS OF THIS SEAT. 5 by the template 'for every input the law returns true; each argument reads behind the call as it read before'; 0 by the template 'total and deterministic' (their statements: YtehgpggkicoddaaTotals.lean).
  GIVEN WITH THE SEED: the statements are not yours to turn. If you find one false, say at which input.
  Laid BY PROGRAM, IN A SANDBOX (cutbox-rows.mjs): the forced cells as the released guide's own fill.sh prints them over the translation d87e6e5d33866104… (all of the seat's roots in one cut). By AI agents, Wed Nov 11 2026. No macro, syntax, notation, axiom, sorry.
-/
import Derived.Test.YtehgpggkicoddaaChecked
import GoSem.Claim
import GoSem.ClaimJoined
import GoSem.ClaimMapViews
import Derived.JoinedTies
import Derived.KernelRfl
namespace Go.Proofs.Ytehgpggkicoddaa
/- THE CELL 'sum', in the pinned program and in every row, IS THE sha256 OF THE DUMP (.gsa) THAT YtehgpggkicoddaaProg.lean LOADS. Nothing in Lean hashes anything: it is a label: what it is worth is what the hold of that sum in a sandbox is worth. -/
noncomputable def Try.pinned : Pinned := { name := "ytehgpggkicoddaa", sum := "d87e6e5d338661044dda0792c72f4496b985cf6a4c84a72200e7aa6a5b9cf784", checked := Try.checked }
namespace Rows
def none {H : Type} : Left H := { results := [], args := [] }

/-- 'concordancelaw9.TextSyms': WHATEVER THE INPUT: true; the input reads as it did. -/
def textSymsSpec : ChangeSpec := { name := "textSyms", fn := fun _ => fun
  | [d] => { results := [.lit (.bool true)], args := [d] }
  | _ => none }
def textSymsRow : OpenClaim := { program := "ytehgpggkicoddaa", sum := "d87e6e5d338661044dda0792c72f4496b985cf6a4c84a72200e7aa6a5b9cf784", func := "concordance/concordancelaw9.TextSyms", spec := "textSyms", inPlace := ["internal/bytealg.IndexByte", "internal/bytealg.Index"], unfollowed := true, recurses := true, named := ["internal/bytealg.MaxLen"], apart := false }
def TextSymsSaid : Prop := textSymsRow.holds Try.pinned (OpenSpec.ofChange textSymsSpec)

/-- ITS FALSE NEIGHBOUR: 'it returns false'. Refute it at one input. -/
def textSymsWrong : ChangeSpec := { name := "textSyms", fn := fun _ => fun
  | [d] => { results := [.lit (.bool false)], args := [d] }
  | _ => none }
def TextSymsWrongFalsely : Prop := textSymsRow.holds Try.pinned (OpenSpec.ofChange textSymsWrong)

/-- 'concordancelaw9.TextNested': WHATEVER THE INPUT: true; the input reads as it did. -/
def textNestedSpec : ChangeSpec := { name := "textNested", fn := fun _ => fun
  | [d1, d2, d3] => { results := [.lit (.bool true)], args := [d1, d2, d3] }
  | _ => none }
def textNestedRow : OpenClaim := { program := "ytehgpggkicoddaa", sum := "d87e6e5d338661044dda0792c72f4496b985cf6a4c84a72200e7aa6a5b9cf784", func := "concordance/concordancelaw9.TextNested", spec := "textNested", inPlace := ["internal/bytealg.IndexByte", "internal/bytealg.Index"], unfollowed := true, recurses := true, named := ["internal/bytealg.MaxLen"], apart := false }
def TextNestedSaid : Prop := textNestedRow.holds Try.pinned (OpenSpec.ofChange textNestedSpec)

/-- ITS FALSE NEIGHBOUR: 'it returns false'. Refute it at one input. -/
def textNestedWrong : ChangeSpec := { name := "textNested", fn := fun _ => fun
  | [d1, d2, d3] => { results := [.lit (.bool false)], args := [d1, d2, d3] }
  | _ => none }
def TextNestedWrongFalsely : Prop := textNestedRow.holds Try.pinned (OpenSpec.ofChange textNestedWrong)

/-- 'concordancelaw9.TextFinds': WHATEVER THE INPUT: true; the input reads as it did. -/
def textFindsSpec : ChangeSpec := { name := "textFinds", fn := fun _ => fun
  | [d1, d2, d3] => { results := [.lit (.bool true)], args := [d1, d2, d3] }
  | _ => none }
def textFindsRow : OpenClaim := { program := "ytehgpggkicoddaa", sum := "d87e6e5d338661044dda0792c72f4496b985cf6a4c84a72200e7aa6a5b9cf784", func := "concordance/concordancelaw9.TextFinds", spec := "textFinds", inPlace := ["internal/bytealg.IndexByte", "internal/bytealg.Index"], unfollowed := true, recurses := true, named := ["internal/bytealg.MaxLen"], apart := false }
def TextFindsSaid : Prop := textFindsRow.holds Try.pinned (OpenSpec.ofChange textFindsSpec)

/-- ITS FALSE NEIGHBOUR: 'it returns false'. Refute it at one input. -/
def textFindsWrong : ChangeSpec := { name := "textFinds", fn := fun _ => fun
  | [d1, d2, d3] => { results := [.lit (.bool false)], args := [d1, d2, d3] }
  | _ => none }
def TextFindsWrongFalsely : Prop := textFindsRow.holds Try.pinned (OpenSpec.ofChange textFindsWrong)

/-- 'concordancelaw9.TextBounds': WHATEVER THE INPUT: true; the input reads as it did. -/
def textBoundsSpec : ChangeSpec := { name := "textBounds", fn := fun _ => fun
  | [d1, d2, d3] => { results := [.lit (.bool true)], args := [d1, d2, d3] }
  | _ => none }
def textBoundsRow : OpenClaim := { program := "ytehgpggkicoddaa", sum := "d87e6e5d338661044dda0792c72f4496b985cf6a4c84a72200e7aa6a5b9cf784", func := "concordance/concordancelaw9.TextBounds", spec := "textBounds", inPlace := ["internal/bytealg.IndexByte", "internal/bytealg.Index"], unfollowed := true, recurses := true, named := ["internal/bytealg.MaxLen"], apart := false }
def TextBoundsSaid : Prop := textBoundsRow.holds Try.pinned (OpenSpec.ofChange textBoundsSpec)

/-- ITS FALSE NEIGHBOUR: 'it returns false'. Refute it at one input. -/
def textBoundsWrong : ChangeSpec := { name := "textBounds", fn := fun _ => fun
  | [d1, d2, d3] => { results := [.lit (.bool false)], args := [d1, d2, d3] }
  | _ => none }
def TextBoundsWrongFalsely : Prop := textBoundsRow.holds Try.pinned (OpenSpec.ofChange textBoundsWrong)

/-- 'concordancelaw9.TextPlaces': WHATEVER THE INPUT: true; the input reads as it did. -/
def textPlacesSpec : ChangeSpec := { name := "textPlaces", fn := fun _ => fun
  | [d] => { results := [.lit (.bool true)], args := [d] }
  | _ => none }
def textPlacesRow : OpenClaim := { program := "ytehgpggkicoddaa", sum := "d87e6e5d338661044dda0792c72f4496b985cf6a4c84a72200e7aa6a5b9cf784", func := "concordance/concordancelaw9.TextPlaces", spec := "textPlaces", inPlace := ["internal/bytealg.IndexByte", "internal/bytealg.Index"], unfollowed := true, recurses := true, named := ["internal/bytealg.MaxLen"], apart := false }
def TextPlacesSaid : Prop := textPlacesRow.holds Try.pinned (OpenSpec.ofChange textPlacesSpec)

/-- ITS FALSE NEIGHBOUR: 'it returns false'. Refute it at one input. -/
def textPlacesWrong : ChangeSpec := { name := "textPlaces", fn := fun _ => fun
  | [d] => { results := [.lit (.bool false)], args := [d] }
  | _ => none }
def TextPlacesWrongFalsely : Prop := textPlacesRow.holds Try.pinned (OpenSpec.ofChange textPlacesWrong)

/- THE SECOND FORM. 'bulk': how many values and letters a reading holds, each counted each time it is reached (what is shared counts as often as it is met; a slice's spare places count too). A statement '..UptoSaid' is the law's where the arguments, and the package variables that the reading takes, are together of bulk at most 1048576: NARROWER than '..Said'. Prove '..Said' where nothing that the law and all that it calls make is longer than what came in: it says more and counts as full. Else prove '..UptoSaid'. A law counts once. -/
mutual
def uptoBulk {H : Type} : DataW H → Nat
  | .lit (.string bytes) => bytes.length + 1
  | .lit _ => 1
  | .nil => 1
  | .ptr d => uptoBulk d + 1
  | .slice elems spare => uptoBulkAll elems + uptoBulkAll spare + 1
  | .agg parts => uptoBulkAll parts + 1
  | .iface _ d => uptoBulk d + 1
  | .map entries => uptoBulkEntries entries + 1
  | .held _ => 1
def uptoBulkAll {H : Type} : List (DataW H) → Nat
  | [] => 0
  | d :: r => uptoBulk d + uptoBulkAll r
def uptoBulkEntries {H : Type} : List (Lit × DataW H) → Nat
  | [] => 0
  | x :: r => uptoBulkEntry x + uptoBulkEntries r
def uptoBulkEntry {H : Type} : Lit × DataW H → Nat
  | (.string bytes, d) => bytes.length + uptoBulk d + 1
  | (_, d) => uptoBulk d + 1
 end
def uptoSmall : (H : Type) → List (DataW H) → Bool := fun _ ds => decide (uptoBulkAll ds ≤ 1048576)
def OpenSpec.upto (s : _root_.Go.ChangeSpec) : _root_.Go.OpenSpec := { _root_.Go.OpenSpec.ofChange s with cond := some uptoSmall }

/-- 'concordancelaw9.TextSyms', WHERE WHAT IT READS IS OF BULK AT MOST 1048576: true; the input reads as it did. -/
def textSymsUptoRow : OpenClaim := { program := "ytehgpggkicoddaa", sum := "d87e6e5d338661044dda0792c72f4496b985cf6a4c84a72200e7aa6a5b9cf784", func := "concordance/concordancelaw9.TextSyms", spec := "textSyms", inPlace := ["internal/bytealg.IndexByte", "internal/bytealg.Index"], unfollowed := true, recurses := true, named := ["internal/bytealg.MaxLen"], apart := false, narrowed := true }
def TextSymsUptoSaid : Prop := textSymsUptoRow.holds Try.pinned (OpenSpec.upto textSymsSpec)

/-- 'concordancelaw9.TextNested', WHERE WHAT IT READS IS OF BULK AT MOST 1048576: true; the input reads as it did. -/
def textNestedUptoRow : OpenClaim := { program := "ytehgpggkicoddaa", sum := "d87e6e5d338661044dda0792c72f4496b985cf6a4c84a72200e7aa6a5b9cf784", func := "concordance/concordancelaw9.TextNested", spec := "textNested", inPlace := ["internal/bytealg.IndexByte", "internal/bytealg.Index"], unfollowed := true, recurses := true, named := ["internal/bytealg.MaxLen"], apart := false, narrowed := true }
def TextNestedUptoSaid : Prop := textNestedUptoRow.holds Try.pinned (OpenSpec.upto textNestedSpec)

/-- 'concordancelaw9.TextFinds', WHERE WHAT IT READS IS OF BULK AT MOST 1048576: true; the input reads as it did. -/
def textFindsUptoRow : OpenClaim := { program := "ytehgpggkicoddaa", sum := "d87e6e5d338661044dda0792c72f4496b985cf6a4c84a72200e7aa6a5b9cf784", func := "concordance/concordancelaw9.TextFinds", spec := "textFinds", inPlace := ["internal/bytealg.IndexByte", "internal/bytealg.Index"], unfollowed := true, recurses := true, named := ["internal/bytealg.MaxLen"], apart := false, narrowed := true }
def TextFindsUptoSaid : Prop := textFindsUptoRow.holds Try.pinned (OpenSpec.upto textFindsSpec)

/-- 'concordancelaw9.TextBounds', WHERE WHAT IT READS IS OF BULK AT MOST 1048576: true; the input reads as it did. -/
def textBoundsUptoRow : OpenClaim := { program := "ytehgpggkicoddaa", sum := "d87e6e5d338661044dda0792c72f4496b985cf6a4c84a72200e7aa6a5b9cf784", func := "concordance/concordancelaw9.TextBounds", spec := "textBounds", inPlace := ["internal/bytealg.IndexByte", "internal/bytealg.Index"], unfollowed := true, recurses := true, named := ["internal/bytealg.MaxLen"], apart := false, narrowed := true }
def TextBoundsUptoSaid : Prop := textBoundsUptoRow.holds Try.pinned (OpenSpec.upto textBoundsSpec)

/-- 'concordancelaw9.TextPlaces', WHERE WHAT IT READS IS OF BULK AT MOST 1048576: true; the input reads as it did. -/
def textPlacesUptoRow : OpenClaim := { program := "ytehgpggkicoddaa", sum := "d87e6e5d338661044dda0792c72f4496b985cf6a4c84a72200e7aa6a5b9cf784", func := "concordance/concordancelaw9.TextPlaces", spec := "textPlaces", inPlace := ["internal/bytealg.IndexByte", "internal/bytealg.Index"], unfollowed := true, recurses := true, named := ["internal/bytealg.MaxLen"], apart := false, narrowed := true }
def TextPlacesUptoSaid : Prop := textPlacesUptoRow.holds Try.pinned (OpenSpec.upto textPlacesSpec)

end Rows
end Go.Proofs.Ytehgpggkicoddaa
