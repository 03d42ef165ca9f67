/-
  No cell of these rows narrows 'for every input' (looked for: loops, veiled, ifaces, maps, wideKeys, modest, calm, conditions, laid).
  DERIVED. THE GIVEN ROWS OF THIS SEAT. 7 by the template 'for every input the law returns true; each argument reads behind the call as it read before'; 0 by the template 'total and deterministic' (their statements: YtjpoebmjfedecaaTotals.lean).
  GIVEN WITH THE SEED: the statements are not yours to turn. If you find one false, say at which input.
  Laid BY PROGRAM, IN A SANDBOX (cutbox-rows.mjs): the forced cells as the released guide's own fill.sh prints them over the translation b553a84ead01a0ad… (all of the seat's roots in one cut). By AI agents, Wed Nov 11 2026. No macro, syntax, notation, axiom, sorry.
-/
import Derived.Test.YtjpoebmjfedecaaChecked
import GoSem.Claim
import GoSem.ClaimJoined
import GoSem.ClaimMapViews
import Derived.JoinedTies
import Derived.KernelRfl
namespace Go.Proofs.Ytjpoebmjfedecaa
/- THE CELL 'sum', in the pinned program and in every row, IS THE sha256 OF THE DUMP (.gsa) THAT YtjpoebmjfedecaaProg.lean LOADS. Nothing in Lean hashes anything: it is a label: what it is worth is what the hold of that sum in a sandbox is worth. -/
noncomputable def Try.pinned : Pinned := { name := "ytjpoebmjfedecaa", sum := "b553a84ead01a0ad132fcf1a4dfc15933f2674dfd216e8d831cd33ea21a6890f", checked := Try.checked }
namespace Rows
def none {H : Type} : Left H := { results := [], args := [] }

/-- 'concordancelaw13.WalkLong': WHATEVER THE INPUT: true; the input reads as it did. -/
def walkLongSpec : ChangeSpec := { name := "walkLong", fn := fun _ => fun
  | [d1, d2] => { results := [.lit (.bool true)], args := [d1, d2] }
  | _ => none }
def walkLongRow : OpenClaim := { program := "ytjpoebmjfedecaa", sum := "b553a84ead01a0ad132fcf1a4dfc15933f2674dfd216e8d831cd33ea21a6890f", func := "concordance/concordancelaw13.WalkLong", spec := "walkLong", unfollowed := true, recurses := true, apart := false }
def WalkLongSaid : Prop := walkLongRow.holds Try.pinned (OpenSpec.ofChange walkLongSpec)

/-- ITS FALSE NEIGHBOUR: 'it returns false'. Refute it at one input. -/
def walkLongWrong : ChangeSpec := { name := "walkLong", fn := fun _ => fun
  | [d1, d2] => { results := [.lit (.bool false)], args := [d1, d2] }
  | _ => none }
def WalkLongWrongFalsely : Prop := walkLongRow.holds Try.pinned (OpenSpec.ofChange walkLongWrong)

/-- 'concordancelaw13.WalkPlaces': WHATEVER THE INPUT: true; the input reads as it did. -/
def walkPlacesSpec : ChangeSpec := { name := "walkPlaces", fn := fun _ => fun
  | [d1, d2, d3, d4] => { results := [.lit (.bool true)], args := [d1, d2, d3, d4] }
  | _ => none }
def walkPlacesRow : OpenClaim := { program := "ytjpoebmjfedecaa", sum := "b553a84ead01a0ad132fcf1a4dfc15933f2674dfd216e8d831cd33ea21a6890f", func := "concordance/concordancelaw13.WalkPlaces", spec := "walkPlaces", unfollowed := true, recurses := true, apart := false }
def WalkPlacesSaid : Prop := walkPlacesRow.holds Try.pinned (OpenSpec.ofChange walkPlacesSpec)

/-- ITS FALSE NEIGHBOUR: 'it returns false'. Refute it at one input. -/
def walkPlacesWrong : ChangeSpec := { name := "walkPlaces", fn := fun _ => fun
  | [d1, d2, d3, d4] => { results := [.lit (.bool false)], args := [d1, d2, d3, d4] }
  | _ => none }
def WalkPlacesWrongFalsely : Prop := walkPlacesRow.holds Try.pinned (OpenSpec.ofChange walkPlacesWrong)

/-- 'concordancelaw13.WalkFrom': WHATEVER THE INPUT: true; the input reads as it did. -/
def walkFromSpec : ChangeSpec := { name := "walkFrom", fn := fun _ => fun
  | [d1, d2, d3] => { results := [.lit (.bool true)], args := [d1, d2, d3] }
  | _ => none }
def walkFromRow : OpenClaim := { program := "ytjpoebmjfedecaa", sum := "b553a84ead01a0ad132fcf1a4dfc15933f2674dfd216e8d831cd33ea21a6890f", func := "concordance/concordancelaw13.WalkFrom", spec := "walkFrom", unfollowed := true, recurses := true, apart := false }
def WalkFromSaid : Prop := walkFromRow.holds Try.pinned (OpenSpec.ofChange walkFromSpec)

/-- ITS FALSE NEIGHBOUR: 'it returns false'. Refute it at one input. -/
def walkFromWrong : ChangeSpec := { name := "walkFrom", fn := fun _ => fun
  | [d1, d2, d3] => { results := [.lit (.bool false)], args := [d1, d2, d3] }
  | _ => none }
def WalkFromWrongFalsely : Prop := walkFromRow.holds Try.pinned (OpenSpec.ofChange walkFromWrong)

/-- 'concordancelaw14.FmRuns': WHATEVER THE INPUT: true; the input reads as it did. -/
def fmRunsSpec : ChangeSpec := { name := "fmRuns", fn := fun _ => fun
  | [d1, d2, d3, d4] => { results := [.lit (.bool true)], args := [d1, d2, d3, d4] }
  | _ => none }
def fmRunsRow : OpenClaim := { program := "ytjpoebmjfedecaa", sum := "b553a84ead01a0ad132fcf1a4dfc15933f2674dfd216e8d831cd33ea21a6890f", func := "concordance/concordancelaw14.FmRuns", spec := "fmRuns", unfollowed := true, recurses := true, apart := false }
def FmRunsSaid : Prop := fmRunsRow.holds Try.pinned (OpenSpec.ofChange fmRunsSpec)

/-- ITS FALSE NEIGHBOUR: 'it returns false'. Refute it at one input. -/
def fmRunsWrong : ChangeSpec := { name := "fmRuns", fn := fun _ => fun
  | [d1, d2, d3, d4] => { results := [.lit (.bool false)], args := [d1, d2, d3, d4] }
  | _ => none }
def FmRunsWrongFalsely : Prop := fmRunsRow.holds Try.pinned (OpenSpec.ofChange fmRunsWrong)

/-- 'concordancelaw14.FmPieces': WHATEVER THE INPUT: true; the input reads as it did. -/
def fmPiecesSpec : ChangeSpec := { name := "fmPieces", fn := fun _ => fun
  | [d1, d2] => { results := [.lit (.bool true)], args := [d1, d2] }
  | _ => none }
def fmPiecesRow : OpenClaim := { program := "ytjpoebmjfedecaa", sum := "b553a84ead01a0ad132fcf1a4dfc15933f2674dfd216e8d831cd33ea21a6890f", func := "concordance/concordancelaw14.FmPieces", spec := "fmPieces", unfollowed := true, recurses := true, apart := false }
def FmPiecesSaid : Prop := fmPiecesRow.holds Try.pinned (OpenSpec.ofChange fmPiecesSpec)

/-- ITS FALSE NEIGHBOUR: 'it returns false'. Refute it at one input. -/
def fmPiecesWrong : ChangeSpec := { name := "fmPieces", fn := fun _ => fun
  | [d1, d2] => { results := [.lit (.bool false)], args := [d1, d2] }
  | _ => none }
def FmPiecesWrongFalsely : Prop := fmPiecesRow.holds Try.pinned (OpenSpec.ofChange fmPiecesWrong)

/-- 'concordancelaw14.FmHits': WHATEVER THE INPUT: true; the input reads as it did. -/
def fmHitsSpec : ChangeSpec := { name := "fmHits", fn := fun _ => fun
  | [d1, d2, d3, d4] => { results := [.lit (.bool true)], args := [d1, d2, d3, d4] }
  | _ => none }
def fmHitsRow : OpenClaim := { program := "ytjpoebmjfedecaa", sum := "b553a84ead01a0ad132fcf1a4dfc15933f2674dfd216e8d831cd33ea21a6890f", func := "concordance/concordancelaw14.FmHits", spec := "fmHits", unfollowed := true, recurses := true, apart := false }
def FmHitsSaid : Prop := fmHitsRow.holds Try.pinned (OpenSpec.ofChange fmHitsSpec)

/-- ITS FALSE NEIGHBOUR: 'it returns false'. Refute it at one input. -/
def fmHitsWrong : ChangeSpec := { name := "fmHits", fn := fun _ => fun
  | [d1, d2, d3, d4] => { results := [.lit (.bool false)], args := [d1, d2, d3, d4] }
  | _ => none }
def FmHitsWrongFalsely : Prop := fmHitsRow.holds Try.pinned (OpenSpec.ofChange fmHitsWrong)

/-- 'concordancelaw14.FmTells': WHATEVER THE INPUT: true; the input reads as it did. -/
def fmTellsSpec : ChangeSpec := { name := "fmTells", fn := fun _ => fun
  | [d1, d2, d3, d4, d5, d6] => { results := [.lit (.bool true)], args := [d1, d2, d3, d4, d5, d6] }
  | _ => none }
def fmTellsRow : OpenClaim := { program := "ytjpoebmjfedecaa", sum := "b553a84ead01a0ad132fcf1a4dfc15933f2674dfd216e8d831cd33ea21a6890f", func := "concordance/concordancelaw14.FmTells", spec := "fmTells", unfollowed := true, recurses := true, apart := false }
def FmTellsSaid : Prop := fmTellsRow.holds Try.pinned (OpenSpec.ofChange fmTellsSpec)

/-- ITS FALSE NEIGHBOUR: 'it returns false'. Refute it at one input. -/
def fmTellsWrong : ChangeSpec := { name := "fmTells", fn := fun _ => fun
  | [d1, d2, d3, d4, d5, d6] => { results := [.lit (.bool false)], args := [d1, d2, d3, d4, d5, d6] }
  | _ => none }
def FmTellsWrongFalsely : Prop := fmTellsRow.holds Try.pinned (OpenSpec.ofChange fmTellsWrong)

/- THE SECOND FORM. 'bulk': how many values and letters a reading holds, each counted each time it is reached (what is shared counts as often as it is met; a slice's spare places count too). A statement '..UptoSaid' is the law's where the arguments, and the package variables that the reading takes, are together of bulk at most 1048576: NARROWER than '..Said'. Prove '..Said' where nothing that the law and all that it calls make is longer than what came in: it says more and counts as full. Else prove '..UptoSaid'. A law counts once. -/
mutual
def uptoBulk {H : Type} : DataW H → Nat
  | .lit (.string bytes) => bytes.length + 1
  | .lit _ => 1
  | .nil => 1
  | .ptr d => uptoBulk d + 1
  | .slice elems spare => uptoBulkAll elems + uptoBulkAll spare + 1
  | .agg parts => uptoBulkAll parts + 1
  | .iface _ d => uptoBulk d + 1
  | .map entries => uptoBulkEntries entries + 1
  | .held _ => 1
def uptoBulkAll {H : Type} : List (DataW H) → Nat
  | [] => 0
  | d :: r => uptoBulk d + uptoBulkAll r
def uptoBulkEntries {H : Type} : List (Lit × DataW H) → Nat
  | [] => 0
  | x :: r => uptoBulkEntry x + uptoBulkEntries r
def uptoBulkEntry {H : Type} : Lit × DataW H → Nat
  | (.string bytes, d) => bytes.length + uptoBulk d + 1
  | (_, d) => uptoBulk d + 1
 end
def uptoSmall : (H : Type) → List (DataW H) → Bool := fun _ ds => decide (uptoBulkAll ds ≤ 1048576)
def OpenSpec.upto (s : _root_.Go.ChangeSpec) : _root_.Go.OpenSpec := { _root_.Go.OpenSpec.ofChange s with cond := some uptoSmall }

/-- 'concordancelaw13.WalkLong', WHERE WHAT IT READS IS OF BULK AT MOST 1048576: true; the input reads as it did. -/
def walkLongUptoRow : OpenClaim := { program := "ytjpoebmjfedecaa", sum := "b553a84ead01a0ad132fcf1a4dfc15933f2674dfd216e8d831cd33ea21a6890f", func := "concordance/concordancelaw13.WalkLong", spec := "walkLong", unfollowed := true, recurses := true, apart := false, narrowed := true }
def WalkLongUptoSaid : Prop := walkLongUptoRow.holds Try.pinned (OpenSpec.upto walkLongSpec)

/-- 'concordancelaw13.WalkPlaces', WHERE WHAT IT READS IS OF BULK AT MOST 1048576: true; the input reads as it did. -/
def walkPlacesUptoRow : OpenClaim := { program := "ytjpoebmjfedecaa", sum := "b553a84ead01a0ad132fcf1a4dfc15933f2674dfd216e8d831cd33ea21a6890f", func := "concordance/concordancelaw13.WalkPlaces", spec := "walkPlaces", unfollowed := true, recurses := true, apart := false, narrowed := true }
def WalkPlacesUptoSaid : Prop := walkPlacesUptoRow.holds Try.pinned (OpenSpec.upto walkPlacesSpec)

/-- 'concordancelaw13.WalkFrom', WHERE WHAT IT READS IS OF BULK AT MOST 1048576: true; the input reads as it did. -/
def walkFromUptoRow : OpenClaim := { program := "ytjpoebmjfedecaa", sum := "b553a84ead01a0ad132fcf1a4dfc15933f2674dfd216e8d831cd33ea21a6890f", func := "concordance/concordancelaw13.WalkFrom", spec := "walkFrom", unfollowed := true, recurses := true, apart := false, narrowed := true }
def WalkFromUptoSaid : Prop := walkFromUptoRow.holds Try.pinned (OpenSpec.upto walkFromSpec)

/-- 'concordancelaw14.FmRuns', WHERE WHAT IT READS IS OF BULK AT MOST 1048576: true; the input reads as it did. -/
def fmRunsUptoRow : OpenClaim := { program := "ytjpoebmjfedecaa", sum := "b553a84ead01a0ad132fcf1a4dfc15933f2674dfd216e8d831cd33ea21a6890f", func := "concordance/concordancelaw14.FmRuns", spec := "fmRuns", unfollowed := true, recurses := true, apart := false, narrowed := true }
def FmRunsUptoSaid : Prop := fmRunsUptoRow.holds Try.pinned (OpenSpec.upto fmRunsSpec)

/-- 'concordancelaw14.FmPieces', WHERE WHAT IT READS IS OF BULK AT MOST 1048576: true; the input reads as it did. -/
def fmPiecesUptoRow : OpenClaim := { program := "ytjpoebmjfedecaa", sum := "b553a84ead01a0ad132fcf1a4dfc15933f2674dfd216e8d831cd33ea21a6890f", func := "concordance/concordancelaw14.FmPieces", spec := "fmPieces", unfollowed := true, recurses := true, apart := false, narrowed := true }
def FmPiecesUptoSaid : Prop := fmPiecesUptoRow.holds Try.pinned (OpenSpec.upto fmPiecesSpec)

/-- 'concordancelaw14.FmHits', WHERE WHAT IT READS IS OF BULK AT MOST 1048576: true; the input reads as it did. -/
def fmHitsUptoRow : OpenClaim := { program := "ytjpoebmjfedecaa", sum := "b553a84ead01a0ad132fcf1a4dfc15933f2674dfd216e8d831cd33ea21a6890f", func := "concordance/concordancelaw14.FmHits", spec := "fmHits", unfollowed := true, recurses := true, apart := false, narrowed := true }
def FmHitsUptoSaid : Prop := fmHitsUptoRow.holds Try.pinned (OpenSpec.upto fmHitsSpec)

/-- 'concordancelaw14.FmTells', WHERE WHAT IT READS IS OF BULK AT MOST 1048576: true; the input reads as it did. -/
def fmTellsUptoRow : OpenClaim := { program := "ytjpoebmjfedecaa", sum := "b553a84ead01a0ad132fcf1a4dfc15933f2674dfd216e8d831cd33ea21a6890f", func := "concordance/concordancelaw14.FmTells", spec := "fmTells", unfollowed := true, recurses := true, apart := false, narrowed := true }
def FmTellsUptoSaid : Prop := fmTellsUptoRow.holds Try.pinned (OpenSpec.upto fmTellsSpec)

end Rows
end Go.Proofs.Ytjpoebmjfedecaa
