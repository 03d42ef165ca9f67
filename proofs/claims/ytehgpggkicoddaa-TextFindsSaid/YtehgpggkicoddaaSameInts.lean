/-
  concordanceref9.SameInts: two rows of the same numbers are told as the same.
-/
import Derived.Test.YtehgpggkicoddaaCommon
import Derived.Test.YtehgpggkicoddaaProg
namespace Go.Proofs.Ytehgpggkicoddaa
open Go.RowKit

theorem size_int (w : World) : (sizeOf (Try.prog.elem 48)).run Try.prog w = .ok 1 w := by kernel_rfl

end Go.Proofs.Ytehgpggkicoddaa
