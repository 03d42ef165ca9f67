/-
  concordanceref9.SameInts: two rows of the same numbers are told as the same.
-/
import Derived.Test.YtelndbjjkhlacaaCommon
import Derived.Test.YtelndbjjkhlacaaProg
namespace Go.Proofs.Ytelndbjjkhlacaa
open Go.RowKit

theorem size_int (w : World) : (sizeOf (Try.prog.elem 34)).run Try.prog w = .ok 1 w := by kernel_rfl

end Go.Proofs.Ytelndbjjkhlacaa
