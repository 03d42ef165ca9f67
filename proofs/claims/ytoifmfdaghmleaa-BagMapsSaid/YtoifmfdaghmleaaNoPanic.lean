/-
  Where nothing panics a region's end may forget what a panic would have shown of the frame.
-/
import Derived.Test.YtoifmfdaghmleaaCommon
namespace Go.Proofs.Ytoifmfdaghmleaa
open Go.RowKit

/-- no panic: a region's end that hides nothing of the frame where there is one -/
def noPanic (Q : Exit → Act → World → Prop) : Exit → Act → World → Prop
  | .panic _, _, _ => False
  | e, a, w => Q e a w
theorem noPanic_normal {Q : Exit → Act → World → Prop} {a : Act} {w : World} (h : Q .normal a w) : noPanic Q .normal a w := h
theorem wp_noPanic {P : Program} {c : Code} {Q : Exit → Act → World → Prop} {a : Act} {w : World} (h : c.wp P (noPanic Q) a w) : c.wp P Q a w := Code.wp_mono (fun e a w hq => by
  cases e
  case panic => exact hq.elim
  all_goals exact hq) h
end Go.Proofs.Ytoifmfdaghmleaa
