/-
  What the document fixes of indexes: concordancelaw12.awake.
-/
import Derived.Test.YtjpoebmjfedecaaGreatBackRange
import Derived.Test.YtjpoebmjfedecaaGreatBwtAwake
import Derived.Lib.SlBytesConst
namespace Go.Proofs.YtjpoebmjfedecaaGreat
open Go.RowKit

theorem baA_bwt : bwtOf baA = [98, 98, 99, 0, 0] := by
  have e : saOf baA = [2, 4, 1, 3, 0] := (saOf_sa baA).one (by have := baA_sa; exact this)
  unfold bwtOf
  rw [e]; rfl
theorem baA_st : stC [98, 98, 99, 0, 0] 1 = 2 := by unfold stC below; rfl
theorem baA_bk : bkR [98, 98, 99, 0, 0] [97] = (2, 4) := by
  rw [bkR_cons, bkR_nil]
  have e1 : stC [98, 98, 99, 0, 0] (97 + 1) = 2 := by unfold stC below; rfl
  have e2 : rkC [98, 98, 99, 0, 0] (97 + 1) 0 = 0 := rkC_zero _ _
  have e3 : rkC [98, 98, 99, 0, 0] (97 + 1) 5 = 2 := by unfold rkC inK; rfl
  simp only [e1, e2]
  show (2, 2 + rkC [98, 98, 99, 0, 0] (97 + 1) 5) = _
  rw [e3]
end Go.Proofs.YtjpoebmjfedecaaGreat
