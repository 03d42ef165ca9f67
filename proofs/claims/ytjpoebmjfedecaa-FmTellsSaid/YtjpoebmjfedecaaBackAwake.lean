/-
  What the document fixes of indexes: concordancelaw12.awake.
-/
import Derived.Test.YtjpoebmjfedecaaBackRange
import Derived.Test.YtjpoebmjfedecaaBwtAwake
import Derived.Lib.SlBytesConst
namespace Go.Proofs.Ytjpoebmjfedecaa
open Go.RowKit

theorem baA_bwt : bwtOf baA = [98, 98, 99, 0, 0] := by
  have e : saOf baA = [2, 4, 1, 3, 0] := (saOf_sa baA).one (by have := baA_sa; exact this)
  unfold bwtOf
  rw [e]; rfl
theorem baA_st : stC [98, 98, 99, 0, 0] 1 = 2 := by unfold stC below; rfl
theorem baA_bk : bkR [98, 98, 99, 0, 0] [97] = (2, 4) := by
  rw [bkR_cons, bkR_nil]
  have e1 : stC [98, 98, 99, 0, 0] (97 + 1) = 2 := by unfold stC below; rfl
  have e2 : rkC [98, 98, 99, 0, 0] (97 + 1) 0 = 0 := rkC_zero _ _
  have e3 : rkC [98, 98, 99, 0, 0] (97 + 1) 5 = 2 := by unfold rkC inK; rfl
  simp only [e1, e2]
  show (2, 2 + rkC [98, 98, 99, 0, 0] (97 + 1) 5) = _
  rw [e3]
set_option maxRecDepth 100000 in
set_option maxHeartbeats 400000 in
theorem bnew_one (w : World) : Calls Try.prog 41 #[.slice (some ⟨w.heap.size, 0, none⟩) 1 1] (w.alloc (.cells #[.int .u16 98] 110)) fun e w' => e = .returned (.tuple #[.pointer none, .int .i64 3]) ∧ Below w.heap.size w w' := by
  have hb0 : Below w.heap.size w (w.alloc (.cells #[.int .u16 98] 110)) := (Below.refl _ w).alloc (Nat.le_refl _) _
  have HD := Lib.hid (docs_any _ _ 1 [98] (by decide) (Nat.le_trans (stC_le _ _) (by decide)) (syms1 w))
  have HB0 := Lib.hid hb0
  clear hb0
  go_enter Try.func41, Try.ntmps41
  go_wp2_with fail
  refine HD.out.mono ?_
  rintro e w1 (⟨a1, A1, es, rfl, -, hl, -, -, hb1⟩ | ⟨rfl, hg, hb⟩ | ⟨rfl, hg, hno, hb⟩)
  · exact (docs_one es hl).elim
  · rw [great1] at hg; cases hg
  · have HB1 : Hid (Below w.heap.size w w1) := below_next HB0.out hb HB0.out.size
    clear hg hno hb HD
    go_wp2
    go_ret2
    exact ⟨rfl, HB1.out⟩
end Go.Proofs.Ytjpoebmjfedecaa
