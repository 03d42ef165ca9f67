/-
  concordanceref9.SameInts: two rows of the same numbers are told as the same.
-/
import Derived.Test.YtoifmfdaghmleaaCommon
import Derived.Test.YtoifmfdaghmleaaProg
namespace Go.Proofs.Ytoifmfdaghmleaa
open Go.RowKit

theorem size_int (w : World) : (sizeOf (Try.prog.elem 31)).run Try.prog w = .ok 1 w := by kernel_rfl

set_option maxHeartbeats 400000 in
theorem same_yes (w : World) (a b : Option Addr) (n ca cb : Nat) (f : Nat → Int) (hn : n ≤ 1000000000) (ha : Row w a n (fun k => .int .i64 (f k))) (hb : Row w b n (fun k => .int .i64 (f k))) :
    Calls Try.prog 17 #[.slice a n ca, .slice b n cb] w fun e w' => e = .returned (.bool true) ∧ ∃ k, w' = w.drewN k := by
  have hix := run_ix (P := Try.prog) 31 (by kernel_rfl) size_int a n ca ha.at_ .i64
  have hiy := run_ix (P := Try.prog) 31 (by kernel_rfl) size_int b n cb hb.at_ .i64
  have HA := Lib.hid ha
  have HB := Lib.hid hb
  clear ha hb
  go_enter Try.func17, Try.ntmps17
  go_wp2
  go_loopw [5] (fun i wr => ∃ k : Nat, k ≤ n ∧ i = .int .i64 k ∧ ∃ j, wr = w.drewN j) (fun i _ => n - (intOf i).toNat)
  case atStart => exact ⟨0, Nat.zero_le _, rfl, 0, rfl⟩
  case round =>
    obtain ⟨k, hk, rfl, j, rfl⟩ := hrel
    by_cases hlt : k < n
    · have d1 := HA.out.cell k hlt
      have d2 := HB.out.cell k hlt
      go_wp2
      go_quiet (fail)
      go_wp2
      go_roundw
      case rel => exact ⟨k + 1, by omega, by go_num, _, rfl⟩
      case measure => simp [intOf]; omega
    · have hd : decide ((k : Int) < n) = false := by simp; omega
      go_wp2
      go_ret
      exact ⟨rfl, _, rfl⟩
end Go.Proofs.Ytoifmfdaghmleaa
