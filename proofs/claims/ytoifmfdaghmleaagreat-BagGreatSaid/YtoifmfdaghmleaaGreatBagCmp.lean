/-
  cmp.Compare at the sets' elements, and the sets' closures over it.
-/
import Derived.Test.YtoifmfdaghmleaaGreatBagOrd
import Derived.Test.YtoifmfdaghmleaaGreatProg
import Derived.BigQuiet
import Derived.WalkKit
namespace Go.Proofs.YtoifmfdaghmleaaGreat
open Go.RowKit

theorem nanI (x : Int) (w : World) : Calls Tryz.prog 56 #[.int .i64 x] w fun e w' => e = .returned (.bool false) ∧ w' = w := by
  go_enter Tryz.func56, Tryz.ntmps56
  go_wp2
  go_ret
  exact ⟨by simp, rfl⟩
set_option maxHeartbeats 1000000 in
theorem cmpI (x y : Int) (w : World) : Calls Tryz.prog 35 #[.int .i64 x, .int .i64 y] w fun e w' => e = .returned (.int .i64 (cmpf ltI x y)) ∧ w' = w := by
  have HN := Lib.hid (fun z W => nanI z W)
  go_enter Tryz.func35, Tryz.ntmps35
  go_wp2_with (go_at_call 56; refine (HN.out _ _).mono ?_; rintro e w' ⟨rfl, hw⟩; rw [hw])
  all_goals (go_ret; refine ⟨?_, rfl⟩; unfold cmpf ltI; (repeat' split) <;> first | rfl | (exfalso; simp_all; done) | (exfalso; simp_all; omega; done) | skip)
theorem nanS (x : ByteArray) (w : World) : Calls Tryz.prog 59 #[.string x] w fun e w' => e = .returned (.bool false) ∧ w' = w := by
  go_enter Tryz.func59, Tryz.ntmps59
  go_wp2
  go_ret
  exact ⟨by simp, rfl⟩
set_option maxHeartbeats 1000000 in
theorem cmpS (x y : ByteArray) (w : World) : Calls Tryz.prog 42 #[.string x, .string y] w fun e w' => e = .returned (.int .i64 (cmpf ltT x y)) ∧ w' = w := by
  have HN := Lib.hid (fun z W => nanS z W)
  go_enter Tryz.func42, Tryz.ntmps42
  go_wp2_with (go_at_call 59; refine (HN.out _ _).mono ?_; rintro e w' ⟨rfl, hw⟩; rw [hw])
  all_goals (go_ret; refine ⟨?_, rfl⟩; unfold cmpf ltT; (repeat' split) <;> first | rfl | (exfalso; simp_all; done) | (exfalso; simp_all; omega; done) | (exfalso; (have e : x = y := ordT.tot x y (by unfold ltT; simp_all) (by unfold ltT; simp_all)); subst e; simp_all))
theorem nanU (x : Int) (w : World) : Calls Tryz.prog 48 #[.int .u64 x] w fun e w' => e = .returned (.bool false) ∧ w' = w := by
  go_enter Tryz.func48, Tryz.ntmps48
  go_wp2
  go_ret
  exact ⟨by simp, rfl⟩
set_option maxHeartbeats 1000000 in
theorem cmpU (x y : Int) (w : World) : Calls Tryz.prog 23 #[.int .u64 x, .int .u64 y] w fun e w' => e = .returned (.int .i64 (cmpf ltI x y)) ∧ w' = w := by
  have HN := Lib.hid (fun z W => nanU z W)
  go_enter Tryz.func23, Tryz.ntmps23
  go_wp2_with (go_at_call 48; refine (HN.out _ _).mono ?_; rintro e w' ⟨rfl, hw⟩; rw [hw])
  all_goals (go_ret; refine ⟨?_, rfl⟩; unfold cmpf ltI; (repeat' split) <;> first | rfl | (exfalso; simp_all; done) | (exfalso; simp_all; omega; done) | skip)
/-- the set's closure tells whether two are one -/
theorem eqcI (x y : Int) (W : World) : Calls Tryz.prog 37 #[.int .i64 x, .int .i64 y] W fun e w' => e = .returned (.bool (decide (x = y))) ∧ ∃ q, w' = W.drewN q := by
  have HC := Lib.hid (cmpI x y W)
  have HE : Hid ((cmpf ltI x y == (0 : Int)) = decide (x = y)) := by
    show _ = _
    by_cases h : x = y
    · rw [decide_eq_true h, (cmpf_zero ordI x y).2 h]; rfl
    · rw [decide_eq_false h]
      exact beq_false_of_ne (fun e => h ((cmpf_zero ordI x y).1 e))
  generalize cmpf ltI x y = r at *
  go_enter Tryz.func37, Tryz.ntmps37
  go_wp2_with (go_at_call 35; refine HC.out.mono ?_; rintro e w' ⟨rfl, hw⟩; rw [hw])
  go_ret
  exact ⟨by rw [← HE.out]; simp, 0, rfl⟩
/-- the set's closure tells whether two are one -/
theorem eqcS (x y : ByteArray) (W : World) : Calls Tryz.prog 44 #[.string x, .string y] W fun e w' => e = .returned (.bool (decide (x = y))) ∧ ∃ q, w' = W.drewN q := by
  have HC := Lib.hid (cmpS x y W)
  have HE : Hid ((cmpf ltT x y == (0 : Int)) = decide (x = y)) := by
    show _ = _
    by_cases h : x = y
    · rw [decide_eq_true h, (cmpf_zero ordT x y).2 h]; rfl
    · rw [decide_eq_false h]
      exact beq_false_of_ne (fun e => h ((cmpf_zero ordT x y).1 e))
  generalize cmpf ltT x y = r at *
  go_enter Tryz.func44, Tryz.ntmps44
  go_wp2_with (go_at_call 42; refine HC.out.mono ?_; rintro e w' ⟨rfl, hw⟩; rw [hw])
  go_ret
  exact ⟨by rw [← HE.out]; simp, 0, rfl⟩
end Go.Proofs.YtoifmfdaghmleaaGreat
