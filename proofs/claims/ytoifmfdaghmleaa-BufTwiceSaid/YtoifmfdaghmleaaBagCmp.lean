/-
  cmp.Compare at the sets' elements, and the sets' closures over it.
-/
import Derived.Test.YtoifmfdaghmleaaBagOrd
import Derived.Test.YtoifmfdaghmleaaProg
import Derived.BigQuiet
import Derived.WalkKit
namespace Go.Proofs.Ytoifmfdaghmleaa
open Go.RowKit

theorem nanI (x : Int) (w : World) : Calls Try.prog 104 #[.int .i64 x] w fun e w' => e = .returned (.bool false) ∧ w' = w := by
  go_enter Try.func104, Try.ntmps104
  go_wp2
  go_ret
  exact ⟨by simp, rfl⟩
set_option maxHeartbeats 1000000 in
theorem cmpI (x y : Int) (w : World) : Calls Try.prog 69 #[.int .i64 x, .int .i64 y] w fun e w' => e = .returned (.int .i64 (cmpf ltI x y)) ∧ w' = w := by
  have HN := Lib.hid (fun z W => nanI z W)
  go_enter Try.func69, Try.ntmps69
  go_wp2_with (go_at_call 104; refine (HN.out _ _).mono ?_; rintro e w' ⟨rfl, hw⟩; rw [hw])
  all_goals (go_ret; refine ⟨?_, rfl⟩; unfold cmpf ltI; (repeat' split) <;> first | rfl | (exfalso; simp_all; done) | (exfalso; simp_all; omega; done) | skip)
theorem nanS (x : ByteArray) (w : World) : Calls Try.prog 109 #[.string x] w fun e w' => e = .returned (.bool false) ∧ w' = w := by
  go_enter Try.func109, Try.ntmps109
  go_wp2
  go_ret
  exact ⟨by simp, rfl⟩
set_option maxHeartbeats 1000000 in
theorem cmpS (x y : ByteArray) (w : World) : Calls Try.prog 78 #[.string x, .string y] w fun e w' => e = .returned (.int .i64 (cmpf ltT x y)) ∧ w' = w := by
  have HN := Lib.hid (fun z W => nanS z W)
  go_enter Try.func78, Try.ntmps78
  go_wp2_with (go_at_call 109; refine (HN.out _ _).mono ?_; rintro e w' ⟨rfl, hw⟩; rw [hw])
  all_goals (go_ret; refine ⟨?_, rfl⟩; unfold cmpf ltT; (repeat' split) <;> first | rfl | (exfalso; simp_all; done) | (exfalso; simp_all; omega; done) | (exfalso; (have e : x = y := ordT.tot x y (by unfold ltT; simp_all) (by unfold ltT; simp_all)); subst e; simp_all))
/-- the set's closure tells whether two are one -/
theorem eqcI (x y : Int) (W : World) : Calls Try.prog 71 #[.int .i64 x, .int .i64 y] W fun e w' => e = .returned (.bool (decide (x = y))) ∧ ∃ q, w' = W.drewN q := by
  have HC := Lib.hid (cmpI x y W)
  have HE : Hid ((cmpf ltI x y == (0 : Int)) = decide (x = y)) := by
    show _ = _
    by_cases h : x = y
    · rw [decide_eq_true h, (cmpf_zero ordI x y).2 h]; rfl
    · rw [decide_eq_false h]
      exact beq_false_of_ne (fun e => h ((cmpf_zero ordI x y).1 e))
  generalize cmpf ltI x y = r at *
  go_enter Try.func71, Try.ntmps71
  go_wp2_with (go_at_call 69; refine HC.out.mono ?_; rintro e w' ⟨rfl, hw⟩; rw [hw])
  go_ret
  exact ⟨by rw [← HE.out]; simp, 0, rfl⟩
/-- the set's closure tells whether two are one -/
theorem eqcS (x y : ByteArray) (W : World) : Calls Try.prog 80 #[.string x, .string y] W fun e w' => e = .returned (.bool (decide (x = y))) ∧ ∃ q, w' = W.drewN q := by
  have HC := Lib.hid (cmpS x y W)
  have HE : Hid ((cmpf ltT x y == (0 : Int)) = decide (x = y)) := by
    show _ = _
    by_cases h : x = y
    · rw [decide_eq_true h, (cmpf_zero ordT x y).2 h]; rfl
    · rw [decide_eq_false h]
      exact beq_false_of_ne (fun e => h ((cmpf_zero ordT x y).1 e))
  generalize cmpf ltT x y = r at *
  go_enter Try.func80, Try.ntmps80
  go_wp2_with (go_at_call 78; refine HC.out.mono ?_; rintro e w' ⟨rfl, hw⟩; rw [hw])
  go_ret
  exact ⟨by rw [← HE.out]; simp, 0, rfl⟩
end Go.Proofs.Ytoifmfdaghmleaa
