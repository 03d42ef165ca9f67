/-
  The statement NamesNumbers: its walk.
-/
import Derived.WalkKit
import Derived.WalkSpells
import Derived.WalkLawsBesides
import Derived.Deep.QuietTactic
import Derived.BigQuiet
import Derived.IntWalk
import Derived.RegionTactic
import Derived.Lib.Hide
import Derived.Outline
import Derived.Deep.OwnRows
import Derived.Test.YtaoinbjcbdnblaaDoorProg
namespace Go.Proofs.YtaoinbjcbdnblaaDoor
open Go.RowKit

theorem below_drewN {B : Nat} {a w : World} (h : Below B a w) (n : Nat) : Below B a (w.drewN n) := ⟨h.os, h.tape, h.output, h.size, h.block⟩

set_option maxRecDepth 100000 in
theorem err65 (w : World) : Calls Tryd.prog 5 #[.int .i64 65] w fun e w' => e = .returned (.string ⟨#[101, 114, 114, 111, 114, 32, 54, 53]⟩) ∧ w = w' := by
  go_enter Tryd.func5, Tryd.ntmps5
  go_wp2
  go_ret
  exact ⟨rfl, rfl⟩
theorem err0 (w : World) : Calls Tryd.prog 5 #[.int .i64 0] w fun e w' => e = .returned (.string ⟨#[101, 114, 114, 111, 114, 32, 48]⟩) ∧ w = w' := by
  go_enter Tryd.func5, Tryd.ntmps5
  go_wp2
  go_ret
  exact ⟨rfl, rfl⟩
def nums : List Int := [0, 1, 2, 3, 4, 5, 9, 10, 11, 12, 13, 14, 15, 50, 51, 65, 2000, 100, 500, 300, 50, 64, 1099511627776, 1, 2, 1, 2, 3, 4, 1, 2, 3, 4, 5, 6, 7, 8, 9, 10, 11, 12, 13, 14, 15, 16, 17]
def twice (l : List Int) : List Value := l.flatMap fun v => [.int .i64 v, .int .i64 v]
theorem twice_at (l : List Int) : ∀ i, i < l.length → (twice l)[2 * i]? = some (.int .i64 (l.getD i 0)) ∧ (twice l)[2 * i + 1]? = some (.int .i64 (l.getD i 0)) := by
  induction l with
  | nil => intro i hi; simp at hi
  | cons v l ih =>
    intro i hi
    have e : twice (v :: l) = .int .i64 v :: .int .i64 v :: twice l := rfl
    rw [e]
    cases i with
    | zero => exact ⟨rfl, rfl⟩
    | succ i =>
      have h := ih i (by simpa using hi)
      rw [show 2 * (i + 1) = 2 * i + 1 + 1 by omega]
      simpa using h
theorem nums_len : nums.length = 46 := rfl
def box (T : Nat) : Obj := .cells (twice nums).toArray T
theorem box_at (w : World) (i : Nat) (hi : i < 46) (T : Nat) : (w.alloc (box T)).cell? ⟨w.heap.size, 2 * i, none⟩ = some (.int .i64 (nums.getD i 0)) ∧ (w.alloc (box T)).cell? ⟨w.heap.size, 2 * i + 1, none⟩ = some (.int .i64 (nums.getD i 0)) := by
  have h := twice_at nums i hi
  have hr := World.rowIs_alloc w (twice nums).toArray T (fun j => (twice nums).getD j undef) (fun j hj => by
    rw [List.getD_eq_getElem?_getD]; simp at hj; simp [hj])
  have hl : (twice nums).length = 92 := rfl
  have e : ∀ j, j < 92 → (w.alloc (box T)).cell? ⟨w.heap.size, j, none⟩ = (twice nums)[j]? := fun j hj => by
    refine (hr.cell (i := j) (by simpa [hl] using hj)).trans ?_
    rw [List.getD_eq_getElem?_getD, List.getElem?_eq_getElem (by omega)]; rfl
  rw [e _ (by omega), e _ (by omega)]
  exact h
set_option maxRecDepth 100000 in
set_option maxHeartbeats 4000000 in
theorem all_any (w : World) : Calls Tryd.prog 4 #[] w fun e w' => e = .returned (.slice (some ⟨w.heap.size, 0, none⟩) 46 46) ∧ w' = w.alloc (box 25) := by
  go_enter Tryd.func4, Tryd.ntmps4
  go_wp2
  go_ret
  exact ⟨rfl, rfl⟩
attribute [irreducible] nums twice box
theorem ixP (b k : Nat) (hk : k < 46) (W : World) : (Instr.indexAt 22 (.slice (some ⟨b, 0, none⟩) 46 46) (.int .i64 (k : Int))).run Tryd.prog W = .ok (.pointer (some ⟨b, 2 * k, none⟩)) W := by
  rw [run_indexAt_slice _ _ _ _ _ _ _ Tryd.underlying22, if_pos (by omega), show (sizeOf (Tryd.prog.elem 22)).run Tryd.prog W = .ok 2 W from by kernel_rfl]
  simp [Addr.add, Nat.mul_comm]
  intro h
  omega
set_option maxHeartbeats 1000000 in
theorem names_walk (w : World) : Calls Tryd.prog 3 #[] w fun e w' => e = .returned (.bool true) ∧ Below w.heap.size w w' := by
  have HB : Hid (Below w.heap.size w (w.alloc (box 25))) := (Below.refl _ _).alloc (Nat.le_refl _) _
  have HC := Lib.hid (fun i hi => box_at w i hi 25)
  go_enter Tryd.func3, Tryd.ntmps3
  go_wp2_with (go_at_call 4; refine (all_any _).mono ?_; rintro e w1 ⟨rfl, hw1⟩; have HW1 := Lib.hid hw1; clear hw1)
  rw [← HW1.out] at HB HC
  clear HW1
  go_loopw [2] (fun i wr => ∃ k : Nat, k ≤ 46 ∧ i = .int .i64 k ∧ ∃ j, wr = w1.drewN j) (fun i _ => 46 - (intOf i).toNat)
  case atStart => exact ⟨0, by omega, rfl, 0, rfl⟩
  case round =>
    obtain ⟨k, hk, rfl, j, rfl⟩ := hrel
    by_cases hlt : (k : Int) < 46
    · have hix := ixP w.heap.size k (by omega)
      obtain ⟨d1, d2⟩ := HC.out k (by omega)
      generalize nums.getD k 0 = x at *
      go_wp2
      go_quiet (fail)
      go_wp2
      go_roundw
      case rel => exact ⟨k + 1, by omega, by go_num, _, rfl⟩
      case measure => simp [intOf]; omega
    · go_wp2_with (first
        | (go_at_call 5; (with_reducible refine (err65 _).mono ?_); rintro e w' ⟨rfl, rfl⟩)
        | (go_at_call 5; (with_reducible refine (err0 _).mono ?_); rintro e w' ⟨rfl, rfl⟩))
      go_ret
      exact ⟨rfl, below_drewN HB.out _⟩
end Go.Proofs.YtaoinbjcbdnblaaDoor
