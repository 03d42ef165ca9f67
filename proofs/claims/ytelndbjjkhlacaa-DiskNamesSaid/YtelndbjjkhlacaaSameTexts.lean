/-
  concordanceref9.SameTexts: two rows of the same texts are told as the same.
-/
import Derived.Test.YtelndbjjkhlacaaDkList
namespace Go.Proofs.Ytelndbjjkhlacaa
open Go.RowKit Go.Sort

theorem size_str4 (w : World) : (sizeOf (Try.prog.elem 45)).run Try.prog w = .ok 1 w := by kernel_rfl
set_option maxHeartbeats 400000 in
theorem samet_yes (w : World) (a b : Option Addr) (L : List (List UInt8)) (ca cb : Nat) (hn : L.length ≤ 1000) (ha : Row w a L.length (txtV L)) (hb : Row w b L.length (txtV L)) :
    Calls Try.prog 30 #[.slice a L.length ca, .slice b L.length cb] w fun e w' => e = .returned (.bool true) ∧ ∃ k, w' = w.drewN k := by
  have hix := run_ix (P := Try.prog) 45 (by kernel_rfl) size_str4 a L.length ca ha.at_ .i64
  have hiy := run_ix (P := Try.prog) 45 (by kernel_rfl) size_str4 b L.length cb hb.at_ .i64
  have HA := Lib.hid ha
  have HB := Lib.hid hb
  obtain ⟨n, hL⟩ : ∃ n, n = L.length := ⟨_, rfl⟩
  rw [← hL] at hn HA HB hix hiy ⊢
  clear ha hb hL
  unfold txtV at HA HB
  go_enter Try.func30, Try.ntmps30
  go_wp2
  go_loopw [5] (fun i wr => ∃ k : Nat, k ≤ n ∧ i = .int .i64 k ∧ ∃ j, wr = w.drewN j) (fun i _ => n - (intOf i).toNat)
  case atStart => exact ⟨0, Nat.zero_le _, rfl, 0, rfl⟩
  case round =>
    obtain ⟨k, hk, rfl, j, rfl⟩ := hrel
    by_cases hlt : k < n
    · have d1 := HA.out.cell k hlt
      have d2 := HB.out.cell k hlt
      generalize (⟨(L.getD k []).toArray⟩ : ByteArray) = x at d1 d2
      go_wp2
      go_quiet (fail)
      go_wp2
      go_roundw
      case rel => exact ⟨k + 1, by omega, by go_num, _, rfl⟩
      case measure => simp [intOf]; omega
    · have hd : decide ((k : Int) < n) = false := by simp; omega
      go_wp2
      go_ret
      exact ⟨rfl, _, rfl⟩
end Go.Proofs.Ytelndbjjkhlacaa
