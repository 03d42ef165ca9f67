/-
  SameHits: two rows of hits that are one.
-/
import Derived.Test.YtoifmfdaghmleaaHitRow
import Derived.Test.YtoifmfdaghmleaaProg
namespace Go.Proofs.Ytoifmfdaghmleaa.Tx
open Go.RowKit

theorem size_hit' (w : World) : (sizeOf (Try.prog.elem 38)).run Try.prog w = .ok 2 w := by kernel_rfl
set_option maxHeartbeats 400000 in
theorem samehits_any (w : World) (a b : Option Addr) (ca cb : Nat) (l : List (Nat × Nat)) (hl : l.length ≤ 1000000) (ha : HRow w a l) (hb : HRow w b l) :
    Calls Try.prog 19 #[.slice a l.length ca, .slice b l.length cb] w fun e w' => e = .returned (.bool true) ∧ ∃ k, w' = w.drewN k := by
  have hix := run_ix2 (P := Try.prog) 38 (by kernel_rfl) size_hit' a l.length ca ha.at_
  have hiy := run_ix2 (P := Try.prog) 38 (by kernel_rfl) size_hit' b l.length cb hb.at_
  have HA := Lib.hid ha
  have HB := Lib.hid hb
  clear ha hb
  go_enter Try.func19, Try.ntmps19
  go_wp2
  go_loopw [5] (fun i wr => ∃ k : Nat, k ≤ l.length ∧ i = .int .i64 k ∧ ∃ j, wr = w.drewN j) (fun i _ => l.length - (intOf i).toNat)
  case atStart => exact ⟨0, Nat.zero_le _, rfl, 0, rfl⟩
  case round =>
    obtain ⟨k, hk, rfl, j, rfl⟩ := hrel
    by_cases hlt : k < l.length
    · have d1 := HA.out.c0 k hlt
      have d2 := HA.out.c1 k hlt
      have d3 := HB.out.c0 k hlt
      have d4 := HB.out.c1 k hlt
      have h1 := fun W => hix W k hlt
      have h2 := fun W => hiy W k hlt
      generalize (l.getD k (0, 0)).1 = x1 at *
      generalize (l.getD k (0, 0)).2 = x2 at *
      go_wp2
      go_quiet (fail)
      go_wp2
      go_roundw
      case rel => exact ⟨k + 1, by omega, by go_num, _, rfl⟩
      case measure => simp [intOf]; omega
    · obtain rfl : k = l.length := by omega
      go_wp2
      go_ret
      exact ⟨rfl, j, rfl⟩
end Go.Proofs.Ytoifmfdaghmleaa.Tx
