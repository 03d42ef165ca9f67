/-
  Bytes of the disk's statements: so many bytes by a number.
-/
import Derived.Test.YtelndbjjkhlacaaDkAwake
namespace Go.Proofs.Ytelndbjjkhlacaa
open Go.RowKit Go.Maps

def bysL (n long : Nat) : List Nat := (List.range long).map fun i => (n + 3 * i) % 256
theorem bysL_len (n long : Nat) : (bysL n long).length = long := by simp [bysL]
theorem bysL_byte (n long : Nat) : ∀ c ∈ bysL n long, c < 256 := by
  intro c hc
  obtain ⟨i, _, rfl⟩ := List.mem_map.1 hc
  exact Nat.mod_lt _ (by omega)
theorem bysL_at (n long k : Nat) (h : k < long) : (bysL n long).getD k 0 = (n + 3 * k) % 256 := by simp [bysL, List.getD_eq_getElem?_getD, h]
attribute [irreducible] bysL
theorem info_u84 : (Try.prog.info? 5).map (fun i => (i.zero, i.size, i.bytes)) = some (some (.int .u8 0), 1, 1) := by kernel_rfl
theorem size_u84 (w : World) : (sizeOf (Try.prog.elem 28)).run Try.prog w = .ok 1 w := by kernel_rfl
theorem make_u84 (N : Nat) (h : N ≤ 1000000) : ∀ W : World, (Instr.makeSlice 28 (.int .i64 (N : Int)) (.int .i64 (N : Int))).run Try.prog W = .ok (.slice (some ⟨W.heap.size, 0, none⟩) N N) (W.alloc (.cells (madeCells #[.int .u8 0] N) 5)) := by
  intro W
  obtain ⟨i0, hi, hz0, hz1, hz2⟩ := info_parts info_u84
  have := run_make (P := Try.prog) W 28 5 i0 _ Try.underlying28 hi hz0 .i64 .i64 N N (by omega) (by omega) (by rw [hz2]; omega) (by omega)
  rw [hz1] at this
  simpa [Value.cells] using this
set_option maxRecDepth 100000 in
set_option maxHeartbeats 1000000 in
theorem bytes4_any (w : World) (n long : Nat) (hn : n ≤ 1000) (hl : long ≤ 2000) :
    Calls Try.prog 13 #[.int .i64 (n : Int), .int .i64 (long : Int)] w fun e w' => e = .returned (.string (sB (bysL n long))) ∧ Below w.heap.size w w' := by
  have hmk := make_u84 long (by omega)
  have HM0 := Lib.hid (World.rowIs_made w (.int .u8 0) long 5)
  have hB0 : Below w.heap.size w (w.alloc (.cells (madeCells #[.int .u8 0] long) 5)) := (Below.refl _ w).alloc (Nat.le_refl _) _
  have HB0 := Lib.hid hB0
  have hiy := run_ix (P := Try.prog) 28 (by kernel_rfl) size_u84 (some ⟨w.heap.size, 0, none⟩) long long (.inr rfl) .i64
  simp only [bOf, oOf, Option.map_some, Option.getD_some, Nat.zero_add] at hiy
  have HIY := Lib.hid hiy
  clear hB0 hiy
  go_enter Try.func13, Try.ntmps13
  go_wp2
  clear hmk
  go_loopw [6, 11] (fun _ v11 wr => ∃ i : Nat, i ≤ long ∧ v11 = .int .i64 (i : Int) ∧ wr.rowIs w.heap.size 5 long (fun j => if j < i then .int .u8 (((n + 3 * j) % 256 : Nat) : Int) else .int .u8 0) ∧ Below w.heap.size w wr) (fun _ v11 _ => long - (intOf v11).toNat)
  case atStart => exact ⟨0, Nat.zero_le _, rfl, HM0.out.congr fun j _ => by simp, HB0.out⟩
  case round =>
    obtain ⟨i, hi, rfl, hrow, hbel⟩ := hrel
    have HROW := Lib.hid hrow
    have HBL := Lib.hid hbel
    by_cases hlt : i < long
    · have d2 := hrow.cell (i := i) hlt
      rw [if_neg (by omega)] at d2
      have d3 := hrow.frozen i
      have hy := fun W => HIY.out W i hlt
      have y1 : IntKind.i64.wrap (3 * (i : Int)) = ((3 * i : Nat) : Int) := by rw [show (3 : Int) * (i : Int) = ((3 * i : Nat) : Int) by omega]; exact IntWalk.i64_in _ (by omega)
      have y2 : IntKind.i64.wrap ((n : Int) + ((3 * i : Nat) : Int)) = ((n + 3 * i : Nat) : Int) := by rw [show (n : Int) + ((3 * i : Nat) : Int) = ((n + 3 * i : Nat) : Int) by omega]; exact IntWalk.i64_in _ (by omega)
      obtain ⟨m3, hm3⟩ : ∃ m3, m3 = 3 * i := ⟨_, rfl⟩
      rw [← hm3] at y1 y2
      obtain ⟨m4, hm4⟩ : ∃ m4, m4 = n + m3 := ⟨_, rfl⟩
      rw [← hm4] at y2
      have y3 : IntKind.u8.wrap (m4 : Int) = ((m4 % 256 : Nat) : Int) := by
        show (m4 : Int) % 256 = _
        omega
      obtain ⟨m5, hm5⟩ : ∃ m5, m5 = m4 % 256 := ⟨_, rfl⟩
      rw [← hm5] at y3
      have HMM : Hid (m5 = (n + 3 * i) % 256) := by show _ = _; rw [hm5, hm4, hm3]
      clear hrow hbel hm3 hm4 hm5
      go_wp2
      go_roundw
      case rel => exact ⟨i + 1, by omega, by go_num, (HROW.out.set i _).congr fun j hj => by
        by_cases ej : j = i
        · subst ej; rw [if_pos rfl, if_pos (by omega), ← HMM.out]
        · rw [if_neg ej]
          by_cases e2 : j < i
          · rw [if_pos e2, if_pos (by omega)]
          · rw [if_neg e2, if_neg (by omega)], HBL.out.setCell (p := ⟨w.heap.size, i, none⟩) (Nat.le_refl _) _⟩
      case measure => simp [intOf]; omega
    · obtain rfl : i = long := by omega
      have hrw : Row wr (some ⟨w.heap.size, 0, none⟩) (bysL n i).length (byteV (bysL n i)) := (Row.of_row (m := i) hrow (Nat.le_refl _)).congr (fun k hk => by
        unfold byteV
        rw [if_pos hk, bysL_at n i k hk]) |>.take (by rw [bysL_len]; exact Nat.le_refl _)
      have hcv := conv_str wr (some ⟨w.heap.size, 0, none⟩) (bysL n i) i hrw
      rw [bysL_len] at hcv
      clear hrow hbel hrw HROW hlt hi
      go_wp2
      go_ret
      exact ⟨rfl, HBL.out⟩
end Go.Proofs.Ytelndbjjkhlacaa
