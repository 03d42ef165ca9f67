/-
  The helpers of the statements on bits: long, awake, ones, SameInts.
-/
import Derived.Test.YtamonbpgjhhdhaaBitsNew
namespace Go.Proofs.Ytamonbpgjhhdhaa
open Go.RowKit

theorem info_bool : (Try.prog.info? 4).map (fun i => (i.zero, i.size, i.bytes)) = some (some (.bool false), 1, 1) := by kernel_rfl

/-- the k-th bit that long makes of bits f, len of them -/
def lg (f : Nat → Bool) (len k : Nat) : Bool := f (k % len) != (k / 97 % 5 == 2)

theorem snoc_range {α : Type} (g : Nat → α) (k : Nat) : (List.range k).map g ++ [g k] = (List.range (k + 1)).map g := by simp [List.range_succ]

set_option maxHeartbeats 400000 in
theorem long_core (w : World) (a : Option Addr) (len cap : Nat) (f : Nat → Bool) (n : Nat) (hn : n ≤ 20000) (hlen : 0 < len) (hl : len ≤ maxLen) (hr : Row w a len (fun k => .bool (f k))) :
    Calls Try.prog 7 #[.slice a len cap, .int .i64 n] w fun e w' => ∃ v, e = .returned v ∧ w'.ownsRow w.heap.size 4 1 v n ((List.range n).map fun k => .bool (lg f len k)) ∧ Below w.heap.size w w' := by
  have hix := run_ix (P := Try.prog) 22 (by kernel_rfl) size_bool a len cap hr.at_ .i64
  unfold maxLen at hl
  have hb : bOf a < w.heap.size := hr.lt hlen
  have HR := Lib.hid hr
  obtain ⟨i0, hi, hz0, hz1, hz2⟩ := info_parts info_bool
  clear hr
  go_enter Try.func7, Try.ntmps7
  go_wp2
  go_loopw [5, 6] (fun v i wr => ∃ k : Nat, k ≤ n ∧ i = .int .i64 k ∧ wr.ownsRow w.heap.size 4 1 v k ((List.range k).map fun k => .bool (lg f len k)) ∧ Below w.heap.size w wr) (fun _ i _ => n - (intOf i).toNat)
  case atStart => exact ⟨0, Nat.zero_le _, rfl, World.ownsRow_nil _ _ _ _, Below.refl _ _⟩
  case round =>
    rename_i v5 wr
    obtain ⟨k, hk, rfl, hown, hbel⟩ := hrel
    by_cases hlt : k < n
    · obtain ⟨r, er, hrl⟩ : ∃ r : Nat, (k : Int) % (len : Int) = (r : Int) ∧ r < len := ⟨k % len, by simp, Nat.mod_lt _ hlen⟩
      have er' : r = k % len := by have := Int.natCast_emod k len; omega
      have d0 : wr.cell? ⟨bOf a, oOf a + r, none⟩ = some (.bool (f r)) := (hbel.cell (p := ⟨bOf a, oOf a + r, none⟩) hb).trans (HR.out.cell r hrl)
      obtain ⟨c, ec⟩ : ∃ c : Bool, ((k : Int) / 97 % 5 == 2) = c := ⟨_, rfl⟩
      have ec' : lg f len k = (f r != c) := by
        unfold lg
        rw [← ec, er']
        congr 1
        rw [Bool.eq_iff_iff]; simp; omega
      have EC := Lib.hid ec'
      have hs := hbel.size
      have HB := Lib.hid hbel
      have HO := Lib.hid hown
      clear ec' er' hbel hown
      go_wp2_with (at_builtin; refine wpList_append_own _ rfl _ _ 22 rfl w.heap.size 4 i0 (.bool false) 1 1 Try.underlying22 hi hz0 hz1 hz2 rfl (by decide) _ _ _ rfl (HO.out.alloc _) ⟨wr.heap.size, 0, none⟩ 1 1 [.bool (!(f r == c))] rfl rfl (cell_one_new _ _ _) (by simp [Value.oneCell']) (by simp only [maxLen]; omega) (by omega) (by simp; omega) ?_; intro v' w1 hown' hgrow _)
      have hlt' := HO.out.lt
      rw [show (Value.bool !f r == c) = Value.bool (lg f len k) by rw [EC.out]; rfl, snoc_range] at hown'
      have HO1 := Lib.hid hown'
      have HB1 : Hid (Below w.heap.size w w1) := (HB.out.alloc hs _).grown hgrow (by simp; omega) (fun g hg => (hlt' g hg).1)
      clear hown' hgrow hlt'
      go_wp2
      go_roundw
      case rel => exact ⟨k + 1, by omega, rfl, HO1.out, HB1.out⟩
      case measure => simp [intOf]; omega
    · obtain rfl : k = n := by omega
      have HB := Lib.hid hbel
      have HO := Lib.hid hown
      clear hbel hown
      go_wp2
      go_ret
      exact ⟨_, rfl, HO.out, HB.out⟩
theorem long_zero (w : World) (a : Option Addr) (cap : Nat) (n : Nat) (hn : n ≤ 20000) :
    Calls Try.prog 7 #[.slice a 0 cap, .int .i64 n] w fun e w' => e = .returned (.slice none 0 0) ∧ w' = w := by
  go_enter Try.func7, Try.ntmps7
  go_wp2
  refine wp_loop_rounds 1 ?_
  rw [rounds_succ]
  by_cases h : (0 : Int) < n
  · go_wp2
    go_ret
    exact ⟨rfl, rfl⟩
  · go_wp2
    go_ret
    exact ⟨rfl, rfl⟩

theorem long_any (w : World) (a : Option Addr) (len cap : Nat) (f : Nat → Bool) (n : Nat) (hn : n ≤ 20000) (hl : len ≤ maxLen) (hr : Row w a len (fun k => .bool (f k))) :
    Calls Try.prog 7 #[.slice a len cap, .int .i64 n] w fun e w' => ∃ a' N cap', e = .returned (.slice a' N cap') ∧ N = (if len = 0 then 0 else n) ∧ N ≤ cap' ∧ Row w' a' N (fun k => .bool (lg f len k)) ∧ Below w.heap.size w w' := by
  by_cases h : len = 0
  · subst h
    refine (long_zero w a cap n hn).mono ?_
    rintro e w' ⟨rfl, rfl⟩
    exact ⟨none, 0, 0, rfl, rfl, Nat.le_refl _, Row.nil _ _ _, Below.refl _ _⟩
  · refine (long_core w a len cap f n hn (by omega) hl hr).mono ?_
    rintro e w' ⟨v, rfl, hown, hb⟩
    obtain ⟨a', cap', rfl, hc, hrow, _⟩ := Row.of_owns hown
    refine ⟨a', n, cap', rfl, by rw [if_neg h], hc, hrow.congr fun k hk => ?_, hb⟩
    simp [List.getD_eq_getElem?_getD, hk]

set_option maxHeartbeats 400000 in
theorem awake_any (w : World) : Calls Try.prog 14 #[] w fun e w' => e = .returned (.bool true) ∧ Below w.heap.size w w' := by
  have HN := fun W (hr : Row W (some ⟨w.heap.size, 0, none⟩) 3 (fun k => .bool (k != 1))) => Lib.hid (new_any W (some ⟨w.heap.size, 0, none⟩) 3 3 (fun k => k != 1) (by omega) hr)
  have hr : Row (w.alloc (.cells #[.bool true, .bool false, .bool true] 4)) (some ⟨w.heap.size, 0, none⟩) 3 (fun k => .bool (k != 1)) := by
    have h := World.rowIs_alloc w #[.bool true, .bool false, .bool true] 4 (fun k => .bool (k != 1)) (by
      intro i hi
      match i, hi with
      | 0, _ => rfl
      | 1, _ => rfl
      | 2, _ => rfl)
    exact Row.of_row h (Nat.le_refl _)
  have HR := Lib.hid hr
  obtain ⟨p, hp⟩ : ∃ p, p = cut 3 (fun k => k != 1) := ⟨_, rfl⟩
  rw [← hp] at HN
  have e1 : cnt p 2 = 1 := by subst hp; decide +kernel
  have e2 : sel p 3 1 = 2 := by subst hp; decide +kernel
  have e3 : sel (neg 3 p) 3 0 = 1 := by subst hp; decide +kernel
  have e4 : cnt (neg 3 p) 3 = 1 := by subst hp; decide +kernel
  have e5 : sel p 3 2 = -1 := by subst hp; decide +kernel
  clear hr hp
  go_enter Try.func14, Try.ntmps14
  go_wp2_with (first
    | (go_at_call 8; refine (HN _ HR.out).out.mono ?_; rintro e w1 ⟨bv, bw, ba, rfl, hv, hb⟩; have HV := Lib.hid hv; have HB := Lib.hid hb; clear hv hb)
    | (go_at_call 9; refine (rank_any _ bv bw ba 3 p _ (by first | exact HV.out | exact HV.out.drewN _)).mono ?_; rintro e w' ⟨rfl, k1, rfl⟩)
    | (go_at_call 10; refine (zeros_any _ bv bw ba 3 p _ (by first | exact HV.out | exact HV.out.drewN _)).mono ?_; rintro e w' ⟨rfl, k1, rfl⟩)
    | (go_at_call 12; refine (select_any _ bv bw ba 3 p _ (by first | exact HV.out | exact HV.out.drewN _)).mono ?_; rintro e w' ⟨rfl, k1, rfl⟩)
    | (go_at_call 13; refine (select0_any _ bv bw ba 3 p _ (by first | exact HV.out | exact HV.out.drewN _)).mono ?_; rintro e w' ⟨rfl, k1, rfl⟩))
  go_ret
  exact ⟨rfl, below_drewN (below_next ((Below.refl _ w).alloc (Nat.le_refl _) _) HB.out (by simp)) _⟩
end Go.Proofs.Ytamonbpgjhhdhaa
