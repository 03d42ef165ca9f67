/-
  The helpers of the statements on symbols: Row, awake.
-/
import Derived.Test.YtfeoiabegcmfbaaWaveNew
import Derived.Test.YtfeoiabegcmfbaaRowOpen
namespace Go.Proofs.Ytfeoiabegcmfbaa
open Go.RowKit

theorem size_u8 (w : World) : (sizeOf (Try.prog.elem 22)).run Try.prog w = .ok 1 w := by kernel_rfl

/-- the i-th symbol that Row makes of bytes f, len of them -/
def symR (f : Nat → Nat) (len i : Nat) : Nat := if i % 31 = 5 then 256 else if i % 7 = 3 then f (i % len) % 4 else f (i % len)

theorem mask3 (x : Nat) (h : x < 256) : bits .and .u16 (x : Int) 3 = ((x % 4 : Nat) : Int) := by
  have := u16_and_nat x 3 (by omega) (by omega)
  rw [nat_mask2] at this
  exact this

set_option maxHeartbeats 1000000 in
theorem row_core (w : World) (a : Option Addr) (len cap : Nat) (f : Nat → Nat) (n : Nat) (hn : n ≤ 20000) (hlen : 0 < len) (hl : len ≤ maxLen) (hr : Row w a len (fun k => .int .u8 ((f k : Nat) : Int))) (hf : ∀ k, k < len → f k < 256) :
    Calls Try.prog 7 #[.slice a len cap, .int .i64 n] w fun e w' => ∃ v, e = .returned v ∧ w'.ownsRow w.heap.size 36 1 v n ((List.range n).map fun k => .int .u16 ((symR f len k : Nat) : Int)) ∧ Below w.heap.size w w' := by
  have hix := run_ix (P := Try.prog) 22 (by kernel_rfl) size_u8 a len cap hr.at_ .i64
  unfold maxLen at hl
  have hb : bOf a < w.heap.size := hr.lt hlen
  have HR := Lib.hid hr
  have HF := Lib.hid hf
  obtain ⟨i0, hi, hz0, hz1, hz2⟩ := info_parts info_u16
  clear hr hf
  go_enter Try.func7, Try.ntmps7
  go_wp2
  go_loopw [5, 6] (fun v i wr => ∃ k : Nat, k ≤ n ∧ i = .int .i64 k ∧ wr.ownsRow w.heap.size 36 1 v k ((List.range k).map fun k => .int .u16 ((symR f len k : Nat) : Int)) ∧ Below w.heap.size w wr) (fun _ i _ => n - (intOf i).toNat)
  case atStart => exact ⟨0, Nat.zero_le _, rfl, World.ownsRow_nil _ _ _ _, Below.refl _ _⟩
  case round =>
    obtain ⟨k, hk, rfl, hown, hbel⟩ := hrel
    by_cases hlt : k < n
    · obtain ⟨r, er, hrl⟩ : ∃ r : Nat, (k : Int) % (len : Int) = (r : Int) ∧ r < len := ⟨k % len, by simp, Nat.mod_lt _ hlen⟩
      have er' : r = k % len := by have := Int.natCast_emod k len; omega
      have d0 : wr.cell? ⟨bOf a, oOf a + r, none⟩ = some (.int .u8 ((f r : Nat) : Int)) := (hbel.cell (p := ⟨bOf a, oOf a + r, none⟩) hb).trans (HR.out.cell r hrl)
      have hx := HF.out r hrl
      have hsy : symR f len k = if k % 31 = 5 then 256 else if k % 7 = 3 then f r % 4 else f r := by unfold symR; rw [← er']
      have hs := hbel.size
      have HB := Lib.hid hbel
      have HO := Lib.hid hown
      generalize f r = x at *
      have e1 : IntKind.u16.wrap (x : Int) = (x : Int) := IntWalk.u16_in _ (by omega)
      have e2 := mask3 x hx
      have HSY := Lib.hid hsy
      clear hbel hown er' hsy
      by_cases h31 : k % 31 = 5
      · have q1 : ((k : Int) % 31 == 5) = true := by simp; omega
        have hfin : symR f len k = 256 := by rw [HSY.out, if_pos h31]
        have HFIN := Lib.hid hfin
        clear hfin h31
        by_cases h7 : k % 7 = 3
        · have q2 : ((k : Int) % 7 == 3) = true := by simp; omega
          clear h7
          go_wp2_with (at_builtin; refine wpList_append_own _ rfl _ _ 23 rfl w.heap.size 36 i0 (.int .u16 0) 1 2 Try.underlying23 hi hz0 hz1 hz2 rfl (by decide) _ _ _ rfl (HO.out.alloc _) ⟨wr.heap.size, 0, none⟩ 1 1 [.int .u16 256] rfl rfl (cell_one_new _ _ _) (by simp [Value.oneCell']) (by simp only [maxLen]; omega) (by omega) (by simp; omega) ?_; intro v' w1 hown' hgrow _)
          have hlt' := HO.out.lt
          have hown2 : w1.ownsRow w.heap.size 36 1 v' (k + 1) ((List.range (k + 1)).map fun k => .int .u16 ((symR f len k : Nat) : Int)) := by
            rw [List.range_succ, List.map_append, List.map_cons, List.map_nil, HFIN.out]; exact hown'
          have HO1 := Lib.hid hown2
          have HB1 : Hid (Below w.heap.size w w1) := (HB.out.alloc hs _).grown hgrow (by simp; omega) (fun g hg => (hlt' g hg).1)
          clear hown' hgrow hlt' hown2
          go_wp2
          go_roundw
          case rel => exact ⟨k + 1, by omega, by go_num, HO1.out, HB1.out⟩
          case measure => simp [intOf]; omega
        · have q2 : ((k : Int) % 7 == 3) = false := by simp; omega
          clear h7
          go_wp2_with (at_builtin; refine wpList_append_own _ rfl _ _ 23 rfl w.heap.size 36 i0 (.int .u16 0) 1 2 Try.underlying23 hi hz0 hz1 hz2 rfl (by decide) _ _ _ rfl (HO.out.alloc _) ⟨wr.heap.size, 0, none⟩ 1 1 [.int .u16 256] rfl rfl (cell_one_new _ _ _) (by simp [Value.oneCell']) (by simp only [maxLen]; omega) (by omega) (by simp; omega) ?_; intro v' w1 hown' hgrow _)
          have hlt' := HO.out.lt
          have hown2 : w1.ownsRow w.heap.size 36 1 v' (k + 1) ((List.range (k + 1)).map fun k => .int .u16 ((symR f len k : Nat) : Int)) := by
            rw [List.range_succ, List.map_append, List.map_cons, List.map_nil, HFIN.out]; exact hown'
          have HO1 := Lib.hid hown2
          have HB1 : Hid (Below w.heap.size w w1) := (HB.out.alloc hs _).grown hgrow (by simp; omega) (fun g hg => (hlt' g hg).1)
          clear hown' hgrow hlt' hown2
          go_wp2
          go_roundw
          case rel => exact ⟨k + 1, by omega, by go_num, HO1.out, HB1.out⟩
          case measure => simp [intOf]; omega
      · have q1 : ((k : Int) % 31 == 5) = false := by simp; omega
        by_cases h7 : k % 7 = 3
        · have q2 : ((k : Int) % 7 == 3) = true := by simp; omega
          have hfin : symR f len k = x % 4 := by rw [HSY.out, if_neg h31, if_pos h7]
          have HFIN := Lib.hid hfin
          clear hfin h31 h7
          generalize x % 4 = y at *
          go_wp2_with (at_builtin; refine wpList_append_own _ rfl _ _ 23 rfl w.heap.size 36 i0 (.int .u16 0) 1 2 Try.underlying23 hi hz0 hz1 hz2 rfl (by decide) _ _ _ rfl (HO.out.alloc _) ⟨wr.heap.size, 0, none⟩ 1 1 [.int .u16 (y : Int)] rfl rfl (cell_one_new _ _ _) (by simp [Value.oneCell']) (by simp only [maxLen]; omega) (by omega) (by simp; omega) ?_; intro v' w1 hown' hgrow _)
          have hlt' := HO.out.lt
          have hown2 : w1.ownsRow w.heap.size 36 1 v' (k + 1) ((List.range (k + 1)).map fun k => .int .u16 ((symR f len k : Nat) : Int)) := by
            rw [List.range_succ, List.map_append, List.map_cons, List.map_nil, HFIN.out]; exact hown'
          have HO1 := Lib.hid hown2
          have HB1 : Hid (Below w.heap.size w w1) := (HB.out.alloc hs _).grown hgrow (by simp; omega) (fun g hg => (hlt' g hg).1)
          clear hown' hgrow hlt' hown2
          go_wp2
          go_roundw
          case rel => exact ⟨k + 1, by omega, by go_num, HO1.out, HB1.out⟩
          case measure => simp [intOf]; omega
        · have q2 : ((k : Int) % 7 == 3) = false := by simp; omega
          have hfin : symR f len k = x := by rw [HSY.out, if_neg h31, if_neg h7]
          have HFIN := Lib.hid hfin
          clear hfin h31 h7
          go_wp2_with (at_builtin; refine wpList_append_own _ rfl _ _ 23 rfl w.heap.size 36 i0 (.int .u16 0) 1 2 Try.underlying23 hi hz0 hz1 hz2 rfl (by decide) _ _ _ rfl (HO.out.alloc _) ⟨wr.heap.size, 0, none⟩ 1 1 [.int .u16 (x : Int)] rfl rfl (cell_one_new _ _ _) (by simp [Value.oneCell']) (by simp only [maxLen]; omega) (by omega) (by simp; omega) ?_; intro v' w1 hown' hgrow _)
          have hlt' := HO.out.lt
          have hown2 : w1.ownsRow w.heap.size 36 1 v' (k + 1) ((List.range (k + 1)).map fun k => .int .u16 ((symR f len k : Nat) : Int)) := by
            rw [List.range_succ, List.map_append, List.map_cons, List.map_nil, HFIN.out]; exact hown'
          have HO1 := Lib.hid hown2
          have HB1 : Hid (Below w.heap.size w w1) := (HB.out.alloc hs _).grown hgrow (by simp; omega) (fun g hg => (hlt' g hg).1)
          clear hown' hgrow hlt' hown2
          go_wp2
          go_roundw
          case rel => exact ⟨k + 1, by omega, by go_num, HO1.out, HB1.out⟩
          case measure => simp [intOf]; omega
    · obtain rfl : k = n := by omega
      have HB := Lib.hid hbel
      have HO := Lib.hid hown
      clear hbel hown
      go_wp2
      go_ret
      exact ⟨_, rfl, HO.out, HB.out⟩

theorem row_zero (w : World) (a : Option Addr) (cap : Nat) (n : Nat) (hn : n ≤ 20000) :
    Calls Try.prog 7 #[.slice a 0 cap, .int .i64 n] w fun e w' => e = .returned (.slice none 0 0) ∧ w' = w := by
  go_enter Try.func7, Try.ntmps7
  go_wp2
  refine wp_loop_rounds 1 ?_
  rw [rounds_succ]
  by_cases h : (0 : Int) < n
  · go_wp2
    go_ret
    exact ⟨rfl, rfl⟩
  · go_wp2
    go_ret
    exact ⟨rfl, rfl⟩

/-- what the walks are told of a slice of bytes that came in -/
theorem nat_of_ints {kd : IntKind} {w : World} {a : Option Addr} {n : Nat} {f : Nat → Int} (hr : Row w a n (fun k => .int kd (f k))) (h : ∀ k, k < n → 0 ≤ f k) : Row w a n (fun k => .int kd (((f k).toNat : Nat) : Int)) :=
  hr.congr fun k hk => by rw [Int.toNat_of_nonneg (h k hk)]

/-- what Row leaves: some symbols -/
def SymPost (w : World) (n : Nat) (e : Ending) (w' : World) : Prop :=
  ∃ a' cap' l, e = .returned (.slice a' (List.length l) cap') ∧ Row w' a' l.length (fun k => .int .u16 ((l.getD k 0 : Nat) : Int)) ∧ (∀ x ∈ l, x ≤ 256) ∧ l.length ≤ n ∧ Below w.heap.size w w'

theorem row_any (w : World) (a : Option Addr) (len cap : Nat) (f : Nat → Nat) (n : Nat) (hn : n ≤ 20000) (hl : len ≤ maxLen) (hr : Row w a len (fun k => .int .u8 ((f k : Nat) : Int))) (hf : ∀ k, k < len → f k < 256) :
    Calls Try.prog 7 #[.slice a len cap, .int .i64 n] w (SymPost w n) := by
  by_cases h : len = 0
  · subst h
    refine (row_zero w a cap n hn).mono ?_
    rintro e w' ⟨rfl, rfl⟩
    exact ⟨none, 0, [], rfl, Row.nil _ _ _, (fun x hx => by cases hx), Nat.zero_le _, Below.refl _ _⟩
  · refine (row_core w a len cap f n hn (by omega) hl hr hf).mono ?_
    rintro e w' ⟨v, rfl, hown, hb⟩
    obtain ⟨a', cap', rfl, hc, hrow, _⟩ := Row.of_owns hown
    refine ⟨a', cap', (List.range n).map (symR f len), by simp, by simpa using hrow.congr (g := fun k => .int .u16 ((((List.range n).map (symR f len)).getD k 0 : Nat) : Int)) fun k hk => by simp [List.getD_eq_getElem?_getD, hk], ?_, by simp, hb⟩
    intro x hx
    obtain ⟨k, _, rfl⟩ := List.mem_map.1 hx
    have := hf (k % len) (Nat.mod_lt _ (by omega))
    unfold symR
    split
    · omega
    · split <;> omega

set_option maxHeartbeats 1000000 in
theorem wawake_any (w : World) : Calls Try.prog 13 #[] w fun e w' => e = .returned (.bool true) ∧ Below w.heap.size w w' := by
  obtain ⟨l, hl⟩ : ∃ l : List Nat, l = [5, 1, 5] := ⟨_, rfl⟩
  have hr : Row (w.alloc (.cells #[.int .u16 5, .int .u16 1, .int .u16 5] 36)) (some ⟨w.heap.size, 0, none⟩) l.length (fun k => .int .u16 ((l.getD k 0 : Nat) : Int)) := by
    have h := World.rowIs_alloc w #[.int .u16 5, .int .u16 1, .int .u16 5] 36 (fun k => .int .u16 ((l.getD k 0 : Nat) : Int)) (by
      subst hl
      intro i hi
      match i, hi with
      | 0, _ => rfl
      | 1, _ => rfl
      | 2, _ => rfl)
    subst hl
    exact Row.of_row h (Nat.le_refl _)
  have HN := Lib.hid (wnew_any _ (some ⟨w.heap.size, 0, none⟩) 3 l (by subst hl; decide) hr (by subst hl; decide))
  have hlen : l.length = 3 := by subst hl; rfl
  have e1 : rkI l 5 3 = 2 := by subst hl; decide +kernel
  have e2 : wsel l 5 1 = 2 := by subst hl; decide +kernel
  have e3 : lsI l 5 3 = 1 := by subst hl; decide +kernel
  have e4 : wget l 1 = 1 := by subst hl; decide +kernel
  have e5 : rkI l 5 (l.length : Int) = 2 := by subst hl; decide +kernel
  rw [hlen] at HN
  clear hr hl
  go_enter Try.func13, Try.ntmps13
  go_wp2_with fail
  refine HN.out.mono ?_
  rintro e w1 ⟨bm, al, cap', bv, bw, ba, rfl, hm, hb⟩
  have HM := Lib.hid hm
  have HB := Lib.hid hb
  clear hm hb
  go_wp2_with fail
  refine (wnew_bad _ w1.heap.size 1 257 (by omega) (by simp)).mono ?_
  rintro e w2 ⟨rfl, rfl⟩
  have hb2 : Below w1.heap.size w1 (w1.alloc (.cells #[.int .u16 257] 36)) := (Below.refl _ _).alloc (Nat.le_refl _) _
  have HM2 := Lib.hid (HM.out.kept hb2)
  have HB2 : Hid (Below w.heap.size w (w1.alloc (.cells #[.int .u16 257] 36))) := below_next (below_next ((Below.refl _ w).alloc (Nat.le_refl _) _) HB.out (by simp)) hb2 (by have := HB.out.size; simp at this; omega)
  clear hb2
  generalize (w1.alloc (.cells #[.int .u16 257] 36)) = w3 at *
  go_wp2_with (first
    | (go_at_call 11; refine (wrank_any _ bm al cap' bv bw ba l _ _ (by first | exact HM2.out | exact HM2.out.drewN _)).mono ?_; rintro e w' ⟨rfl, k1, rfl⟩)
    | (go_at_call 10; refine (wselect_any _ bm al cap' bv bw ba l _ _ (by first | exact HM2.out | exact HM2.out.drewN _)).mono ?_; rintro e w' ⟨rfl, k1, rfl⟩)
    | (go_at_call 14; refine (less_any _ bm al cap' bv bw ba l _ _ (by first | exact HM2.out | exact HM2.out.drewN _)).mono ?_; rintro e w' ⟨rfl, k1, rfl⟩)
    | (go_at_call 12; refine (wget_any _ bm al cap' bv bw ba l _ (by first | exact HM2.out | exact HM2.out.drewN _)).mono ?_; rintro e w' ⟨rfl, k1, rfl⟩)
    | (go_at_call 9; refine (wcount_any _ bm al cap' bv bw ba l _ (by first | exact HM2.out | exact HM2.out.drewN _)).mono ?_; rintro e w' ⟨rfl, k1, rfl⟩))
  go_ret
  exact ⟨rfl, below_drewN HB2.out _⟩
end Go.Proofs.Ytfeoiabegcmfbaa
