/-
  The statement WaveLess: its walk.
-/
import Derived.Test.YtfeoiabegcmfbaaWaveLaw
namespace Go.Proofs.Ytfeoiabegcmfbaa
open Go.RowKit

set_option maxRecDepth 100000 in
set_option maxHeartbeats 2000000 in
theorem wless_walk (w : World) (a : Option Addr) (len cap : Nat) (f : Nat → Int) (hl : len ≤ maxLen) (hr : Row w a len (fun k => .int .u8 (f k)) ∧ ∀ k, k < len → (Lit.int .u8 (f k)).wf = true) (n : Int) (_ : (Lit.int .i64 n).wf = true) (c : Int) (_ : (Lit.int .i64 c).wf = true) (i : Int) (_ : (Lit.int .i64 i).wf = true) (k : Int) (_ : (Lit.int .i64 k).wf = true) :
    Calls Try.prog 4 #[.slice a len cap, .int .i64 n, .int .i64 c, .int .i64 i, .int .i64 k] w fun e w' => e = .returned (.bool true) ∧ Below w.heap.size w w' := by
  obtain ⟨hr, hwf⟩ := hr
  have hf : ∀ k, k < len → 0 ≤ f k ∧ f k ≤ 255 := fun k hk => bounds_u8 (hwf k hk)
  have em : bits .and .i64 n 2047 = n % 2048 := i64_mask n 11 (by omega)
  obtain ⟨m, hm, hm2⟩ : ∃ m : Nat, n % 2048 = m ∧ m ≤ 2048 := ⟨(n % 2048).toNat, by omega, by omega⟩
  rw [hm] at em
  have HL := Lib.hid (row_any w a len cap (fun k => (f k).toNat) m (by omega) hl (nat_of_ints hr (fun k hk => (hf k hk).1)) (fun k hk => by have := hf k hk; omega))
  clear hr hwf hf hm
  go_enter Try.func4, Try.ntmps4
  go_wp2_with fail
  refine HL.out.mono ?_
  rintro e w1 ⟨a1, cap1, l, rfl, hr1, hl1, hl2, hb1⟩
  have HR1 := Lib.hid hr1
  have HB1 := Lib.hid hb1
  have HSY := Lib.hid hl1
  clear hr1 hb1 hl1 em HL
  go_wp2_with fail
  refine (wnew_any _ a1 cap1 l (by omega) HR1.out HSY.out).mono ?_
  rintro e w2 ⟨bm, al, cap', bv, bw, ba, rfl, hm, hb2⟩
  have HM2 := Lib.hid hm
  have HB2 : Hid (Below w.heap.size w w2) := below_next HB1.out hb2 HB1.out.size
  clear hm hb2 HR1 HB1
  have ec : bits .and .i64 c 511 = c % 512 := i64_mask c 9 (by omega)
  obtain ⟨C, hC, hC0, hC2⟩ : ∃ C : Int, c % 512 % 257 = C ∧ 0 ≤ C ∧ C ≤ 256 := ⟨_, rfl, by omega, by omega⟩
  have hcn : 0 ≤ c % 512 := by omega
  have ei : bits .and .i64 i 65535 = i % 65536 := i64_mask i 16 (by omega)
  have ek : bits .and .i64 k 65535 = k % 65536 := i64_mask k 16 (by omega)
  obtain ⟨i1, hi1, hi2⟩ : ∃ i1 : Nat, i % 65536 % ((l.length : Int) + 1) = i1 ∧ i1 ≤ l.length := ⟨(i % 65536 % ((l.length : Int) + 1)).toNat, by
    have := Int.emod_nonneg (i % 65536) (show ((l.length : Int) + 1) ≠ 0 by omega); omega, by
    have := Int.emod_lt_of_pos (i % 65536) (show (0 : Int) < ((l.length : Int) + 1) by omega); omega⟩
  obtain ⟨k1, hk1, hk2⟩ : ∃ i1 : Nat, k % 65536 % ((l.length : Int) + 1) = i1 ∧ i1 ≤ l.length := ⟨(k % 65536 % ((l.length : Int) + 1)).toNat, by
    have := Int.emod_nonneg (k % 65536) (show ((l.length : Int) + 1) ≠ 0 by omega); omega, by
    have := Int.emod_lt_of_pos (k % 65536) (show (0 : Int) < ((l.length : Int) + 1) by omega); omega⟩
  have ei3 : (i % 65536).tmod ((l.length : Int) + 1) = (i1 : Int) := by rw [Int.tmod_eq_emod_of_nonneg (by omega)]; exact hi1
  have ek3 : (k % 65536).tmod ((l.length : Int) + 1) = (k1 : Int) := by rw [Int.tmod_eq_emod_of_nonneg (by omega)]; exact hk1
  have ew : IntKind.i64.wrap ((l.length : Int) + 1) = (l.length : Int) + 1 := IntWalk.i64_in _ (by omega)
  have ez : (((l.length : Int) + 1) == 0) = false := by simp; omega
  have ez2 : ¬ ((l.length : Int) + 1 = 0) := by omega
  go_wp2_with fail
  go_quiet (fail)
  rw [hC]
  clear ec hC hcn ei ek hi1 hk1 ei3 ek3 ew ez ez2
  have HM3 := Lib.hid (HM2.out.drewN nq)
  have HB3 : Hid (Below w.heap.size w (w2.drewN nq)) := below_drewN HB2.out nq
  clear HM2 HB2
  generalize w2.drewN nq = w3 at *
  by_cases hik : (k1 : Int) < (i1 : Int)
  · obtain ⟨I, hI⟩ : ∃ I, I = k1 := ⟨_, rfl⟩
    obtain ⟨K, hK⟩ : ∃ K, K = i1 := ⟨_, rfl⟩
    subst hI; subst hK
    have hIK : I ≤ K := by omega
    have hKl : K ≤ l.length := hi2
    have g1 : ((((lsI l C (I : Int) : Nat) : Int) + ((rkI l C (I : Int) : Nat) : Int)) != ((lsI l (C + 1) (I : Int) : Nat) : Int)) = false := by
      have := lt_eq_lt l C I
      rw [lsI_cnt, rkI_cnt, lsI_cnt, Int.toNat_natCast, ← this]; simp
    have g2 : lsI l 0 (I : Int) = 0 := by unfold lsI; rw [if_neg (by omega)]; exact ls_zero _ _
    have hgap := cnt_gap (eqI l C) I K hIK
    have g3 : ¬ (((rkI l C (K : Int) : Nat) : Int) < ((rkI l C (I : Int) : Nat) : Int)) := by
      rw [rkI_cnt, rkI_cnt, Int.toNat_natCast, Int.toNat_natCast]; omega
    have g4 : ¬ ((K : Int) - (I : Int) < (((rkI l C (K : Int) : Nat) : Int) - ((rkI l C (I : Int) : Nat) : Int))) := by
      rw [rkI_cnt, rkI_cnt, Int.toNat_natCast, Int.toNat_natCast]; omega
    have b1 : lsI l C (I : Int) ≤ 100000 := by unfold lsI; split; · omega
                                               · exact Nat.le_trans (ls_le _ _ _) (by omega)
    have b2 : rkI l C (I : Int) ≤ 100000 := by unfold rkI; split; · omega
                                               · exact Nat.le_trans (rk_le _ _ _) (by omega)
    have b3 : rkI l C (K : Int) ≤ 100000 := by unfold rkI; split; · omega
                                               · exact Nat.le_trans (rk_le _ _ _) (by omega)
    have g5 : decide (rkI l C (K : Int) < rkI l C (I : Int)) = false := by simp; omega
    have g6 : decide ((K : Int) - (I : Int) < (((rkI l C (K : Int) : Nat) : Int) - ((rkI l C (I : Int) : Nat) : Int))) = false := by simp; omega
    clear hgap
    go_wp2_with (first
      | (go_at_call 11; (with_reducible refine (wrank_any _ bm al cap' bv bw ba l _ _ (by first | exact HM3.out | exact HM3.out.drewN _)).mono ?_); rintro e w' ⟨rfl, k1, rfl⟩)
      | (go_at_call 10; (with_reducible refine (wselect_any _ bm al cap' bv bw ba l _ _ (by first | exact HM3.out | exact HM3.out.drewN _)).mono ?_); rintro e w' ⟨rfl, k1, rfl⟩)
      | (go_at_call 14; (with_reducible refine (less_any _ bm al cap' bv bw ba l _ _ (by first | exact HM3.out | exact HM3.out.drewN _)).mono ?_); rintro e w' ⟨rfl, k1, rfl⟩)
      | (go_at_call 12; (with_reducible refine (wget_any _ bm al cap' bv bw ba l _ (by first | exact HM3.out | exact HM3.out.drewN _)).mono ?_); rintro e w' ⟨rfl, k1, rfl⟩)
      | (go_at_call 9; (with_reducible refine (wcount_any _ bm al cap' bv bw ba l _ (by first | exact HM3.out | exact HM3.out.drewN _)).mono ?_); rintro e w' ⟨rfl, k1, rfl⟩)
      | fail)
    go_loopw [1, 14] (fun nn jj wr => ∃ t : Nat, I ≤ t ∧ t ≤ K ∧ jj = .int .i64 t ∧ nn = .int .i64 ((cnt (eqI l C) t - cnt (eqI l C) I : Nat) : Int) ∧ ∃ q, wr = w3.drewN q) (fun _ jj _ => K - (intOf jj).toNat)
    case atStart => exact ⟨I, Nat.le_refl _, by omega, rfl, by simp, _, rfl⟩
    case round =>
      obtain ⟨t, ht1, ht2, rfl, rfl, q, rfl⟩ := hrel
      by_cases hlt : t < K
      · have eg : wget l (t : Int) = ((l.getD t 0 : Nat) : Int) := by unfold wget; rw [if_pos (by omega)]; rfl
        have eA : eqI l C t = decide (((l.getD t 0 : Nat) : Int) = C) := by simp [eqI, show t < l.length by omega]
        have es := cnt_succ (eqI l C) t
        have hge := (cnt_gap (eqI l C) I t ht1).1
        have hb1 := cnt_le (eqI l C) t
        generalize l.getD t 0 = x at *
        by_cases hx : (x : Int) = C
        · have t1 : ((x : Int) == C) = true := by simp [hx]
          have hA : eqI l C t = true := by rw [eA]; simp [hx]
          rw [hA] at es
          have hst : cnt (eqI l C) (t + 1) - cnt (eqI l C) I = cnt (eqI l C) t - cnt (eqI l C) I + 1 := by rw [es]; simp; omega
          have HST := Lib.hid hst
          clear hx eA hA es hst
          have hy : cnt (eqI l C) t - cnt (eqI l C) I ≤ 1000000 := by omega
          generalize cnt (eqI l C) t - cnt (eqI l C) I = y at *
          go_wp2_with (first
            | (go_at_call 11; (with_reducible refine (wrank_any _ bm al cap' bv bw ba l _ _ (by first | exact HM3.out | exact HM3.out.drewN _)).mono ?_); rintro e w' ⟨rfl, k1, rfl⟩)
            | (go_at_call 10; (with_reducible refine (wselect_any _ bm al cap' bv bw ba l _ _ (by first | exact HM3.out | exact HM3.out.drewN _)).mono ?_); rintro e w' ⟨rfl, k1, rfl⟩)
            | (go_at_call 14; (with_reducible refine (less_any _ bm al cap' bv bw ba l _ _ (by first | exact HM3.out | exact HM3.out.drewN _)).mono ?_); rintro e w' ⟨rfl, k1, rfl⟩)
            | (go_at_call 12; (with_reducible refine (wget_any _ bm al cap' bv bw ba l _ (by first | exact HM3.out | exact HM3.out.drewN _)).mono ?_); rintro e w' ⟨rfl, k1, rfl⟩)
            | (go_at_call 9; (with_reducible refine (wcount_any _ bm al cap' bv bw ba l _ (by first | exact HM3.out | exact HM3.out.drewN _)).mono ?_); rintro e w' ⟨rfl, k1, rfl⟩)
            | fail)
          go_roundw
          case rel => exact ⟨t + 1, by omega, by omega, by go_num, by (rw [HST.out]) <;> go_num, _, rfl⟩
          case measure => simp [intOf]; omega
        · have t1 : ((x : Int) == C) = false := by simp [hx]
          have hA : eqI l C t = false := by rw [eA]; simp [hx]
          rw [hA] at es
          have hst : cnt (eqI l C) (t + 1) - cnt (eqI l C) I = cnt (eqI l C) t - cnt (eqI l C) I := by rw [es]; simp
          have HST := Lib.hid hst
          clear hx eA hA es hst
          go_wp2_with (first
            | (go_at_call 11; (with_reducible refine (wrank_any _ bm al cap' bv bw ba l _ _ (by first | exact HM3.out | exact HM3.out.drewN _)).mono ?_); rintro e w' ⟨rfl, k1, rfl⟩)
            | (go_at_call 10; (with_reducible refine (wselect_any _ bm al cap' bv bw ba l _ _ (by first | exact HM3.out | exact HM3.out.drewN _)).mono ?_); rintro e w' ⟨rfl, k1, rfl⟩)
            | (go_at_call 14; (with_reducible refine (less_any _ bm al cap' bv bw ba l _ _ (by first | exact HM3.out | exact HM3.out.drewN _)).mono ?_); rintro e w' ⟨rfl, k1, rfl⟩)
            | (go_at_call 12; (with_reducible refine (wget_any _ bm al cap' bv bw ba l _ (by first | exact HM3.out | exact HM3.out.drewN _)).mono ?_); rintro e w' ⟨rfl, k1, rfl⟩)
            | (go_at_call 9; (with_reducible refine (wcount_any _ bm al cap' bv bw ba l _ (by first | exact HM3.out | exact HM3.out.drewN _)).mono ?_); rintro e w' ⟨rfl, k1, rfl⟩)
            | fail)
          go_roundw
          case rel => exact ⟨t + 1, by omega, by omega, by go_num, by (rw [HST.out]), _, rfl⟩
          case measure => simp [intOf]; omega
      · obtain rfl : t = K := by omega
        have f1 : ((((rkI l C (t : Int) : Nat) : Int) - ((rkI l C (I : Int) : Nat) : Int)) == ((cnt (eqI l C) t - cnt (eqI l C) I : Nat) : Int)) = true := by
          have hge := (cnt_gap (eqI l C) I t ht1).1
          rw [rkI_cnt, rkI_cnt, beq_iff_eq, Int.toNat_natCast, Int.toNat_natCast]; omega
        generalize cnt (eqI l C) t - cnt (eqI l C) I = y at *
        go_wp2_with (first
          | (go_at_call 11; (with_reducible refine (wrank_any _ bm al cap' bv bw ba l _ _ (by first | exact HM3.out | exact HM3.out.drewN _)).mono ?_); rintro e w' ⟨rfl, k1, rfl⟩)
          | (go_at_call 10; (with_reducible refine (wselect_any _ bm al cap' bv bw ba l _ _ (by first | exact HM3.out | exact HM3.out.drewN _)).mono ?_); rintro e w' ⟨rfl, k1, rfl⟩)
          | (go_at_call 14; (with_reducible refine (less_any _ bm al cap' bv bw ba l _ _ (by first | exact HM3.out | exact HM3.out.drewN _)).mono ?_); rintro e w' ⟨rfl, k1, rfl⟩)
          | (go_at_call 12; (with_reducible refine (wget_any _ bm al cap' bv bw ba l _ (by first | exact HM3.out | exact HM3.out.drewN _)).mono ?_); rintro e w' ⟨rfl, k1, rfl⟩)
          | (go_at_call 9; (with_reducible refine (wcount_any _ bm al cap' bv bw ba l _ (by first | exact HM3.out | exact HM3.out.drewN _)).mono ?_); rintro e w' ⟨rfl, k1, rfl⟩)
          | (go_at_call 13; refine (wawake_any _).mono ?_; rintro e w7 ⟨rfl, hb7⟩)
          | fail)
        go_ret
        exact ⟨rfl, below_next (below_drewN HB3.out _) hb7 HB3.out.size⟩
  · obtain ⟨I, hI⟩ : ∃ I, I = i1 := ⟨_, rfl⟩
    obtain ⟨K, hK⟩ : ∃ K, K = k1 := ⟨_, rfl⟩
    subst hI; subst hK
    have hIK : I ≤ K := by omega
    have hKl : K ≤ l.length := hk2
    have g1 : ((((lsI l C (I : Int) : Nat) : Int) + ((rkI l C (I : Int) : Nat) : Int)) != ((lsI l (C + 1) (I : Int) : Nat) : Int)) = false := by
      have := lt_eq_lt l C I
      rw [lsI_cnt, rkI_cnt, lsI_cnt, Int.toNat_natCast, ← this]; simp
    have g2 : lsI l 0 (I : Int) = 0 := by unfold lsI; rw [if_neg (by omega)]; exact ls_zero _ _
    have hgap := cnt_gap (eqI l C) I K hIK
    have g3 : ¬ (((rkI l C (K : Int) : Nat) : Int) < ((rkI l C (I : Int) : Nat) : Int)) := by
      rw [rkI_cnt, rkI_cnt, Int.toNat_natCast, Int.toNat_natCast]; omega
    have g4 : ¬ ((K : Int) - (I : Int) < (((rkI l C (K : Int) : Nat) : Int) - ((rkI l C (I : Int) : Nat) : Int))) := by
      rw [rkI_cnt, rkI_cnt, Int.toNat_natCast, Int.toNat_natCast]; omega
    have b1 : lsI l C (I : Int) ≤ 100000 := by unfold lsI; split; · omega
                                               · exact Nat.le_trans (ls_le _ _ _) (by omega)
    have b2 : rkI l C (I : Int) ≤ 100000 := by unfold rkI; split; · omega
                                               · exact Nat.le_trans (rk_le _ _ _) (by omega)
    have b3 : rkI l C (K : Int) ≤ 100000 := by unfold rkI; split; · omega
                                               · exact Nat.le_trans (rk_le _ _ _) (by omega)
    have g5 : decide (rkI l C (K : Int) < rkI l C (I : Int)) = false := by simp; omega
    have g6 : decide ((K : Int) - (I : Int) < (((rkI l C (K : Int) : Nat) : Int) - ((rkI l C (I : Int) : Nat) : Int))) = false := by simp; omega
    clear hgap
    go_wp2_with (first
      | (go_at_call 11; (with_reducible refine (wrank_any _ bm al cap' bv bw ba l _ _ (by first | exact HM3.out | exact HM3.out.drewN _)).mono ?_); rintro e w' ⟨rfl, k1, rfl⟩)
      | (go_at_call 10; (with_reducible refine (wselect_any _ bm al cap' bv bw ba l _ _ (by first | exact HM3.out | exact HM3.out.drewN _)).mono ?_); rintro e w' ⟨rfl, k1, rfl⟩)
      | (go_at_call 14; (with_reducible refine (less_any _ bm al cap' bv bw ba l _ _ (by first | exact HM3.out | exact HM3.out.drewN _)).mono ?_); rintro e w' ⟨rfl, k1, rfl⟩)
      | (go_at_call 12; (with_reducible refine (wget_any _ bm al cap' bv bw ba l _ (by first | exact HM3.out | exact HM3.out.drewN _)).mono ?_); rintro e w' ⟨rfl, k1, rfl⟩)
      | (go_at_call 9; (with_reducible refine (wcount_any _ bm al cap' bv bw ba l _ (by first | exact HM3.out | exact HM3.out.drewN _)).mono ?_); rintro e w' ⟨rfl, k1, rfl⟩)
      | fail)
    go_loopw [1, 14] (fun nn jj wr => ∃ t : Nat, I ≤ t ∧ t ≤ K ∧ jj = .int .i64 t ∧ nn = .int .i64 ((cnt (eqI l C) t - cnt (eqI l C) I : Nat) : Int) ∧ ∃ q, wr = w3.drewN q) (fun _ jj _ => K - (intOf jj).toNat)
    case atStart => exact ⟨I, Nat.le_refl _, by omega, rfl, by simp, _, rfl⟩
    case round =>
      obtain ⟨t, ht1, ht2, rfl, rfl, q, rfl⟩ := hrel
      by_cases hlt : t < K
      · have eg : wget l (t : Int) = ((l.getD t 0 : Nat) : Int) := by unfold wget; rw [if_pos (by omega)]; rfl
        have eA : eqI l C t = decide (((l.getD t 0 : Nat) : Int) = C) := by simp [eqI, show t < l.length by omega]
        have es := cnt_succ (eqI l C) t
        have hge := (cnt_gap (eqI l C) I t ht1).1
        have hb1 := cnt_le (eqI l C) t
        generalize l.getD t 0 = x at *
        by_cases hx : (x : Int) = C
        · have t1 : ((x : Int) == C) = true := by simp [hx]
          have hA : eqI l C t = true := by rw [eA]; simp [hx]
          rw [hA] at es
          have hst : cnt (eqI l C) (t + 1) - cnt (eqI l C) I = cnt (eqI l C) t - cnt (eqI l C) I + 1 := by rw [es]; simp; omega
          have HST := Lib.hid hst
          clear hx eA hA es hst
          have hy : cnt (eqI l C) t - cnt (eqI l C) I ≤ 1000000 := by omega
          generalize cnt (eqI l C) t - cnt (eqI l C) I = y at *
          go_wp2_with (first
            | (go_at_call 11; (with_reducible refine (wrank_any _ bm al cap' bv bw ba l _ _ (by first | exact HM3.out | exact HM3.out.drewN _)).mono ?_); rintro e w' ⟨rfl, k1, rfl⟩)
            | (go_at_call 10; (with_reducible refine (wselect_any _ bm al cap' bv bw ba l _ _ (by first | exact HM3.out | exact HM3.out.drewN _)).mono ?_); rintro e w' ⟨rfl, k1, rfl⟩)
            | (go_at_call 14; (with_reducible refine (less_any _ bm al cap' bv bw ba l _ _ (by first | exact HM3.out | exact HM3.out.drewN _)).mono ?_); rintro e w' ⟨rfl, k1, rfl⟩)
            | (go_at_call 12; (with_reducible refine (wget_any _ bm al cap' bv bw ba l _ (by first | exact HM3.out | exact HM3.out.drewN _)).mono ?_); rintro e w' ⟨rfl, k1, rfl⟩)
            | (go_at_call 9; (with_reducible refine (wcount_any _ bm al cap' bv bw ba l _ (by first | exact HM3.out | exact HM3.out.drewN _)).mono ?_); rintro e w' ⟨rfl, k1, rfl⟩)
            | fail)
          go_roundw
          case rel => exact ⟨t + 1, by omega, by omega, by go_num, by (rw [HST.out]) <;> go_num, _, rfl⟩
          case measure => simp [intOf]; omega
        · have t1 : ((x : Int) == C) = false := by simp [hx]
          have hA : eqI l C t = false := by rw [eA]; simp [hx]
          rw [hA] at es
          have hst : cnt (eqI l C) (t + 1) - cnt (eqI l C) I = cnt (eqI l C) t - cnt (eqI l C) I := by rw [es]; simp
          have HST := Lib.hid hst
          clear hx eA hA es hst
          go_wp2_with (first
            | (go_at_call 11; (with_reducible refine (wrank_any _ bm al cap' bv bw ba l _ _ (by first | exact HM3.out | exact HM3.out.drewN _)).mono ?_); rintro e w' ⟨rfl, k1, rfl⟩)
            | (go_at_call 10; (with_reducible refine (wselect_any _ bm al cap' bv bw ba l _ _ (by first | exact HM3.out | exact HM3.out.drewN _)).mono ?_); rintro e w' ⟨rfl, k1, rfl⟩)
            | (go_at_call 14; (with_reducible refine (less_any _ bm al cap' bv bw ba l _ _ (by first | exact HM3.out | exact HM3.out.drewN _)).mono ?_); rintro e w' ⟨rfl, k1, rfl⟩)
            | (go_at_call 12; (with_reducible refine (wget_any _ bm al cap' bv bw ba l _ (by first | exact HM3.out | exact HM3.out.drewN _)).mono ?_); rintro e w' ⟨rfl, k1, rfl⟩)
            | (go_at_call 9; (with_reducible refine (wcount_any _ bm al cap' bv bw ba l _ (by first | exact HM3.out | exact HM3.out.drewN _)).mono ?_); rintro e w' ⟨rfl, k1, rfl⟩)
            | fail)
          go_roundw
          case rel => exact ⟨t + 1, by omega, by omega, by go_num, by (rw [HST.out]), _, rfl⟩
          case measure => simp [intOf]; omega
      · obtain rfl : t = K := by omega
        have f1 : ((((rkI l C (t : Int) : Nat) : Int) - ((rkI l C (I : Int) : Nat) : Int)) == ((cnt (eqI l C) t - cnt (eqI l C) I : Nat) : Int)) = true := by
          have hge := (cnt_gap (eqI l C) I t ht1).1
          rw [rkI_cnt, rkI_cnt, beq_iff_eq, Int.toNat_natCast, Int.toNat_natCast]; omega
        generalize cnt (eqI l C) t - cnt (eqI l C) I = y at *
        go_wp2_with (first
          | (go_at_call 11; (with_reducible refine (wrank_any _ bm al cap' bv bw ba l _ _ (by first | exact HM3.out | exact HM3.out.drewN _)).mono ?_); rintro e w' ⟨rfl, k1, rfl⟩)
          | (go_at_call 10; (with_reducible refine (wselect_any _ bm al cap' bv bw ba l _ _ (by first | exact HM3.out | exact HM3.out.drewN _)).mono ?_); rintro e w' ⟨rfl, k1, rfl⟩)
          | (go_at_call 14; (with_reducible refine (less_any _ bm al cap' bv bw ba l _ _ (by first | exact HM3.out | exact HM3.out.drewN _)).mono ?_); rintro e w' ⟨rfl, k1, rfl⟩)
          | (go_at_call 12; (with_reducible refine (wget_any _ bm al cap' bv bw ba l _ (by first | exact HM3.out | exact HM3.out.drewN _)).mono ?_); rintro e w' ⟨rfl, k1, rfl⟩)
          | (go_at_call 9; (with_reducible refine (wcount_any _ bm al cap' bv bw ba l _ (by first | exact HM3.out | exact HM3.out.drewN _)).mono ?_); rintro e w' ⟨rfl, k1, rfl⟩)
          | (go_at_call 13; refine (wawake_any _).mono ?_; rintro e w7 ⟨rfl, hb7⟩)
          | fail)
        go_ret
        exact ⟨rfl, below_next (below_drewN HB3.out _) hb7 HB3.out.size⟩
end Go.Proofs.Ytfeoiabegcmfbaa
