/-
  The statement WaveTells: its walk.
-/
import Derived.Test.YtfeoiabegcmfbaaWaveLaw
namespace Go.Proofs.Ytfeoiabegcmfbaa
open Go.RowKit

set_option maxRecDepth 100000 in
set_option maxHeartbeats 2000000 in
theorem wtells_walk (w : World) (a : Option Addr) (len cap : Nat) (f : Nat → Int) (hl : len ≤ maxLen) (hr : Row w a len (fun k => .int .u8 (f k)) ∧ ∀ k, k < len → (Lit.int .u8 (f k)).wf = true) (n : Int) (_ : (Lit.int .i64 n).wf = true) (c : Int) (_ : (Lit.int .i64 c).wf = true) (i : Int) (_ : (Lit.int .i64 i).wf = true) :
    Calls Try.prog 5 #[.slice a len cap, .int .i64 n, .int .i64 c, .int .i64 i] w fun e w' => e = .returned (.bool true) ∧ Below w.heap.size w w' := by
  obtain ⟨hr, hwf⟩ := hr
  have hf : ∀ k, k < len → 0 ≤ f k ∧ f k ≤ 255 := fun k hk => bounds_u8 (hwf k hk)
  have em : bits .and .i64 n 4095 = n % 4096 := i64_mask n 12 (by omega)
  obtain ⟨m, hm, hm2⟩ : ∃ m : Nat, n % 4096 % 2500 = m ∧ m ≤ 2500 := ⟨(n % 4096 % 2500).toNat, by omega, by omega⟩
  have hmn : 0 ≤ n % 4096 := by omega
  have HL := Lib.hid (row_any w a len cap (fun k => (f k).toNat) m (by omega) hl (nat_of_ints hr (fun k hk => (hf k hk).1)) (fun k hk => by have := hf k hk; omega))
  clear hr hwf hf
  go_enter Try.func5, Try.ntmps5
  go_wp2_with fail
  refine HL.out.mono ?_
  rintro e w1 ⟨a1, cap1, l, rfl, hr1, hl1, hl2, hb1⟩
  have HR1 := Lib.hid hr1
  have HB1 := Lib.hid hb1
  have HSY := Lib.hid hl1
  clear hr1 hb1 hl1 em hm hmn HL
  go_wp2_with fail
  refine (wnew_any _ a1 cap1 l (by omega) HR1.out HSY.out).mono ?_
  rintro e w2 ⟨bm, al, cap', bv, bw, ba, rfl, hm, hb2⟩
  have HM2 := Lib.hid hm
  have HR2 := Lib.hid (HR1.out.kept hb2)
  have HB2 : Hid (Below w.heap.size w w2) := below_next HB1.out hb2 HB1.out.size
  clear hm hb2 HR1 HB1
  have hcl := HM2.out.cl
  go_wp2_with (go_at_call 15; refine (wlen_any _ bm al cap' l.length hcl).mono ?_; rintro e w' ⟨rfl, k0, rfl⟩)
  clear hcl
  have HM3 := Lib.hid (HM2.out.drewN k0)
  have HR3 := Lib.hid (HR2.out.drewN k0)
  have HB3 : Hid (Below w.heap.size w (w2.drewN k0)) := below_drewN HB2.out k0
  clear HM2 HR2 HB2
  generalize w2.drewN k0 = w3 at *
  have hix := run_ix (P := Try.prog) 23 (by kernel_rfl) size_u16 a1 l.length cap1 HR3.out.at_ .i64
  go_loop [12, 13, 14, 15, 16] (fun rank less count sl kk => ∃ k : Nat, k ≤ l.length ∧ rank = .int .i64 (rkTo (eqI l c) i k) ∧ less = .int .i64 (rkTo (ltI l c) i k) ∧ count = .int .i64 (cnt (eqI l c) k) ∧ sl = .int .i64 (sel (eqI l c) k i) ∧ kk = .int .i64 k) (fun _ _ _ _ kk => l.length - (intOf kk).toNat)
  case atStart => exact ⟨0, Nat.zero_le _, by simp [rkTo, cnt_zero], by simp [rkTo, cnt_zero], by rw [cnt_zero]; rfl, by rw [sel_zero], rfl⟩
  case round =>
    obtain ⟨k, hk, rfl, rfl, rfl, rfl, rfl⟩ := hrel
    by_cases hlt : k < l.length
    · have d := HR3.out.cell k hlt
      have hxb := getD_le l 256 HSY.out k
      have eA : eqI l c k = decide (((l.getD k 0 : Nat) : Int) = c) := by simp [eqI, hlt]
      have eB : ltI l c k = decide (((l.getD k 0 : Nat) : Int) < c) := by simp [ltI, hlt]
      have hb0 := rkTo_le (eqI l c) i k
      have hb1 := rkTo_le (ltI l c) i k
      have hb2 := cnt_le (eqI l c) k
      generalize l.getD k 0 = x at *
      have ex : IntKind.i64.wrap (x : Int) = (x : Int) := IntWalk.i64_in _ (by omega)
      by_cases hxc : (x : Int) = c
      · have hA : eqI l c k = true := by rw [eA]; simp [hxc]
        have hB : ltI l c k = false := by rw [eB]; simp; omega
        have t1 : ((x : Int) == c) = true := by simp [hxc]
        have t2 : ¬ ((x : Int) < c) := by omega
        clear eA eB hxc
        by_cases hci : ((cnt (eqI l c) k : Nat) : Int) = i
        · have t3 : (((cnt (eqI l c) k : Nat) : Int) == i) = true := by simp [hci]
          have hki : ¬ (k : Int) < i ∨ (k : Int) < i := by omega
          rcases hki with hki | hki
          · have HCI := Lib.hid hci
            clear hci
            have hci := HCI.out
            have er : rkTo (eqI l c) i (k + 1) = rkTo (eqI l c) i k + (if (k : Int) < i then (eqI l c k).toNat else 0) := by
              first | (rw [rkTo_in _ _ _ hki, if_pos hki]) | (rw [rkTo_out _ _ _ hki, if_neg hki]; rfl)
            have el : rkTo (ltI l c) i (k + 1) = rkTo (ltI l c) i k + (if (k : Int) < i then (ltI l c k).toNat else 0) := by
              first | (rw [rkTo_in _ _ _ hki, if_pos hki]) | (rw [rkTo_out _ _ _ hki, if_neg hki]; rfl)
            have ec := cnt_succ (eqI l c) k
            have es := sel_step (eqI l c) k i
            rw [hA] at er ec es
            rw [hB] at el
            simp only [hki, if_true, if_false, Bool.toNat_true, Bool.toNat_false, Nat.add_zero, true_and, false_and, Bool.false_eq_true] at er el ec es
            have ER := Lib.hid er
            have EL := Lib.hid el
            have EC := Lib.hid ec
            have ES := Lib.hid es
            clear er el ec es hA hB
            generalize rkTo (eqI l c) i k = r0 at *
            generalize rkTo (ltI l c) i k = r1 at *
            generalize cnt (eqI l c) k = r2 at *
            generalize sel (eqI l c) k i = r3 at *
            go_wp2
            go_round
            case rel => exact ⟨k + 1, by omega, by (rw [ER.out]) <;> go_num, by (rw [EL.out]) <;> go_num, by (rw [EC.out]) <;> go_num, by (rw [ES.out]) <;> first | (rw [if_pos hci]) | (rw [if_neg hci]), by go_num⟩
            case measure => simp [intOf]; omega
          · exfalso; omega
        · have t3 : (((cnt (eqI l c) k : Nat) : Int) == i) = false := by simp [hci]
          by_cases hki : (k : Int) < i
          · have er : rkTo (eqI l c) i (k + 1) = rkTo (eqI l c) i k + (if (k : Int) < i then (eqI l c k).toNat else 0) := by
              first | (rw [rkTo_in _ _ _ hki, if_pos hki]) | (rw [rkTo_out _ _ _ hki, if_neg hki]; rfl)
            have el : rkTo (ltI l c) i (k + 1) = rkTo (ltI l c) i k + (if (k : Int) < i then (ltI l c k).toNat else 0) := by
              first | (rw [rkTo_in _ _ _ hki, if_pos hki]) | (rw [rkTo_out _ _ _ hki, if_neg hki]; rfl)
            have ec := cnt_succ (eqI l c) k
            have es := sel_step (eqI l c) k i
            rw [hA] at er ec es
            rw [hB] at el
            simp only [hki, if_true, if_false, Bool.toNat_true, Bool.toNat_false, Nat.add_zero, true_and, false_and, Bool.false_eq_true] at er el ec es
            have ER := Lib.hid er
            have EL := Lib.hid el
            have EC := Lib.hid ec
            have ES := Lib.hid es
            clear er el ec es hA hB
            generalize rkTo (eqI l c) i k = r0 at *
            generalize rkTo (ltI l c) i k = r1 at *
            generalize cnt (eqI l c) k = r2 at *
            generalize sel (eqI l c) k i = r3 at *
            go_wp2
            go_round
            case rel => exact ⟨k + 1, by omega, by (rw [ER.out]) <;> go_num, by (rw [EL.out]) <;> go_num, by (rw [EC.out]) <;> go_num, by (rw [ES.out]) <;> first | (rw [if_pos hci]) | (rw [if_neg hci]), by go_num⟩
            case measure => simp [intOf]; omega
          · have er : rkTo (eqI l c) i (k + 1) = rkTo (eqI l c) i k + (if (k : Int) < i then (eqI l c k).toNat else 0) := by
              first | (rw [rkTo_in _ _ _ hki, if_pos hki]) | (rw [rkTo_out _ _ _ hki, if_neg hki]; rfl)
            have el : rkTo (ltI l c) i (k + 1) = rkTo (ltI l c) i k + (if (k : Int) < i then (ltI l c k).toNat else 0) := by
              first | (rw [rkTo_in _ _ _ hki, if_pos hki]) | (rw [rkTo_out _ _ _ hki, if_neg hki]; rfl)
            have ec := cnt_succ (eqI l c) k
            have es := sel_step (eqI l c) k i
            rw [hA] at er ec es
            rw [hB] at el
            simp only [hki, if_true, if_false, Bool.toNat_true, Bool.toNat_false, Nat.add_zero, true_and, false_and, Bool.false_eq_true] at er el ec es
            have ER := Lib.hid er
            have EL := Lib.hid el
            have EC := Lib.hid ec
            have ES := Lib.hid es
            clear er el ec es hA hB
            generalize rkTo (eqI l c) i k = r0 at *
            generalize rkTo (ltI l c) i k = r1 at *
            generalize cnt (eqI l c) k = r2 at *
            generalize sel (eqI l c) k i = r3 at *
            go_wp2
            go_round
            case rel => exact ⟨k + 1, by omega, by (rw [ER.out]) <;> go_num, by (rw [EL.out]) <;> go_num, by (rw [EC.out]) <;> go_num, by (rw [ES.out]) <;> first | (rw [if_pos hci]) | (rw [if_neg hci]), by go_num⟩
            case measure => simp [intOf]; omega
      · have hA : eqI l c k = false := by rw [eA]; simp [hxc]
        have t1 : ((x : Int) == c) = false := by simp [hxc]
        have hci : True := trivial
        clear eA
        by_cases hxl : (x : Int) < c
        · have hB : ltI l c k = true := by rw [eB]; simp [hxl]
          clear eB hxc
          by_cases hki : (k : Int) < i
          · have er : rkTo (eqI l c) i (k + 1) = rkTo (eqI l c) i k + (if (k : Int) < i then (eqI l c k).toNat else 0) := by
              first | (rw [rkTo_in _ _ _ hki, if_pos hki]) | (rw [rkTo_out _ _ _ hki, if_neg hki]; rfl)
            have el : rkTo (ltI l c) i (k + 1) = rkTo (ltI l c) i k + (if (k : Int) < i then (ltI l c k).toNat else 0) := by
              first | (rw [rkTo_in _ _ _ hki, if_pos hki]) | (rw [rkTo_out _ _ _ hki, if_neg hki]; rfl)
            have ec := cnt_succ (eqI l c) k
            have es := sel_step (eqI l c) k i
            rw [hA] at er ec es
            rw [hB] at el
            simp only [hki, if_true, if_false, Bool.toNat_true, Bool.toNat_false, Nat.add_zero, true_and, false_and, Bool.false_eq_true] at er el ec es
            have ER := Lib.hid er
            have EL := Lib.hid el
            have EC := Lib.hid ec
            have ES := Lib.hid es
            clear er el ec es hA hB
            generalize rkTo (eqI l c) i k = r0 at *
            generalize rkTo (ltI l c) i k = r1 at *
            generalize cnt (eqI l c) k = r2 at *
            generalize sel (eqI l c) k i = r3 at *
            go_wp2
            go_round
            case rel => exact ⟨k + 1, by omega, by (rw [ER.out]) <;> go_num, by (rw [EL.out]) <;> go_num, by (rw [EC.out]) <;> go_num, by (rw [ES.out]) <;> first | (rw [if_pos hci]) | (rw [if_neg hci]), by go_num⟩
            case measure => simp [intOf]; omega
          · have er : rkTo (eqI l c) i (k + 1) = rkTo (eqI l c) i k + (if (k : Int) < i then (eqI l c k).toNat else 0) := by
              first | (rw [rkTo_in _ _ _ hki, if_pos hki]) | (rw [rkTo_out _ _ _ hki, if_neg hki]; rfl)
            have el : rkTo (ltI l c) i (k + 1) = rkTo (ltI l c) i k + (if (k : Int) < i then (ltI l c k).toNat else 0) := by
              first | (rw [rkTo_in _ _ _ hki, if_pos hki]) | (rw [rkTo_out _ _ _ hki, if_neg hki]; rfl)
            have ec := cnt_succ (eqI l c) k
            have es := sel_step (eqI l c) k i
            rw [hA] at er ec es
            rw [hB] at el
            simp only [hki, if_true, if_false, Bool.toNat_true, Bool.toNat_false, Nat.add_zero, true_and, false_and, Bool.false_eq_true] at er el ec es
            have ER := Lib.hid er
            have EL := Lib.hid el
            have EC := Lib.hid ec
            have ES := Lib.hid es
            clear er el ec es hA hB
            generalize rkTo (eqI l c) i k = r0 at *
            generalize rkTo (ltI l c) i k = r1 at *
            generalize cnt (eqI l c) k = r2 at *
            generalize sel (eqI l c) k i = r3 at *
            go_wp2
            go_round
            case rel => exact ⟨k + 1, by omega, by (rw [ER.out]) <;> go_num, by (rw [EL.out]) <;> go_num, by (rw [EC.out]) <;> go_num, by (rw [ES.out]) <;> first | (rw [if_pos hci]) | (rw [if_neg hci]), by go_num⟩
            case measure => simp [intOf]; omega
        · have hB : ltI l c k = false := by rw [eB]; simp; omega
          clear eB hxc
          by_cases hki : (k : Int) < i
          · have er : rkTo (eqI l c) i (k + 1) = rkTo (eqI l c) i k + (if (k : Int) < i then (eqI l c k).toNat else 0) := by
              first | (rw [rkTo_in _ _ _ hki, if_pos hki]) | (rw [rkTo_out _ _ _ hki, if_neg hki]; rfl)
            have el : rkTo (ltI l c) i (k + 1) = rkTo (ltI l c) i k + (if (k : Int) < i then (ltI l c k).toNat else 0) := by
              first | (rw [rkTo_in _ _ _ hki, if_pos hki]) | (rw [rkTo_out _ _ _ hki, if_neg hki]; rfl)
            have ec := cnt_succ (eqI l c) k
            have es := sel_step (eqI l c) k i
            rw [hA] at er ec es
            rw [hB] at el
            simp only [hki, if_true, if_false, Bool.toNat_true, Bool.toNat_false, Nat.add_zero, true_and, false_and, Bool.false_eq_true] at er el ec es
            have ER := Lib.hid er
            have EL := Lib.hid el
            have EC := Lib.hid ec
            have ES := Lib.hid es
            clear er el ec es hA hB
            generalize rkTo (eqI l c) i k = r0 at *
            generalize rkTo (ltI l c) i k = r1 at *
            generalize cnt (eqI l c) k = r2 at *
            generalize sel (eqI l c) k i = r3 at *
            go_wp2
            go_round
            case rel => exact ⟨k + 1, by omega, by (rw [ER.out]) <;> go_num, by (rw [EL.out]) <;> go_num, by (rw [EC.out]) <;> go_num, by (rw [ES.out]) <;> first | (rw [if_pos hci]) | (rw [if_neg hci]), by go_num⟩
            case measure => simp [intOf]; omega
          · have er : rkTo (eqI l c) i (k + 1) = rkTo (eqI l c) i k + (if (k : Int) < i then (eqI l c k).toNat else 0) := by
              first | (rw [rkTo_in _ _ _ hki, if_pos hki]) | (rw [rkTo_out _ _ _ hki, if_neg hki]; rfl)
            have el : rkTo (ltI l c) i (k + 1) = rkTo (ltI l c) i k + (if (k : Int) < i then (ltI l c k).toNat else 0) := by
              first | (rw [rkTo_in _ _ _ hki, if_pos hki]) | (rw [rkTo_out _ _ _ hki, if_neg hki]; rfl)
            have ec := cnt_succ (eqI l c) k
            have es := sel_step (eqI l c) k i
            rw [hA] at er ec es
            rw [hB] at el
            simp only [hki, if_true, if_false, Bool.toNat_true, Bool.toNat_false, Nat.add_zero, true_and, false_and, Bool.false_eq_true] at er el ec es
            have ER := Lib.hid er
            have EL := Lib.hid el
            have EC := Lib.hid ec
            have ES := Lib.hid es
            clear er el ec es hA hB
            generalize rkTo (eqI l c) i k = r0 at *
            generalize rkTo (ltI l c) i k = r1 at *
            generalize cnt (eqI l c) k = r2 at *
            generalize sel (eqI l c) k i = r3 at *
            go_wp2
            go_round
            case rel => exact ⟨k + 1, by omega, by (rw [ER.out]) <;> go_num, by (rw [EL.out]) <;> go_num, by (rw [EC.out]) <;> go_num, by (rw [ES.out]) <;> first | (rw [if_pos hci]) | (rw [if_neg hci]), by go_num⟩
            case measure => simp [intOf]; omega
    · have hkn : k = l.length := by omega
      have e1 : rkI l c i = rkTo (eqI l c) i k := by
        rw [rkI_cnt]; unfold rkTo; rw [hkn, Nat.min_comm, cnt_min _ _ (eqI_past l c)]
      have e2 : lsI l c i = rkTo (ltI l c) i k := by
        rw [lsI_cnt]; unfold rkTo; rw [hkn, Nat.min_comm, cnt_min _ _ (ltI_past l c)]
      have e3 : rkI l c (l.length : Int) = cnt (eqI l c) k := by rw [rkI_cnt, hkn]; rfl
      have e4 : wsel l c i = sel (eqI l c) k i := by rw [wsel_eqI, hkn]
      clear hkn
      generalize rkTo (eqI l c) i k = r0 at *
      generalize rkTo (ltI l c) i k = r1 at *
      generalize cnt (eqI l c) k = r2 at *
      generalize sel (eqI l c) k i = r3 at *
      have hd : decide ((k : Int) < l.length) = false := by simp; omega
      by_cases hi0 : 0 ≤ i
      · obtain ⟨j, rfl⟩ := Int.eq_ofNat_of_zero_le hi0
        by_cases hj : j < l.length
        · have d := HR3.out.cell j hj
          have eg : wget l (j : Int) = ((l.getD j 0 : Nat) : Int) := by unfold wget; rw [if_pos (by omega)]; rfl
          have hxb := getD_le l 256 HSY.out j
          generalize l.getD j 0 = x at *
          have ex : IntKind.i64.wrap (x : Int) = (x : Int) := IntWalk.i64_in _ (by omega)
          go_wp2_with (first
            | (go_at_call 11; (with_reducible refine (wrank_any _ bm al cap' bv bw ba l _ _ (by first | exact HM3.out | exact HM3.out.drewN _)).mono ?_); rintro e w' ⟨rfl, k1, rfl⟩)
            | (go_at_call 10; (with_reducible refine (wselect_any _ bm al cap' bv bw ba l _ _ (by first | exact HM3.out | exact HM3.out.drewN _)).mono ?_); rintro e w' ⟨rfl, k1, rfl⟩)
            | (go_at_call 14; (with_reducible refine (less_any _ bm al cap' bv bw ba l _ _ (by first | exact HM3.out | exact HM3.out.drewN _)).mono ?_); rintro e w' ⟨rfl, k1, rfl⟩)
            | (go_at_call 12; (with_reducible refine (wget_any _ bm al cap' bv bw ba l _ (by first | exact HM3.out | exact HM3.out.drewN _)).mono ?_); rintro e w' ⟨rfl, k1, rfl⟩)
            | (go_at_call 9; (with_reducible refine (wcount_any _ bm al cap' bv bw ba l _ (by first | exact HM3.out | exact HM3.out.drewN _)).mono ?_); rintro e w' ⟨rfl, k1, rfl⟩)
            | (go_at_call 13; refine (wawake_any _).mono ?_; rintro e w7 ⟨rfl, hb7⟩)
            | fail)
          go_ret
          exact ⟨rfl, below_next (below_drewN HB3.out _) hb7 HB3.out.size⟩
        · have eg : wget l (j : Int) = -1 := by unfold wget; rw [if_neg (by omega)]
          go_wp2_with (first
            | (go_at_call 11; (with_reducible refine (wrank_any _ bm al cap' bv bw ba l _ _ (by first | exact HM3.out | exact HM3.out.drewN _)).mono ?_); rintro e w' ⟨rfl, k1, rfl⟩)
            | (go_at_call 10; (with_reducible refine (wselect_any _ bm al cap' bv bw ba l _ _ (by first | exact HM3.out | exact HM3.out.drewN _)).mono ?_); rintro e w' ⟨rfl, k1, rfl⟩)
            | (go_at_call 14; (with_reducible refine (less_any _ bm al cap' bv bw ba l _ _ (by first | exact HM3.out | exact HM3.out.drewN _)).mono ?_); rintro e w' ⟨rfl, k1, rfl⟩)
            | (go_at_call 12; (with_reducible refine (wget_any _ bm al cap' bv bw ba l _ (by first | exact HM3.out | exact HM3.out.drewN _)).mono ?_); rintro e w' ⟨rfl, k1, rfl⟩)
            | (go_at_call 9; (with_reducible refine (wcount_any _ bm al cap' bv bw ba l _ (by first | exact HM3.out | exact HM3.out.drewN _)).mono ?_); rintro e w' ⟨rfl, k1, rfl⟩)
            | (go_at_call 13; refine (wawake_any _).mono ?_; rintro e w7 ⟨rfl, hb7⟩)
            | fail)
          go_ret
          exact ⟨rfl, below_next (below_drewN HB3.out _) hb7 HB3.out.size⟩
      · have eg : wget l i = -1 := by unfold wget; rw [if_neg (by omega)]
        go_wp2_with (first
          | (go_at_call 11; (with_reducible refine (wrank_any _ bm al cap' bv bw ba l _ _ (by first | exact HM3.out | exact HM3.out.drewN _)).mono ?_); rintro e w' ⟨rfl, k1, rfl⟩)
          | (go_at_call 10; (with_reducible refine (wselect_any _ bm al cap' bv bw ba l _ _ (by first | exact HM3.out | exact HM3.out.drewN _)).mono ?_); rintro e w' ⟨rfl, k1, rfl⟩)
          | (go_at_call 14; (with_reducible refine (less_any _ bm al cap' bv bw ba l _ _ (by first | exact HM3.out | exact HM3.out.drewN _)).mono ?_); rintro e w' ⟨rfl, k1, rfl⟩)
          | (go_at_call 12; (with_reducible refine (wget_any _ bm al cap' bv bw ba l _ (by first | exact HM3.out | exact HM3.out.drewN _)).mono ?_); rintro e w' ⟨rfl, k1, rfl⟩)
          | (go_at_call 9; (with_reducible refine (wcount_any _ bm al cap' bv bw ba l _ (by first | exact HM3.out | exact HM3.out.drewN _)).mono ?_); rintro e w' ⟨rfl, k1, rfl⟩)
          | (go_at_call 13; refine (wawake_any _).mono ?_; rintro e w7 ⟨rfl, hb7⟩)
          | fail)
        go_ret
        exact ⟨rfl, below_next (below_drewN HB3.out _) hb7 HB3.out.size⟩
end Go.Proofs.Ytfeoiabegcmfbaa
