/-
  The statement WaveSelects: what it leans on, and its walk.
-/
import Derived.Test.YtfeoiabegcmfbaaWaveLaw
namespace Go.Proofs.Ytfeoiabegcmfbaa
open Go.RowKit

/-- the places that are marked, before symbol c's i-th -/
def seenAt (l : List Nat) (c : Int) (i j : Nat) : Bool := decide (((l.getD j 0 : Nat) : Int) < c) || (eqI l c j && decide (cnt (eqI l c) j < i))
theorem eqI_iff (l : List Nat) (c : Int) (j : Nat) (hj : j < l.length) : eqI l c j = true ↔ ((l.getD j 0 : Nat) : Int) = c := by simp [eqI, hj]
theorem seen_start (l : List Nat) (j : Nat) : seenAt l 0 0 j = false := by
  unfold seenAt
  have : ¬ (((l.getD j 0 : Nat) : Int) < 0) := by omega
  rw [decide_eq_false this]; simp
theorem seen_no (l : List Nat) (c : Int) (i j : Nat) (hj : j < l.length) (hq : eqI l c j = true) (hi : cnt (eqI l c) j = i) : seenAt l c i j = false := by
  have h := (eqI_iff l c j hj).1 hq
  unfold seenAt
  rw [decide_eq_false (show ¬ (((l.getD j 0 : Nat) : Int) < c) by omega), decide_eq_false (show ¬ (cnt (eqI l c) j < i) by omega)]; simp
theorem seen_step (l : List Nat) (c : Int) (i j : Nat) (hj : j < l.length) (hq : eqI l c j = true) (hi : cnt (eqI l c) j = i) (k : Nat) (hk : k < l.length) : seenAt l c (i + 1) k = if k = j then true else seenAt l c i k := by
  by_cases e : k = j
  · rw [if_pos e, e]; unfold seenAt; rw [hq, decide_eq_true (show cnt (eqI l c) j < i + 1 by omega)]; simp
  · rw [if_neg e]; unfold seenAt
    cases hk2 : eqI l c k
    · simp
    · have hne : cnt (eqI l c) k ≠ i := by
        intro h
        have s1 := sel_some (eqI l c) l.length (i : Int) j hj hq (by omega)
        have s2 := sel_some (eqI l c) l.length (i : Int) k hk hk2 (by omega)
        omega
      have : decide (cnt (eqI l c) k < i + 1) = decide (cnt (eqI l c) k < i) := by
        rw [decide_eq_decide]; omega
      rw [this]
theorem seen_next (l : List Nat) (c : Int) (j : Nat) (hj : j < l.length) : seenAt l c (cnt (eqI l c) l.length) j = seenAt l (c + 1) 0 j := by
  unfold seenAt
  have h2 : decide (cnt (eqI l (c + 1)) j < 0) = false := by simp
  rw [h2, Bool.and_false, Bool.or_false]
  cases hq : eqI l c j
  · have h : ¬ ((l.getD j 0 : Nat) : Int) = c := fun h => by rw [(eqI_iff l c j hj).2 h] at hq; cases hq
    rw [Bool.false_and, Bool.or_false, decide_eq_decide]; omega
  · have h := (eqI_iff l c j hj).1 hq
    have h3 := cnt_mono (eqI l c) (show j + 1 ≤ l.length by omega)
    rw [cnt_succ, hq] at h3
    simp only [Bool.toNat_true] at h3
    rw [decide_eq_true (show cnt (eqI l c) j < cnt (eqI l c) l.length by omega), decide_eq_true (show ((l.getD j 0 : Nat) : Int) < c + 1 by omega)]; simp
theorem cnt_none (p : Nat → Bool) (n : Nat) (h : ∀ j, j < n → p j = false) : cnt p n = 0 := by
  induction n with
  | zero => exact cnt_zero p
  | succ n ih => rw [cnt_succ, ih (fun j hj => h j (by omega)), h n (by omega)]; rfl
theorem cnt_all (p : Nat → Bool) (n : Nat) (h : ∀ j, j < n → p j = true) : cnt p n = n := by
  induction n with
  | zero => exact cnt_zero p
  | succ n ih => rw [cnt_succ, ih (fun j hj => h j (by omega)), h n (by omega)]; rfl
theorem tot_zero (l : List Nat) : cnt (ltI l 0) l.length = 0 := cnt_none _ _ fun j hj => by
  have : ¬ (((l.getD j 0 : Nat) : Int) < 0) := by omega
  unfold ltI; rw [decide_eq_false this]; simp
theorem tot_end (l : List Nat) (hl : ∀ x ∈ l, x ≤ 256) : cnt (ltI l 257) l.length = l.length := cnt_all _ _ fun j hj => by
  have := getD_le l 256 hl j
  unfold ltI; rw [decide_eq_true (show ((l.getD j 0 : Nat) : Int) < 257 by omega), decide_eq_true hj]; rfl
attribute [irreducible] seenAt

set_option maxRecDepth 100000 in
set_option maxHeartbeats 2000000 in
theorem wselects_walk (w : World) (a : Option Addr) (len cap : Nat) (f : Nat → Int) (hl : len ≤ maxLen) (hr : Row w a len (fun k => .int .u8 (f k)) ∧ ∀ k, k < len → (Lit.int .u8 (f k)).wf = true) (n : Int) (_ : (Lit.int .i64 n).wf = true) :
    Calls Try.prog 3 #[.slice a len cap, .int .i64 n] w fun e w' => e = .returned (.bool true) ∧ Below w.heap.size w w' := by
  obtain ⟨hr, hwf⟩ := hr
  have hf : ∀ k, k < len → 0 ≤ f k ∧ f k ≤ 255 := fun k hk => bounds_u8 (hwf k hk)
  have em : bits .and .i64 n 1023 = n % 1024 := i64_mask n 10 (by omega)
  obtain ⟨m, hm, hm2⟩ : ∃ m : Nat, n % 1024 = m ∧ m ≤ 1024 := ⟨(n % 1024).toNat, by omega, by omega⟩
  rw [hm] at em
  have HL := Lib.hid (row_any w a len cap (fun k => (f k).toNat) m (by omega) hl (nat_of_ints hr (fun k hk => (hf k hk).1)) (fun k hk => by have := hf k hk; omega))
  clear hr hwf hf hm
  go_enter Try.func3, Try.ntmps3
  go_wp2_with fail
  refine HL.out.mono ?_
  rintro e w1 ⟨a1, cap1, l, rfl, hr1, hl1, hl2, hb1⟩
  have HR1 := Lib.hid hr1
  have HB1 := Lib.hid hb1
  have HSY := Lib.hid hl1
  clear hr1 hb1 hl1 em HL
  go_wp2_with fail
  refine (wnew_any _ a1 cap1 l (by omega) HR1.out HSY.out).mono ?_
  rintro e w2 ⟨bm, al, cap', bv, bw, ba, rfl, hm, hb2⟩
  have HM2 := Lib.hid hm
  have HB2 : Hid (Below w.heap.size w w2) := below_next HB1.out hb2 HB1.out.size
  clear hm hb2 HR1 HB1
  have hmk := make_bools l.length (by omega)
  have HSET0 := Lib.hid (World.rowIs_made w2 (.bool false) l.length 4)
  have HBS : Hid (Below w2.heap.size w2 (w2.alloc (.cells (madeCells #[.bool false] l.length) 4))) := (Below.refl _ _).alloc (Nat.le_refl _) _
  go_wp2_with fail
  clear hmk
  go_loopw [9, 10] (fun tt cc wr => ∃ c : Nat, c ≤ 257 ∧ cc = .int .i64 c ∧ tt = .int .i64 ((cnt (ltI l (c : Int)) l.length : Nat) : Int) ∧ wr.rowIs w2.heap.size 4 l.length (fun j => .bool (seenAt l (c : Int) 0 j)) ∧ Below w2.heap.size w2 wr) (fun _ cc _ => 257 - (intOf cc).toNat)
  case atStart => exact ⟨0, by omega, rfl, by rw [Int.ofNat_zero, tot_zero]; rfl, HSET0.out.congr fun j _ => by rw [Int.ofNat_zero, seen_start], HBS.out⟩
  case round =>
    obtain ⟨c, hc, rfl, rfl, hset, hbw⟩ := hrel
    obtain ⟨wo, rfl⟩ : ∃ wo : World, wo = wr := ⟨_, rfl⟩
    have HMo := Lib.hid (HM2.out.kept hbw)
    have HSETo := Lib.hid hset
    have HBo := Lib.hid hbw
    clear hset hbw
    by_cases hlt : (c : Int) < 257
    · obtain ⟨kc, hkc⟩ : ∃ kc, kc = cnt (eqI l (c : Int)) l.length := ⟨_, rfl⟩
      have ek : rkI l (c : Int) (l.length : Int) = kc := by rw [rkI_cnt, Int.toNat_natCast, hkc]
      have hkl : kc ≤ l.length := by rw [hkc]; exact cnt_le _ _
      have htl : cnt (ltI l (c : Int)) l.length ≤ l.length := cnt_le _ _
      have HTN : Hid (cnt (ltI l (c : Int)) l.length + kc = cnt (ltI l ((c + 1 : Nat) : Int)) l.length) := by
        have := lt_eq_lt l (c : Int) l.length
        rw [← hkc] at this
        rw [this]; rfl
      have HKC := Lib.hid hkc
      clear hkc
      generalize cnt (ltI l (c : Int)) l.length = T0 at *
      go_wp2_with (first
        | (go_at_call 11; (with_reducible refine (wrank_any _ bm al cap' bv bw ba l _ _ (by first | exact HMo.out | exact HMo.out.drewN _)).mono ?_); rintro e w' ⟨rfl, k1, rfl⟩)
        | (go_at_call 10; (with_reducible refine (wselect_any _ bm al cap' bv bw ba l _ _ (by first | exact HMo.out | exact HMo.out.drewN _)).mono ?_); rintro e w' ⟨rfl, k1, rfl⟩)
        | (go_at_call 14; (with_reducible refine (less_any _ bm al cap' bv bw ba l _ _ (by first | exact HMo.out | exact HMo.out.drewN _)).mono ?_); rintro e w' ⟨rfl, k1, rfl⟩)
        | (go_at_call 12; (with_reducible refine (wget_any _ bm al cap' bv bw ba l _ (by first | exact HMo.out | exact HMo.out.drewN _)).mono ?_); rintro e w' ⟨rfl, k1, rfl⟩)
        | (go_at_call 9; (with_reducible refine (wcount_any _ bm al cap' bv bw ba l _ (by first | exact HMo.out | exact HMo.out.drewN _)).mono ?_); rintro e w' ⟨rfl, k1, rfl⟩)
        | fail)
      clear ek
      go_loopw [9, 12] (fun tt ii wi => ∃ i : Nat, i ≤ kc ∧ ii = .int .i64 i ∧ tt = .int .i64 ((T0 + i : Nat) : Int) ∧ wi.rowIs w2.heap.size 4 l.length (fun j => .bool (seenAt l (c : Int) i j)) ∧ Below w2.heap.size w2 wi) (fun _ ii _ => kc - (intOf ii).toNat)
      case atStart => exact ⟨0, by omega, rfl, rfl, row_drewN HSETo.out _, below_drewN HBo.out _⟩
      case round =>
        obtain ⟨i, hi, rfl, rfl, hset, hbw⟩ := hrel
        have HMi := Lib.hid (HM2.out.kept hbw)
        by_cases hlt2 : i < kc
        · obtain ⟨j, hj, hq, hcj, hsel⟩ := sel_is (eqI l (c : Int)) l.length (i : Int) (by omega) (by rw [← HKC.out]; omega)
          have hcj2 : cnt (eqI l (c : Int)) j = i := by omega
          have hws : wsel l (c : Int) (i : Int) = (j : Int) := by rw [wsel_eqI]; exact hsel
          have hrk : rkI l (c : Int) (j : Int) = i := by rw [rkI_cnt, Int.toNat_natCast]; exact hcj2
          have hg : wget l (j : Int) = (c : Int) := by
            unfold wget; rw [if_pos (by omega), Int.toNat_natCast]; exact (eqI_iff l c j hj).1 hq
          have d1 := hset.cell (i := j) hj
          rw [seen_no l c i j hj hq hcj2] at d1
          have d2 := hset.frozen j
          have HST := Lib.hid (seen_step l c i j hj hq hcj2)
          have HSETi := Lib.hid hset
          have HBi := Lib.hid hbw
          clear hset hbw hq hcj hsel hcj2
          go_wp2_with fail
          (with_reducible refine (wselect_any _ bm al cap' bv bw ba l _ _ HMi.out).mono ?_)
          rintro e w' ⟨rfl, k1, rfl⟩
          rw [hws]
          clear hws
          go_wp2_with (first
            | (go_at_call 11; (with_reducible refine (wrank_any _ bm al cap' bv bw ba l _ _ (by first | exact HMi.out | exact HMi.out.drewN _)).mono ?_); rintro e w' ⟨rfl, k1, rfl⟩)
            | (go_at_call 10; (with_reducible refine (wselect_any _ bm al cap' bv bw ba l _ _ (by first | exact HMi.out | exact HMi.out.drewN _)).mono ?_); rintro e w' ⟨rfl, k1, rfl⟩)
            | (go_at_call 14; (with_reducible refine (less_any _ bm al cap' bv bw ba l _ _ (by first | exact HMi.out | exact HMi.out.drewN _)).mono ?_); rintro e w' ⟨rfl, k1, rfl⟩)
            | (go_at_call 12; (with_reducible refine (wget_any _ bm al cap' bv bw ba l _ (by first | exact HMi.out | exact HMi.out.drewN _)).mono ?_); rintro e w' ⟨rfl, k1, rfl⟩)
            | (go_at_call 9; (with_reducible refine (wcount_any _ bm al cap' bv bw ba l _ (by first | exact HMi.out | exact HMi.out.drewN _)).mono ?_); rintro e w' ⟨rfl, k1, rfl⟩)
            | fail)
          go_roundw
          case rel => exact ⟨i + 1, by omega, by go_num, by go_num, ((row_drewN HSETi.out _).set j (.bool true)).congr fun k hk => by
            rw [HST.out k hk]; by_cases e : k = j <;> simp [e], (below_drewN HBi.out _).setCell (p := ⟨w2.heap.size, j, none⟩) (Nat.le_refl _) _⟩
          case measure => simp [intOf]; omega
        · obtain rfl : i = kc := by omega
          have hs1 : wsel l (c : Int) (i : Int) = -1 := by rw [wsel_eqI]; exact sel_none _ _ _ (.inr (by rw [← HKC.out]; omega))
          have hs2 : wsel l (c : Int) (-1) = -1 := by rw [wsel_eqI]; exact sel_none _ _ _ (.inl (by omega))
          have HSETi := Lib.hid hset
          have HBi := Lib.hid hbw
          clear hset hbw
          go_wp2_with (first
            | (go_at_call 11; (with_reducible refine (wrank_any _ bm al cap' bv bw ba l _ _ (by first | exact HMi.out | exact HMi.out.drewN _)).mono ?_); rintro e w' ⟨rfl, k1, rfl⟩)
            | (go_at_call 10; (with_reducible refine (wselect_any _ bm al cap' bv bw ba l _ _ (by first | exact HMi.out | exact HMi.out.drewN _)).mono ?_); rintro e w' ⟨rfl, k1, rfl⟩)
            | (go_at_call 14; (with_reducible refine (less_any _ bm al cap' bv bw ba l _ _ (by first | exact HMi.out | exact HMi.out.drewN _)).mono ?_); rintro e w' ⟨rfl, k1, rfl⟩)
            | (go_at_call 12; (with_reducible refine (wget_any _ bm al cap' bv bw ba l _ (by first | exact HMi.out | exact HMi.out.drewN _)).mono ?_); rintro e w' ⟨rfl, k1, rfl⟩)
            | (go_at_call 9; (with_reducible refine (wcount_any _ bm al cap' bv bw ba l _ (by first | exact HMi.out | exact HMi.out.drewN _)).mono ?_); rintro e w' ⟨rfl, k1, rfl⟩)
            | fail)
          go_roundw
          case rel => exact ⟨c + 1, by omega, by go_num, by (rw [← HTN.out]) <;> go_num, (row_drewN HSETi.out _).congr fun k hk => by
            rw [HKC.out, seen_next l c k hk]; rfl, below_drewN HBi.out _⟩
          case measure => simp [intOf]; omega
    · obtain rfl : c = 257 := by omega
      have ht : cnt (ltI l ((257 : Nat) : Int)) l.length = l.length := tot_end l HSY.out
      rw [ht]
      clear ht
      go_wp2_with (first
        | (go_at_call 13; refine (wawake_any _).mono ?_; rintro e w7 ⟨rfl, hb7⟩)
        | fail)
      go_ret
      exact ⟨rfl, below_next (below_next HB2.out HBo.out HB2.out.size) hb7 (Nat.le_trans HB2.out.size HBo.out.size)⟩
end Go.Proofs.Ytfeoiabegcmfbaa
