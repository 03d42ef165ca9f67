/-
  The statement BackRanges: its walk.
-/
import Derived.Test.YtckmabdphdcpmaaBackSame
import Derived.Test.YtckmabdphdcpmaaRefRange
import Derived.Test.YtckmabdphdcpmaaNestMath
import Derived.Test.YtckmabdphdcpmaaRefStarts
import Derived.Deep.DeepCutAuto
namespace Go.Proofs.Ytckmabdphdcpmaa
open Go.RowKit

theorem found_count (ds : List (List Nat)) (P : List Nat) (lo hi : Nat) (h : RangeP ds P lo hi) : (foundL ds P (allH ds ds.length)).length = hi - lo := by
  unfold foundL; exact range_count ds P lo hi h
/-- both ways to a text's rows come to the same -/
theorem range_same {ds : List (List Nat)} {P : List Nat} {lo hi a b : Nat} (h : IsB ds P lo hi) (g : RangeP ds P a b) : hi - lo = b - a ∧ (a < b → lo = a ∧ hi = b) := by
  have hall : ∀ j, j < (rowsR ds).length → ((lo ≤ j ∧ j < hi) ↔ (a ≤ j ∧ j < b)) := fun j hj => by
    rw [h.all j hj, ← cmpL_zero]
    have h1 := g.low j hj
    have h2 := g.high j hj
    unfold cmpR at h1 h2
    omega
  have g1 := g.le
  have g2 := g.len
  have h1 := h.le
  have h2 := h.len
  by_cases c : a < b
  · have e1 := (hall a (by omega)).2 ⟨Nat.le_refl _, c⟩
    have e2 := (hall (b - 1) (by omega)).2 ⟨by omega, by omega⟩
    have e3 := (hall lo (by omega)).1 ⟨Nat.le_refl _, by omega⟩
    have e4 := (hall (hi - 1) (by omega)).1 ⟨by omega, by omega⟩
    exact ⟨by omega, fun _ => ⟨by omega, by omega⟩⟩
  · refine ⟨?_, fun h => (c h).elim⟩
    by_cases c2 : lo < hi
    · have := (hall lo (by omega)).1 ⟨Nat.le_refl _, c2⟩
      omega
    · omega
theorem range_nil (ds : List (List Nat)) : RangeP ds [] 0 (rowsR ds).length :=
  ⟨Nat.zero_le _, Nat.le_refl _, fun i _ => by unfold cmpR; rw [cmpL_nil]; omega, fun i hi => by unfold cmpR; rw [cmpL_nil]; omega⟩
theorem reffind_nil (w : World) (a : Option Addr) (n cap : Nat) :
    Calls Try.prog 21 #[.slice a n cap, .string (sB [])] w fun e w' => e = .returned (.slice none 0 0) ∧ w = w' := by
  have hs2 : (sB []) = ByteArray.empty := by unfold sB; rfl
  rw [hs2]
  clear hs2
  go_enter Try.func21, Try.ntmps21
  go_wp2
  refine wp_loop_rounds 1 ?_
  rw [rounds_succ]
  go_wp2
  all_goals (go_ret; exact ⟨rfl, rfl⟩)
set_option maxRecDepth 100000 in
set_option maxHeartbeats 4000000 in
theorem branges_walk (w : World) (a : Option Addr) (cap : Nat) (A : Nat → Option Addr) (C : Nat → Nat) (ds : List (List Nat)) (hin : DocsIn w a A C ds) (a1 : Option Addr) (len cap1 : Nat) (f : Nat → Int) (hl : len ≤ maxLen) (hr : Row w a1 len (fun k => .int .u8 (f k)) ∧ ∀ k, k < len → (Lit.int .u8 (f k)).wf = true) :
    Calls Try.prog 5 #[.slice a ds.length cap, .slice a1 len cap1] w fun e w' => e = .returned (.bool true) ∧ Below w.heap.size w w' := by
  obtain ⟨P, hd, hdr, hpb⟩ := bytes_list hr
  subst hd
  unfold maxLen at hl
  have HF := Lib.hid (few_any w a cap A C ds hin.many hin.docs hin.long)
  have HIN := Lib.hid hin
  have HP := Lib.hid hdr
  have HPB := Lib.hid hpb
  clear hin hr hdr hpb
  go_enter Try.func5, Try.ntmps5
  go_wp2_with fail
  refine HF.out.mono ?_
  rintro e w' ⟨b, rfl, hfew, rfl⟩
  cases b with
  | false =>
    clear hfew
    go_wp2_with (go_at_call 9; refine (awake12_any _).mono ?_; rintro e w1 ⟨rfl, hb⟩)
    go_ret
    exact ⟨rfl, hb⟩
  | true =>
    obtain ⟨hf1, hf2, hf3⟩ := hfew rfl
    have HFEW := Lib.hid (FewP.mk hf1 hf2 hf3 HIN.out.byte)
    clear hfew hf2 HF
    have HOK := Lib.hid HFEW.out.ok
    by_cases hp : (200 : Int) < (P.length : Int)
    · go_wp2_with (go_at_call 9; refine (awake12_any _).mono ?_; rintro e w1 ⟨rfl, hb⟩)
      go_ret
      exact ⟨rfl, hb⟩
    · have hpd : decide ((200 : Int) < (P.length : Int)) = false := by simp; omega
      have hpl : P.length ≤ 200 := by omega
      clear hp hl
      go_wp2_with fail
      refine (bmade_any w a cap A C ds HIN.out.docs HOK.out).mono ?_
      rintro e w1 ⟨bx, bm, al, cl, rfl, hi, hb1, hlo⟩
      have HI1 := Lib.hid hi
      have HB1 := Lib.hid hb1
      clear hi hb1 hlo
      go_wp2_with fail
      refine (strings_any w1 a cap A C ds (by omega) (HIN.out.docs.kept HB1.out)).mono ?_
      rintro e w2 ⟨ax, cx, rfl, hrs, hb2⟩
      have HS2 := Lib.hid hrs
      have HB2 : Hid (Below w.heap.size w w2) := below_next HB1.out hb2 HB1.out.size
      have HI2 := Lib.hid (HI1.out.kept hb2)
      have HLN := Lib.hid (blen_any w2 bx bm al cl _ HI2.out)
      have HRLN := Lib.hid (reflen_any w2 ax cx ds hrs (by omega))
      have HDO := Lib.hid (bdocs_any w2 bx bm al cl _ HI2.out)
      rw [bwt_zeros] at HDO
      rw [bwtOf_len] at HLN
      have z1 : (((rowOf ds).length : Int) != ((rowOf ds).length : Int)) = false := by simp
      have z2 : ((ds.length : Int) != (ds.length : Int)) = false := by simp
      clear hrs hb2 HB1 HI1
      go_wp2_with fail
      refine HLN.out.mono ?_
      rintro e w' ⟨rfl, rfl⟩
      go_wp2_with fail
      refine HRLN.out.mono ?_
      rintro e w' ⟨rfl, rfl⟩
      go_wp2_with fail
      refine HDO.out.mono ?_
      rintro e w' ⟨rfl, rfl⟩
      go_wp2_with fail
      refine (brange_any w2 bx bm al cl _ HI2.out a1 cap1 P (by omega) HPB.out (HP.out.kept HB2.out)).mono ?_
      rintro e w4 ⟨rfl, hb4⟩
      have HISB := Lib.hid (bkR_is ds HFEW.out.byte P)
      have hble := bkR_le (bwtOf ds) P
      rw [bwtOf_len] at hble
      have HB4 : Hid (Below w.heap.size w w4) := below_next HB2.out hb4 HB2.out.size
      have HI4 := Lib.hid (HI2.out.kept hb4)
      have HS4 := Lib.hid (HS2.out.kept hb4)
      clear hb4 HB2 HI2 HS2 HLN HRLN HDO z1 z2
      obtain ⟨ra, rb, hrg⟩ := range_is ds P
      have HRG := Lib.hid hrg
      have hrl := rows_len ds
      have hrb : ra ≤ rb ∧ rb ≤ 3040 := ⟨hrg.le, by have := hrg.len; omega⟩
      have HBK : ∃ lo hi, bkR (bwtOf ds) P = (lo, hi) := ⟨_, _, rfl⟩
      obtain ⟨lo, hi, hbk⟩ := HBK
      have HBK := Lib.hid hbk
      rw [hbk] at hble HISB ⊢
      simp only at hble HISB ⊢
      clear hrg hrl hbk
      have HCV : Hid (∀ W, Below w.heap.size w W → (convert 23 9 (.slice a1 P.length cap1)).run Try.prog W = .ok (.string (sB P)) W) := fun W hW => conv_str W a1 P cap1 (HP.out.kept hW)
      have hB4d : Below w.heap.size w w4.drew := HB4.out.drew
      have hcv4 := HCV.out _ hB4d
      have HS4d : Hid (Row w4.drew ax ds.length (strV ds)) := HS4.out.drew
      go_wp2_with fail
      go_region_with (first
        | (go_at_call 20; refine (rows_any _ ax cx ds HS4d.out HFEW.out.byte (by omega)).mono ?_; rintro e w5 ⟨ar, cr, rfl, hcr, hrr, hb5⟩; have HRR := Lib.hid hrr; have HS5 := Lib.hid (HS4d.out.kept hb5); have HX5 := Lib.hid hb5; have HB5 : Hid (Below w.heap.size w w5) := below_next hB4d hb5 hB4d.size; have hcv5 := HCV.out _ HB5.out; clear hcr hrr hb5)
        | (go_at_call 19; refine (refrange_any _ ax cx ds HS5.out HFEW.out.byte (by omega) ar cr HRR.out P HPB.out (by omega) ra rb HRG.out).mono ?_; rintro e w6 ⟨rfl, m, rfl⟩))
      all_goals
        have hB6 : Below w.heap.size w (w5.drewN m) := below_drewN HB5.out m
        have HS6 := Lib.hid (HS5.out.drewN m)
        have hcv6 := HCV.out _ hB6
        have HB6 := Lib.hid hB6
        have HI6 : Hid (IdxAt (w5.drewN m) bx bm al cl (bwtOf ds)) := ((HI4.out.drewN 1).kept HX5.out).drewN m
        clear hB6 hcv4 hcv5 hB4d HS4d HS4 HB4 HS5 HB5 HRR HX5 HI4
        generalize w5.drewN m = w6 at *
        by_cases hp0 : P.length = 0
        · obtain rfl : P = [] := List.eq_nil_of_length_eq_zero hp0
          obtain ⟨q1, q2⟩ := HRG.out.one (range_nil ds)
          have hbk := HBK.out
          rw [bkR_nil] at hbk
          obtain ⟨q3, q4⟩ : 0 = lo ∧ (bwtOf ds).length = hi := by injection hbk with x1 x2; exact ⟨x1, x2⟩
          rw [bwtOf_len] at q4
          rw [rows_len] at q2
          have t1 : ((lo : Int) == (ra : Int)) = true := by rw [← q3, q1]; rfl
          have t2 : ((hi : Int) == (rb : Int)) = true := by rw [← q4, q2]; simp
          have HFN := Lib.hid (reffind_nil w6 ax ds.length cx)
          have HI7 := HI6
          have HS7 := HS6
          have HB7 := HB6
          have HCT : Hid (Calls Try.prog 11 #[.pointer (some ⟨bx, 0, none⟩), .slice a1 0 cap1] w6 fun e w' => e = .returned (.int .i64 0) ∧ Below w6.heap.size w6 w') := (bcount_nil w6 bx a1 cap1).mono fun _ _ ⟨he, hw⟩ => ⟨he, by rw [← hw]; exact Below.refl _ _⟩
          clear hbk q1 q2 q3 q4 HI6 HS6 HB6 hp0
          simp only [List.length_nil] at hcv6 ⊢
          go_wp2_with fail
          refine HFN.out.mono ?_
          rintro e w' ⟨rfl, rfl⟩
          clear hcv6
          go_wp2_with fail
          refine HCT.out.mono ?_
          rintro e w8 ⟨rfl, hb8⟩
          have HB8 : Hid (Below w.heap.size w w8) := below_next HB7.out hb8 HB7.out.size
          have HI8 := Lib.hid (HI7.out.kept hb8)
          have HS8 := Lib.hid (HS7.out.kept hb8)
          clear hb8 HB7 HI7 HS7
          go_wp2_with fail
          refine (bsyms_any w8 bx bm al cl _ HI8.out).mono ?_
          rintro e w9 ⟨a9, rfl, hr9, hb9⟩
          have HR9 := Lib.hid hr9
          have HB9 : Hid (Below w.heap.size w w9) := below_next HB8.out hb9 HB8.out.size
          have HS9 := Lib.hid (HS8.out.kept hb9)
          clear hr9 hb9 HB8 HI8 HS8
          go_wp2_with fail
          refine (refbwt_any w9 ax cx ds HS9.out HFEW.out.byte (by omega)).mono ?_
          rintro e w10 ⟨a10, c10, rfl, ho10, hb10⟩
          have HSM := Lib.hid (samesyms_any w10 a9 a10 (bwtOf ds).length c10 (bwtOf ds) (bwtOf ds) (by rw [bwtOf_len]; omega) (by rw [bwtOf_len]; omega) (HR9.out.kept hb10) (symVs_row ho10))
          rw [decide_eq_true (rfl : bwtOf ds = bwtOf ds)] at HSM
          have HB10 : Hid (Below w.heap.size w w10) := below_next HB9.out hb10 HB9.out.size
          clear ho10 hb10 HB9 HS9 HR9
          go_wp2_with fail
          refine HSM.out.mono ?_
          rintro e w' ⟨rfl, m2, rfl⟩
          have HB11 : Hid (Below w.heap.size w (w10.drewN m2)) := below_drewN HB10.out m2
          generalize w10.drewN m2 = w11 at *
          go_wp2_with (go_at_call 9; refine (awake12_any _).mono ?_; rintro e w12 ⟨rfl, hb12⟩)
          go_ret
          exact ⟨rfl, below_next HB11.out hb12 HB11.out.size⟩
        · have hpz : (0 : Int) < (P.length : Int) := by omega
          have HFD := Lib.hid (reffind_any w6 ax cx ds HS6.out HFEW.out.byte (by omega) P HPB.out (by omega) (by omega))
          have HCNT := Lib.hid (found_count ds P ra rb HRG.out)
          obtain ⟨hq1, hq2⟩ := range_same HISB.out HRG.out
          have HCT0 := Lib.hid (fun (W : World) (h1 : IdxAt W bx bm al cl (bwtOf ds)) (h2 : Row W a1 P.length (byteV P)) => bcount_any W bx bm al cl _ h1 a1 cap1 P (by omega) HPB.out h2 (by omega))
          rw [HBK.out] at HCT0
          simp only at HCT0
          clear hp0
          go_wp2_with fail
          refine HFD.out.mono ?_
          rintro e w7 ⟨ah, ch, rfl, hrh, hb7⟩
          rw [HCNT.out]
          have HB7 : Hid (Below w.heap.size w w7) := below_next HB6.out hb7 HB6.out.size
          have HI7 := Lib.hid (HI6.out.kept hb7)
          have HS7 := Lib.hid (HS6.out.kept hb7)
          have HCT := Lib.hid (HCT0.out w7 HI7.out (HP.out.kept HB7.out))
          clear hrh hb7 HFD hcv6 HB6 HI6 HS6 HCT0 HCNT
          by_cases hab : ra < rb
          · obtain ⟨rfl, rfl⟩ := hq2 hab
            have t0 : ((lo : Int) == (hi : Int)) = false := by rw [beq_eq_false_iff_ne]; omega
            have t1 : ((lo : Int) == (lo : Int)) = true := by simp
            have t2 : ((hi : Int) == (hi : Int)) = true := by simp
            generalize hi - lo = N at *
            have t3 : ((N : Int) == (N : Int)) = true := by simp
            clear hq1 hq2 hab
            go_wp2_with fail
            refine HCT.out.mono ?_
            rintro e w8 ⟨rfl, hb8⟩
            have HB8 : Hid (Below w.heap.size w w8) := below_next HB7.out hb8 HB7.out.size
            have HI8 := Lib.hid (HI7.out.kept hb8)
            have HS8 := Lib.hid (HS7.out.kept hb8)
            clear hb8 HB7 HI7 HS7
            go_wp2_with fail
            refine (bsyms_any w8 bx bm al cl _ HI8.out).mono ?_
            rintro e w9 ⟨a9, rfl, hr9, hb9⟩
            have HR9 := Lib.hid hr9
            have HB9 : Hid (Below w.heap.size w w9) := below_next HB8.out hb9 HB8.out.size
            have HS9 := Lib.hid (HS8.out.kept hb9)
            clear hr9 hb9 HB8 HI8 HS8
            go_wp2_with fail
            refine (refbwt_any w9 ax cx ds HS9.out HFEW.out.byte (by omega)).mono ?_
            rintro e w10 ⟨a10, c10, rfl, ho10, hb10⟩
            have HSM := Lib.hid (samesyms_any w10 a9 a10 (bwtOf ds).length c10 (bwtOf ds) (bwtOf ds) (by rw [bwtOf_len]; omega) (by rw [bwtOf_len]; omega) (HR9.out.kept hb10) (symVs_row ho10))
            rw [decide_eq_true (rfl : bwtOf ds = bwtOf ds)] at HSM
            have HB10 : Hid (Below w.heap.size w w10) := below_next HB9.out hb10 HB9.out.size
            clear ho10 hb10 HB9 HS9 HR9
            go_wp2_with fail
            refine HSM.out.mono ?_
            rintro e w' ⟨rfl, m2, rfl⟩
            have HB11 : Hid (Below w.heap.size w (w10.drewN m2)) := below_drewN HB10.out m2
            generalize w10.drewN m2 = w11 at *
            go_wp2_with (go_at_call 9; refine (awake12_any _).mono ?_; rintro e w12 ⟨rfl, hb12⟩)
            go_ret
            exact ⟨rfl, below_next HB11.out hb12 HB11.out.size⟩
          · obtain rfl : ra = rb := by omega
            obtain rfl : lo = hi := by omega
            have HLN := Lib.hid (fun (W : World) (h1 : IdxAt W bx bm al cl (bwtOf ds)) => blen_any W bx bm al cl _ h1)
            rw [bwtOf_len] at HLN
            have t0 : ((ra : Int) == (ra : Int)) = true := by simp
            have t1 : ((lo : Int) == (lo : Int)) = true := by simp
            have t2 : (0 : Int) ≤ (lo : Int) := by omega
            have t3 : (lo : Int) ≤ ((rowOf ds).length : Int) := by omega
            have HLN2 := Lib.hid (HLN.out w7 HI7.out)
            simp only [Nat.sub_self] at HCT ⊢
            clear hq1 hq2 hab HLN
            go_wp2_with fail
            refine HLN2.out.mono ?_
            rintro e w' ⟨rfl, rfl⟩
            go_wp2_with fail
            refine HCT.out.mono ?_
            rintro e w8 ⟨rfl, hb8⟩
            have HB8 : Hid (Below w.heap.size w w8) := below_next HB7.out hb8 HB7.out.size
            go_wp2_with (go_at_call 9; refine (awake12_any _).mono ?_; rintro e w12 ⟨rfl, hb12⟩)
            go_ret
            exact ⟨rfl, below_next HB8.out hb12 HB8.out.size⟩
end Go.Proofs.Ytckmabdphdcpmaa
