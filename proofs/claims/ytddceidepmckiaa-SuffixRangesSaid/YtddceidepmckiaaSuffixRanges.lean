/-
  The statement SuffixRanges: its walk.
-/
import Derived.Test.YtddceidepmckiaaRangeWalk
import Derived.Test.YtddceidepmckiaaRefRange
namespace Go.Proofs.Ytddceidepmckiaa
open Go.RowKit

theorem found_count (ds : List (List Nat)) (P : List Nat) (lo hi : Nat) (h : RangeP ds P lo hi) : (foundL ds P (allH ds ds.length)).length = hi - lo := by
  unfold foundL; exact range_count ds P lo hi h
set_option maxRecDepth 100000 in
set_option maxHeartbeats 2000000 in
theorem sranges_walk (w : World) (a : Option Addr) (cap : Nat) (A : Nat → Option Addr) (C : Nat → Nat) (ds : List (List Nat)) (hin : DocsIn w a A C ds) (a1 : Option Addr) (len cap1 : Nat) (f : Nat → Int) (hl : len ≤ maxLen) (hr : Row w a1 len (fun k => .int .u8 (f k)) ∧ ∀ k, k < len → (Lit.int .u8 (f k)).wf = true) :
    Calls Try.prog 6 #[.slice a ds.length cap, .slice a1 len cap1] w fun e w' => e = .returned (.bool true) ∧ Below w.heap.size w w' := by
  obtain ⟨P, hd, hdr, hdb⟩ := bytes_list hr
  subst hd
  clear hr
  have HF := Lib.hid (few_any w a cap A C ds hin.many hin.docs hin.long)
  have HIN := Lib.hid hin
  have HDR := Lib.hid hdr
  have HDB := Lib.hid hdb
  unfold maxLen at hl
  clear hin hdr hdb
  go_enter Try.func6, Try.ntmps6
  go_wp2_with fail
  refine HF.out.mono ?_
  rintro e w' ⟨b, rfl, hfew, rfl⟩
  cases b with
  | false =>
    clear hfew
    go_wp2_with (go_at_call 16; refine (awake10_any _).mono ?_; rintro e w1 ⟨rfl, hb⟩)
    go_ret
    exact ⟨rfl, hb⟩
  | true =>
    obtain ⟨hf1, hf2, hf3⟩ := hfew rfl
    have HFEW := Lib.hid (FewP.mk hf1 hf2 hf3 HIN.out.byte)
    clear hfew hf2
    by_cases h200 : (200 : Int) < (P.length : Int)
    · go_wp2_with (go_at_call 16; refine (awake10_any _).mono ?_; rintro e w1 ⟨rfl, hb⟩)
      go_ret
      exact ⟨rfl, hb⟩
    · have h200d : decide ((200 : Int) < (P.length : Int)) = false := by simp; omega
      go_wp2_with fail
      refine (made_any w a cap A C ds HIN.out.docs HFEW.out.ok).mono ?_
      rintro e w1 ⟨bt, x, rfl, ht, hb1⟩
      have HT1 := Lib.hid ht
      have HB1 := Lib.hid hb1
      have HD1 := Lib.hid (HIN.out.docs.kept hb1)
      clear ht hb1 HF
      go_wp2_with fail
      refine (strings_any w1 a cap A C ds (by omega) HD1.out).mono ?_
      rintro e w2 ⟨ax, cx, rfl, hrs, hb2⟩
      have HS2 := Lib.hid hrs
      have HT2 := Lib.hid (HT1.out.kept hb2)
      have HB2 : Hid (Below w.heap.size w w2) := below_next HB1.out hb2 HB1.out.size
      clear hrs hb2 HT1 HD1 HB1
      go_wp2_with fail
      refine (refarray_any w2 ax cx ds HS2.out HFEW.out.byte (by omega)).mono ?_
      rintro e w3 ⟨ac, cc, sa, rfl, hrc, hsc, hb3, hjk⟩
      have HRC3 := Lib.hid hrc
      have HSA := Lib.hid hsc
      have HS3 := Lib.hid (HS2.out.kept hb3)
      have HT3 := Lib.hid (HT2.out.kept hb3)
      have HB3 : Hid (Below w.heap.size w w3) := below_next HB2.out hb3 HB2.out.size
      have HP3 := Lib.hid (HDR.out.kept HB3.out)
      clear hrc hsc hb3 hjk HS2 HT2 HB2
      go_wp2_with fail
      refine (range_any w3 bt x ds HT3.out HFEW.out.ok ac cc sa HRC3.out HSA.out a1 cap1 P HP3.out HDB.out (by omega)).mono ?_
      rintro e w4 ⟨lo, hi, rfl, hrg, hb4⟩
      have HRG := Lib.hid hrg
      have HS4 := Lib.hid (HS3.out.kept hb4)
      have HB4 : Hid (Below w.heap.size w w4) := below_next HB3.out hb4 HB3.out.size
      have hlh := hrg.le
      have hhn := hrg.len
      have hrl := rows_len ds
      have hhi : hi ≤ 3040 := by omega
      clear hrg hb4 HRC3 HS3 HT3 HB3 HP3 hrl hhn
      have HCV : Hid (∀ W, Below w.heap.size w W → (convert 23 9 (.slice a1 P.length cap1)).run Try.prog W = .ok (.string (sB P)) W) := fun W hW => conv_str W a1 P cap1 (HDR.out.kept hW)
      have hB4d : Below w.heap.size w w4.drew := HB4.out.drew
      have hcv4 := HCV.out _ hB4d
      have HS4d : Hid (Row w4.drew ax ds.length (strV ds)) := HS4.out.drew
      go_wp2_with fail
      go_region_with (first
        | (go_at_call 27; refine (rows_any _ ax cx ds HS4d.out HFEW.out.byte (by omega)).mono ?_; rintro e w5 ⟨ar, cr, rfl, hcr, hrr, hb5⟩; have HRR := Lib.hid hrr; have HS5 := Lib.hid (HS4d.out.kept hb5); have HB5 : Hid (Below w.heap.size w w5) := below_next hB4d hb5 hB4d.size; have hcv5 := HCV.out _ HB5.out; clear hcr hrr hb5)
        | (go_at_call 29; refine (refrange_any _ ax cx ds HS5.out HFEW.out.byte (by omega) ar cr HRR.out P HDB.out (by omega) lo hi HRG.out).mono ?_; rintro e w6 ⟨rfl, m, rfl⟩))
      all_goals
        have hB6 : Below w.heap.size w (w5.drewN m) := below_drewN HB5.out m
        have HS6 := Lib.hid (HS5.out.drewN m)
        have hcv6 := HCV.out _ hB6
        have HB6 := Lib.hid hB6
        clear hB6 hcv4 hcv5 hB4d HS4d HS4 HB4 HS5 HB5 HRR
        generalize w5.drewN m = w6 at *
        by_cases hp0 : P.length = 0
        · have hpz : (P.length : Int) = 0 := by omega
          have HPZ := Lib.hid hpz
          rw [hp0]
          clear hcv6
          go_wp2_with fail
          refine (awake10_any _).mono ?_
          rintro e w7 ⟨rfl, hb7⟩
          have HB7 := Lib.hid hb7
          clear hb7
          go_wp2
          go_ret
          exact ⟨rfl, below_next HB6.out HB7.out HB6.out.size⟩
        · have g0 : ((P.length : Int) == 0) = false := by rw [beq_eq_false_iff_ne]; omega
          have HFD := Lib.hid (reffind_any w6 ax cx ds HS6.out HFEW.out.byte (by omega) P HDB.out (by omega) (by omega))
          have hcnt := found_count ds P lo hi HRG.out
          have HCNT := Lib.hid hcnt
          clear hcnt
          go_wp2_with fail
          refine HFD.out.mono ?_
          rintro e w7 ⟨ah, ch, rfl, hrh, hb7⟩
          rw [HCNT.out]
          have HB7 : Hid (Below w.heap.size w w7) := below_next HB6.out hb7 HB6.out.size
          have he : ((hi : Int) - (lo : Int)) = ((hi - lo : Nat) : Int) := by omega
          have hew : IntKind.i64.wrap ((hi : Int) - (lo : Int)) = ((hi - lo : Nat) : Int) := by rw [he]; exact IntWalk.i64_in _ (by omega)
          clear hrh hb7 HFD hcv6
          go_wp2_with fail
          refine (awake10_any _).mono ?_
          rintro e w8 ⟨rfl, hb8⟩
          have HB8 := Lib.hid hb8
          clear hb8
          go_wp2
          go_ret
          exact ⟨rfl, below_next HB7.out HB8.out HB7.out.size⟩
end Go.Proofs.Ytddceidepmckiaa
