/-
  The statement TextSyms: its walk.
-/
import Derived.Test.YtehgpggkicoddaaTextLaw
namespace Go.Proofs.Ytehgpggkicoddaa
open Go.RowKit

set_option maxRecDepth 100000 in
set_option maxHeartbeats 4000000 in
theorem tsyms_walk (w : World) (hm : MaxCell w) (a : Option Addr) (cap : Nat) (A : Nat → Option Addr) (C : Nat → Nat) (ds : List (List Nat)) (hin : DocsIn w a A C ds) :
    Calls Try.prog 3 #[.slice a ds.length cap] w fun e w' => e = .returned (.bool true) ∧ Below w.heap.size w w' := by
  have HF := Lib.hid (few_any w a cap A C ds hin.many hin.docs hin.long)
  have HIN := Lib.hid hin
  have HM := Lib.hid hm
  clear hin hm
  go_enter Try.func3, Try.ntmps3
  go_wp2_with fail
  refine HF.out.mono ?_
  rintro e w' ⟨b, rfl, hfew, rfl⟩
  cases b with
  | false =>
    clear hfew
    go_wp2_with (go_at_call 9; refine (awake9_any _ HM.out).mono ?_; rintro e w1 ⟨rfl, hb⟩)
    go_ret
    exact ⟨rfl, hb⟩
  | true =>
    obtain ⟨hf1, hf2, hf3⟩ := hfew rfl
    have HFEW := Lib.hid (FewP.mk hf1 hf2 hf3 HIN.out.byte)
    have HOK := Lib.hid HFEW.out.ok
    clear hfew hf2 HF
    go_wp2_with fail
    refine (tnew_any w a cap A C ds HIN.out.docs HOK.out).mono ?_
    rintro e w1 ⟨bt, x, rfl, ht, hb1⟩
    have HT := Lib.hid ht
    have HB1 := Lib.hid hb1
    have HM1 := Lib.hid (HM.out.kept hb1)
    have HD1 := Lib.hid (HIN.out.docs.kept hb1)
    have HSY := Lib.hid (fun j p hp => tsym_any (w1.drewN j) bt x ds (ht.drewN j) (row_le ds HIN.out.byte) p hp (by omega))
    clear ht hb1 HM
    have hix := run_ix (P := Try.prog) 22 (by kernel_rfl) size_bytes a ds.length cap HD1.out.top.at_ .i64
    have hsall := Lib.hid (startOf_all ds)
    have HSS := Lib.hid (fun q (hq : q < ds.length) => startOf_succ ds q hq)
    have HST := Lib.hid (fun i (hi : i ≤ ds.length) => startOf_mono ds hi (Nat.le_refl _))
    go_wp2_with fail
    go_loopw [5, 6] (fun v5 v6 wr => ∃ i : Nat, i ≤ ds.length ∧ v6 = .int .i64 (i : Int) ∧ v5 = .int .i64 ((startOf ds i : Nat) : Int) ∧ ∃ q, wr = w1.drewN q) (fun _ v6 _ => ds.length - (intOf v6).toNat)
    case atStart => exact ⟨0, Nat.zero_le _, rfl, by rw [startOf_zero]; rfl, 0, rfl⟩
    case round =>
      obtain ⟨i, hi, rfl, rfl, q, rfl⟩ := hrel
      by_cases hlt : i < ds.length
      · have hx := fun W => hix W i hlt
        have h1 := HSS.out i hlt
        have h2 := HST.out (i + 1) (by omega)
        rw [hsall.out] at h2
        have c0 : w1.cell? ⟨bOf a, oOf a + i, none⟩ = some (.slice (A i) (ds.getD i []).length (C i)) := HD1.out.top.cell i hlt
        have HDR := Lib.hid (HD1.out.each i hlt)
        have HRA := Lib.hid (fun k hk => row_at ds i k hlt hk)
        have HBY := Lib.hid (HIN.out.byte _ (doc_mem hlt))
        have hixd := run_ix (P := Try.prog) 29 (by kernel_rfl) size_u8 (A i) (ds.getD i []).length (C i) HDR.out.at_ .i64
        have H1 := Lib.hid h1
        generalize ds.getD i [] = d at *
        generalize hs0 : startOf ds i = s at *
        have HS0 := Lib.hid hs0
        have hdl : d.length ≤ 3040 := by omega
        clear hs0 hix h1
        go_wp2_with fail
        go_loopw [5, 7] (fun v5 v7 wr => ∃ k : Nat, k ≤ d.length ∧ v7 = .int .i64 (k : Int) ∧ v5 = .int .i64 ((s + k : Nat) : Int) ∧ ∃ q, wr = w1.drewN q) (fun _ v7 _ => d.length - (intOf v7).toNat)
        case atStart => exact ⟨0, Nat.zero_le _, rfl, rfl, _, rfl⟩
        case round =>
          obtain ⟨k, hk, rfl, rfl, q, rfl⟩ := hrel
          have hrk := HRA.out k hk
          have hpl : s + k < (rowOf ds).length := by have := H1.out; omega
          generalize hn : s + k = n at *
          have HN := Lib.hid hn
          clear hn
          by_cases hkl : k < d.length
          · rw [if_pos hkl] at hrk
            have HC := Lib.hid (fun j => tsym_any ((w1.drewN q).drewN j) bt x ds ((HT.out.drewN q).drewN j) (row_le ds HIN.out.byte) n hpl (by omega))
            have hcb := HBY.out _ (getD_mem' hkl)
            have d1 : w1.cell? ⟨bOf (A i), oOf (A i) + k, none⟩ = some (.int .u8 ((d.getD k 0 : Nat) : Int)) := HDR.out.cell k hkl
            have hxk := fun W => hixd W k hkl
            rw [hrk] at HC
            generalize d.getD k 0 = c at *
            clear hrk
            have y0 : ((((c + 1 : Nat) : Int)) != (c : Int) + 1) = false := by simp
            have d0 : (w1.drewN q).cell? ⟨bOf a, oOf a + i, none⟩ = some (.slice (A i) d.length (C i)) := c0
            have d2 : (w1.drewN q).cell? ⟨bOf (A i), oOf (A i) + k, none⟩ = some (.int .u8 (c : Int)) := d1
            have HXQ : Hid (∀ m, ∃ j, (w1.drewN q).drewN m = w1.drewN j) := fun m => ⟨_, World.drewN_drewN _ _ _⟩
            clear d1
            generalize w1.drewN q = wx at *
            go_wp2_with fail
            go_quiet ((go_at_call 11; refine Calls.quiet_of ((HC.out _).mono fun _ _ ⟨he, hw⟩ => ⟨he, 0, hw.symm⟩)))
            go_wp2
            go_roundw
            case rel => exact ⟨k + 1, by omega, by go_num, by rw [show s + (k + 1) = n + 1 by have := HN.out; omega]; go_num, HXQ.out nq⟩
            case measure => simp [intOf]; omega
          · obtain rfl : k = d.length := by omega
            rw [if_neg (by omega)] at hrk
            have HC := Lib.hid (HSY.out q n hpl)
            rw [hrk] at HC
            clear hrk
            have hdd : decide ((d.length : Int) < (d.length : Int)) = false := by simp
            go_wp2_with fail
            refine HC.out.mono ?_
            rintro e w' ⟨rfl, rfl⟩
            go_wp2
            go_roundw
            case rel => exact ⟨i + 1, by omega, by go_num, by rw [show startOf ds (i + 1) = n + 1 by have := HN.out; have := H1.out; omega]; go_num, _, rfl⟩
            case measure => simp [intOf]; omega
      · obtain rfl : i = ds.length := by omega
        have hs1 := Lib.hid (tsym_no (w1.drewN q) bt x ds (HT.out.drewN q) ((startOf ds ds.length : Nat) : Int) (.inr (by rw [hsall.out]; exact Int.le_refl _)))
        have hs2 := Lib.hid (tsym_no (w1.drewN q) bt x ds (HT.out.drewN q) (-1) (.inl (by omega)))
        have hl1 := tlen_any (w1.drewN q) bt x ds (HT.out.drewN q)
        rw [← hsall.out] at hl1
        have HL1 := Lib.hid hl1
        have HM3 := Lib.hid (HM1.out.drewN q)
        have HB3 : Hid (Below w.heap.size w (w1.drewN q)) := below_drewN HB1.out q
        clear hl1 hix hlt
        generalize startOf ds ds.length = n at *
        generalize w1.drewN q = w3 at *
        go_wp2_with (first
          | (go_at_call 11; with_reducible refine hs1.out.mono ?_; rintro e w' ⟨rfl, rfl⟩)
          | (go_at_call 11; with_reducible refine hs2.out.mono ?_; rintro e w' ⟨rfl, rfl⟩)
          | (go_at_call 12; refine HL1.out.mono ?_; rintro e w' ⟨rfl, rfl⟩)
          | (go_at_call 9; refine (awake9_any _ HM3.out).mono ?_; rintro e w4 ⟨rfl, hb4⟩))
        go_ret
        exact ⟨rfl, below_next HB3.out hb4 HB3.out.size⟩
end Go.Proofs.Ytehgpggkicoddaa
