/-
  The statement TextPlaces: its walk.
-/
import Derived.Test.YtehgpggkicoddaaTextLaw
namespace Go.Proofs.Ytehgpggkicoddaa
open Go.RowKit

theorem tplace_any (w : World) (bt : Nat) (x : TxP) (ds : List (List Nat)) (ht : TextAt w bt x ds) (r k : Nat) (hr : r < ds.length) (hk : k ≤ (ds.getD r []).length) (hl : startOf ds r + k ≤ 1000000) (hd : (ds.getD r []).length ≤ 1000000) :
    Calls Try.prog 18 #[.pointer (some ⟨bt, 0, none⟩), .int .i64 (r : Int), .int .i64 (k : Int)] w fun e w' => e = .returned (.tuple #[.int .i64 ((startOf ds r : Int) + (k : Int)), .bool true]) ∧ w = w' := by
  have hixa := run_ix (P := Try.prog) 48 (by kernel_rfl) size_int x.aa ds.length x.ca ht.at_.at_ .i64
  have hixd := run_ix (P := Try.prog) 22 (by kernel_rfl) size_bytes x.ad ds.length x.cd ht.docs.top.at_ .i64
  have h1 := fun W => hixa W r hr
  have h2 := fun W => hixd W r hr
  have c0 := ht.c0
  have c1 := ht.c1
  have c2 := ht.at_.cell r hr
  have c3 := ht.docs.top.cell r hr
  have t0 : decide ((r : Int) < 0) = false := by simp
  have t1 : decide (((ds.length : Nat) : Int) ≤ (r : Int)) = false := by simp; omega
  have t2 : decide (ds.length ≤ r) = false := by simp; omega
  have t3 : decide ((k : Int) < 0) = false := by simp
  clear hixa hixd ht
  generalize (ds.getD r []).length = n at *
  have t4 : decide ((n : Int) < (k : Int)) = false := by simp; omega
  have t5 : decide (n < k) = false := by simp; omega
  generalize startOf ds r = s at *
  go_enter Try.func18, Try.ntmps18
  go_wp2
  go_ret2
  exact ⟨rfl, rfl⟩
set_option maxRecDepth 100000 in
set_option maxHeartbeats 4000000 in
theorem tplaces_walk (w : World) (hm : MaxCell w) (a : Option Addr) (cap : Nat) (A : Nat → Option Addr) (C : Nat → Nat) (ds : List (List Nat)) (hin : DocsIn w a A C ds) :
    Calls Try.prog 7 #[.slice a ds.length cap] w fun e w' => e = .returned (.bool true) ∧ Below w.heap.size w w' := by
  have HF := Lib.hid (few_any w a cap A C ds hin.many hin.docs hin.long)
  have HIN := Lib.hid hin
  have HM := Lib.hid hm
  clear hin hm
  go_enter Try.func7, Try.ntmps7
  go_wp2_with fail
  refine HF.out.mono ?_
  rintro e w' ⟨b, rfl, hfew, rfl⟩
  cases b with
  | false =>
    clear hfew
    go_wp2_with (go_at_call 9; refine (awake9_any _ HM.out).mono ?_; rintro e w1 ⟨rfl, hb⟩)
    go_ret
    exact ⟨rfl, hb⟩
  | true =>
    obtain ⟨hf1, hf2, hf3⟩ := hfew rfl
    have HFEW := Lib.hid (FewP.mk hf1 hf2 hf3 HIN.out.byte)
    have HOK := Lib.hid HFEW.out.ok
    clear hfew hf2 HF
    go_wp2_with fail
    refine (tnew_any w a cap A C ds HIN.out.docs HOK.out).mono ?_
    rintro e w1 ⟨bt, x, rfl, ht, hb1⟩
    have HT := Lib.hid ht
    have HB1 := Lib.hid hb1
    have HM1 := Lib.hid (HM.out.kept hb1)
    have HD1 := Lib.hid (HIN.out.docs.kept hb1)
    clear ht hb1 HM
    have hix := run_ix (P := Try.prog) 22 (by kernel_rfl) size_bytes a ds.length cap HD1.out.top.at_ .i64
    have hsall := Lib.hid (startOf_all ds)
    have HSS := Lib.hid (fun q (hq : q < ds.length) => startOf_succ ds q hq)
    have HST := Lib.hid (fun i (hi : i ≤ ds.length) => startOf_mono ds hi (Nat.le_refl _))
    go_wp2_with fail
    go_loopw [5, 6] (fun v5 v6 wr => ∃ i : Nat, i ≤ ds.length ∧ v6 = .int .i64 (i : Int) ∧ v5 = .int .i64 ((startOf ds i : Nat) : Int) ∧ ∃ q, wr = w1.drewN q) (fun _ v6 _ => ds.length - (intOf v6).toNat)
    case atStart => exact ⟨0, Nat.zero_le _, rfl, by rw [startOf_zero]; rfl, 0, rfl⟩
    case round =>
      obtain ⟨i, hi, rfl, rfl, q, rfl⟩ := hrel
      by_cases hlt : i < ds.length
      · have hx := fun W => hix W i hlt
        have h1 := HSS.out i hlt
        have h2 := HST.out (i + 1) (by omega)
        rw [hsall.out] at h2
        have c0 : w1.cell? ⟨bOf a, oOf a + i, none⟩ = some (.slice (A i) (ds.getD i []).length (C i)) := HD1.out.top.cell i hlt
        have HRA := Lib.hid (fun k hk => row_at ds i k hlt hk)
        have HPL := Lib.hid (fun k hk W ht hl => tplace_any W bt x ds ht i k hlt hk hl (by omega))
        have HAT := Lib.hid (fun k hk W ht => tat_any W bt x ds ht HOK.out i k hlt hk)
        have H1 := Lib.hid h1
        generalize hd : ds.getD i [] = d at *
        generalize hs0 : startOf ds i = s at *
        have HS0 := Lib.hid hs0
        have HD := Lib.hid hd
        have hdl : d.length ≤ 3040 := by omega
        have HRL := Lib.hid h2
        clear hs0 hix h1 hd h2
        go_wp2_with fail
        go_loopw [5, 7] (fun v5 v7 wr => ∃ k : Nat, k ≤ d.length + 1 ∧ v7 = .int .i64 (k : Int) ∧ v5 = .int .i64 ((s + k : Nat) : Int) ∧ ∃ q, wr = w1.drewN q) (fun _ v7 _ => d.length + 1 - (intOf v7).toNat)
        case atStart => exact ⟨0, Nat.zero_le _, rfl, rfl, _, rfl⟩
        case round =>
          obtain ⟨k, hk, rfl, rfl, q, rfl⟩ := hrel
          by_cases hkl : k ≤ d.length
          · have hpl : s + k < (rowOf ds).length := by have := H1.out; have := HRL.out; omega
            have HXQ : Hid (∀ m, ∃ j, (w1.drewN q).drewN m = w1.drewN j) := fun m => ⟨_, World.drewN_drewN _ _ _⟩
            have HTq := Lib.hid (HT.out.drewN q)
            have d0 : (w1.drewN q).cell? ⟨bOf a, oOf a + i, none⟩ = some (.slice (A i) d.length (C i)) := c0
            have HP := Lib.hid (HPL.out k hkl (w1.drewN q) HTq.out (by omega))
            have HA := Lib.hid (HAT.out k hkl (w1.drewN q) HTq.out)
            have hrk := HRA.out k hkl
            rw [show ((s : Nat) : Int) + (k : Int) = ((s + k : Nat) : Int) by omega] at HP
            generalize hn : s + k = n at *
            have HN := Lib.hid hn
            clear hn HRA HPL HAT
            generalize w1.drewN q = wx at *
            have hnc := row_le ds HIN.out.byte _ (getD_mem' hpl)
            go_wp2_with fail
            refine HP.out.mono ?_
            rintro e w' ⟨rfl, rfl⟩
            go_wp2_with fail
            refine HA.out.mono ?_
            rintro e w' ⟨rfl, j, rfl⟩
            have HSYM := Lib.hid (fun m => tsym_any ((wx.drewN j).drewN m) bt x ds ((HTq.out.drewN j).drewN m) (row_le ds HIN.out.byte) n hpl (by omega))
            have d1 : (wx.drewN j).cell? ⟨bOf a, oOf a + i, none⟩ = some (.slice (A i) d.length (C i)) := d0
            have HXR : Hid (∀ m, ∃ j', (wx.drewN j).drewN m = w1.drewN j') := fun m => by rw [World.drewN_drewN]; exact HXQ.out _
            clear d0 HTq HXQ HP HA
            generalize wx.drewN j = wy at *
            by_cases hke : k = d.length
            · rw [if_neg (by omega)] at hrk
              rw [hrk] at HSYM
              have y1 : ((k : Int) == (d.length : Int)) = true := by simp [hke]
              have y2 : (k == d.length) = true := by simp [hke]
              clear hrk hke hnc
              go_wp2_with fail
              go_quiet ((go_at_call 11; refine Calls.quiet_of ((HSYM.out _).mono fun _ _ ⟨he, hw⟩ => ⟨he, 0, hw.symm⟩)))
              go_wp2
              go_roundw
              case rel => exact ⟨k + 1, by omega, by go_num, by rw [show s + (k + 1) = n + 1 by have := HN.out; omega]; go_num, HXR.out nq⟩
              case measure => simp [intOf]; omega
            · rw [if_pos (by omega)] at hrk
              rw [hrk] at HSYM
              have hcb : d.getD k 0 + 1 ≤ 256 := by omega
              have y1 : ((k : Int) == (d.length : Int)) = false := by simp; omega
              have y2 : (k == d.length) = false := by simp; omega
              clear hrk hnc
              generalize d.getD k 0 = c at *
              have y3 : ((((c + 1 : Nat)) : Int) == 0) = false := by rw [beq_eq_false_iff_ne]; omega
              have y4 : (((c : Int) + 1) == 0) = false := by rw [beq_eq_false_iff_ne]; omega
              go_wp2_with fail
              go_quiet ((go_at_call 11; refine Calls.quiet_of ((HSYM.out _).mono fun _ _ ⟨he, hw⟩ => ⟨he, 0, hw.symm⟩)))
              go_wp2
              go_roundw
              case rel => exact ⟨k + 1, by omega, by go_num, by rw [show s + (k + 1) = n + 1 by have := HN.out; omega]; go_num, HXR.out nq⟩
              case measure => simp [intOf]; omega
          · obtain rfl : k = d.length + 1 := by omega
            have t1 : ¬ ((d.length : Int) + 1 ≤ (d.length : Int)) := by omega
            have t2 : decide (((d.length + 1 : Nat) : Int) ≤ (d.length : Int)) = false := by simp; omega
            have t3 : decide (d.length + 1 ≤ d.length) = false := by simp
            have t4 : decide ((d.length : Int) + 1 ≤ (d.length : Int)) = false := by simp; omega
            go_wp2_with fail
            go_roundw
            case rel => exact ⟨i + 1, by omega, by go_num, by rw [show startOf ds (i + 1) = s + (d.length + 1) by have := H1.out; omega], _, rfl⟩
            case measure => simp [intOf]; omega
      · obtain rfl : i = ds.length := by omega
        have hs1 := Lib.hid (tat_no (w1.drewN q) bt x ds (HT.out.drewN q) ((startOf ds ds.length : Nat) : Int) (.inr (by rw [hsall.out]; exact Int.le_refl _)))
        have hl1 := tlen_any (w1.drewN q) bt x ds (HT.out.drewN q)
        rw [← hsall.out] at hl1
        have HL1 := Lib.hid hl1
        have HM3 := Lib.hid (HM1.out.drewN q)
        have HB3 : Hid (Below w.heap.size w (w1.drewN q)) := below_drewN HB1.out q
        clear hl1 hix hlt
        generalize startOf ds ds.length = n at *
        generalize w1.drewN q = w3 at *
        go_wp2_with (first
          | (go_at_call 19; with_reducible refine hs1.out.mono ?_; rintro e w' ⟨rfl, rfl⟩)
          | (go_at_call 12; refine HL1.out.mono ?_; rintro e w' ⟨rfl, rfl⟩)
          | (go_at_call 9; refine (awake9_any _ HM3.out).mono ?_; rintro e w4 ⟨rfl, hb4⟩))
        go_ret
        exact ⟨rfl, below_next HB3.out hb4 HB3.out.size⟩
end Go.Proofs.Ytehgpggkicoddaa
