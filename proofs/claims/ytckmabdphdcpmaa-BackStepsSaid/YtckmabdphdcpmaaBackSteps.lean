/-
  The statement BackSteps: its walk.
-/
import Derived.Test.YtckmabdphdcpmaaBackAwake
import Derived.Test.YtckmabdphdcpmaaBwtSteps
import Derived.Test.YtckmabdphdcpmaaRefStarts
namespace Go.Proofs.Ytckmabdphdcpmaa
open Go.RowKit

set_option maxRecDepth 100000 in
set_option maxHeartbeats 2000000 in
theorem bksteps_walk (w : World) (a : Option Addr) (cap : Nat) (A : Nat → Option Addr) (C : Nat → Nat) (ds : List (List Nat)) (hin : DocsIn w a A C ds) :
    Calls Try.prog 6 #[.slice a ds.length cap] w fun e w' => e = .returned (.bool true) ∧ Below w.heap.size w w' := by
  have HF := Lib.hid (few_any w a cap A C ds hin.many hin.docs hin.long)
  have HIN := Lib.hid hin
  clear hin
  go_enter Try.func6, Try.ntmps6
  go_wp2_with fail
  refine HF.out.mono ?_
  rintro e w' ⟨b, rfl, hfew, rfl⟩
  cases b with
  | false =>
    clear hfew
    go_wp2_with (go_at_call 9; refine (awake12_any _).mono ?_; rintro e w1 ⟨rfl, hb⟩)
    go_ret
    exact ⟨rfl, hb⟩
  | true =>
    obtain ⟨hf1, hf2, hf3⟩ := hfew rfl
    have HFEW := Lib.hid (FewP.mk hf1 hf2 hf3 HIN.out.byte)
    clear hfew hf2 HF
    have HOK := Lib.hid HFEW.out.ok
    have hall := HOK.out.all
    go_wp2_with fail
    refine (bmade_any w a cap A C ds HIN.out.docs HOK.out).mono ?_
    rintro e w2 ⟨bx, bm, al, cl, rfl, hi, hb2, hlo⟩
    have HI2 := Lib.hid hi
    have HB2 := Lib.hid hb2
    have HBL := Lib.hid (bwtOf_len ds)
    have HLE := Lib.hid (bwtOf_le ds HFEW.out.byte)
    have HWAY := Lib.hid (way_sa ds HFEW.out.byte)
    have HZ := Lib.hid (bwt_zeros ds)
    clear hi hb2 hlo
    generalize hL : bwtOf ds = L at *
    clear hL
    go_wp2_with fail
    refine (blen_any _ bx bm al cl L HI2.out).mono ?_
    rintro e w' ⟨rfl, rfl⟩
    obtain ⟨n, hn⟩ : ∃ n, n = L.length := ⟨_, rfl⟩
    have HN := Lib.hid hn
    rw [← hn]
    have hnr : n = (rowOf ds).length := by rw [HN.out, HBL.out]
    have HNR := Lib.hid hnr
    rw [← hnr] at hall hf3
    clear hn hnr
    have hmk := make_bool n (by omega)
    have hiy := run_ix (P := Try.prog) 47 (by kernel_rfl) size_bool (some ⟨w2.heap.size, 0, none⟩) n n (.inr rfl) .i64
    simp only [bOf, oOf, Option.map_some, Option.getD_some, Nat.zero_add] at hiy
    have HM0 := Lib.hid (World.rowIs_made w2 (.bool false) n 4)
    have HBM : Hid (Below w2.heap.size w2 (w2.alloc (.cells (madeCells #[.bool false] n) 4))) := (Below.refl _ _).alloc (Nat.le_refl _) _
    go_wp2_with fail
    clear hmk
    generalize hwm : w2.alloc (.cells (madeCells #[.bool false] n) 4) = wm at *
    clear hwm
    go_loopw [5, 6] (fun v5 v6 wr => ∃ j : Nat, j ≤ ds.length ∧ v6 = .int .i64 j ∧ v5 = .int .i64 ((startOf ds j : Nat) : Int) ∧ wr.rowIs w2.heap.size 4 n (fun q => .bool (decide ((saOf ds).getD q 0 < startOf ds j))) ∧ Below w2.heap.size w2 wr) (fun _ v6 _ => ds.length - (intOf v6).toNat)
    case atStart => exact ⟨0, Nat.zero_le _, rfl, by rw [startOf_zero]; rfl, HM0.out.congr fun q _ => by rw [startOf_zero]; simp, HBM.out⟩
    case round =>
      obtain ⟨j, hj, rfl, rfl, hrow, hbel⟩ := hrel
      clear HM0 HBM
      have HROW := Lib.hid hrow
      have HBEL := Lib.hid hbel
      have HBW : Hid (Below w.heap.size w wr) := below_next HB2.out hbel HB2.out.size
      have HDO := Lib.hid (bdocs_any wr bx bm al cl L (HI2.out.kept hbel))
      rw [HZ.out] at HDO
      have hstn : startOf ds j ≤ n := by rw [HNR.out, ← startOf_all]; exact startOf_mono ds hj (Nat.le_refl _)
      clear hrow hbel
      by_cases hlt : j < ds.length
      · obtain ⟨d, hd⟩ : ∃ d, d = ds.getD j [] := ⟨_, rfl⟩
        have hlong := HOK.out.long _ (doc_mem hlt)
        have HWJ := Lib.hid (HWAY.out j hlt)
        have hst := startOf_succ ds j hlt
        have hst2 : startOf ds (j + 1) ≤ n := by rw [HNR.out, ← startOf_all]; exact startOf_mono ds (by omega) (Nat.le_refl _)
        rw [← hd] at hlong HWJ hst
        have HST := Lib.hid hst
        obtain ⟨lo, hlo⟩ : ∃ lo, lo = startOf ds j := ⟨_, rfl⟩
        rw [← hlo] at HWJ hst HST HROW hstn ⊢
        have hlon : lo + d.length + 1 ≤ n := by omega
        clear hd hst hlo hst2
        have hjz : (j : Int) < (ds.length : Int) := by omega
        go_wp2_with fail
        refine HDO.out.mono ?_
        rintro e w' ⟨rfl, rfl⟩
        go_wp2_with fail
        go_loopw [5, 7] (fun v5 v7 wi => ∃ m : Nat, m ≤ d.length ∧ v7 = .int .i64 ((itL L j m : Nat) : Int) ∧ v5 = .int .i64 ((lo + m : Nat) : Int) ∧ wi.rowIs w2.heap.size 4 n (fun q => .bool (swB ds lo (lo + d.length - m) (lo + d.length + 1) q)) ∧ Below w2.heap.size w2 wi) (fun v5 _ _ => lo + d.length + 1 - (intOf v5).toNat)
        case atStart => exact ⟨0, Nat.zero_le _, by rw [itL_zero], rfl, HROW.out.congr fun q _ => by
          have := swB_first ds lo (lo + d.length + 1) q
          rw [show lo + d.length + 1 - 1 = lo + d.length - 0 by omega] at this
          rw [this], HBEL.out⟩
        case round =>
          obtain ⟨m, hm, rfl, rfl, hrow, hbel⟩ := hrel
          clear HROW HBEL HBW HDO
          obtain ⟨hw1, hw2, hw3⟩ := HWJ.out m hm
          obtain ⟨r, hr⟩ : ∃ r, r = itL L j m := ⟨_, rfl⟩
          have HIS := Lib.hid (itL_succ L j m)
          rw [← hr] at hw1 hw2 hw3 HIS ⊢
          rw [← HNR.out] at hw1
          have d2 : wr.cell? ⟨w2.heap.size, r, none⟩ = some (.bool false) := by rw [hrow.cell (i := r) hw1, swB_at ds _ _ _ _ (by rw [hw2]; omega) (by omega)]
          have d3 := hrow.frozen r
          have HROW := Lib.hid hrow
          have HBEL := Lib.hid hbel
          have HW2 := Lib.hid hw2
          have HB6 : Hid (Below w2.heap.size w2 (wr.setCell ⟨w2.heap.size, r, none⟩ (.bool true))) := hbel.setCell (p := ⟨w2.heap.size, r, none⟩) (Nat.le_refl _) _
          have hr1 : decide ((r : Int) < 0) = false := by simp
          have hr2 : decide ((n : Int) ≤ (r : Int)) = false := by simp; omega
          have hx := fun W => hiy W r hw1
          clear hr hrow hbel hw2
          by_cases hml : m < d.length
          · rw [if_pos hml] at hw3
            have hrow6 : (wr.setCell ⟨w2.heap.size, r, none⟩ (.bool true)).rowIs w2.heap.size 4 n (fun q => .bool (swB ds lo (lo + d.length - (m + 1)) (lo + d.length + 1) q)) := (HROW.out.set r (.bool true)).congr fun q hq => by
              rw [show lo + d.length - (m + 1) = lo + d.length - m - 1 by omega, ← swB_next ds lo (lo + d.length - m) (lo + d.length + 1) r q (by rw [← HNR.out]; exact hw1) (by rw [← HNR.out]; exact hq) (by rw [HW2.out]; omega) (by omega) (by omega)]
              by_cases e : q = r
              · rw [if_pos e, if_pos e]
              · rw [if_neg e, if_neg e]
            have HROW6 := Lib.hid hrow6
            have HSY := Lib.hid (bstep_yes _ bx bm al cl L (HI2.out.kept HB6.out) r (by rw [← HN.out]; exact hw1) (by rw [hw3]; omega))
            clear hrow6 hw3
            generalize stepL L r = s at *
            go_wp2_with fail
            refine HSY.out.mono ?_
            rintro e w' ⟨rfl, q, rfl⟩
            have HROW7 := Lib.hid (row_drewN HROW6.out q)
            have HB7 : Hid (Below w2.heap.size w2 _) := below_drewN HB6.out q
            clear HROW6 HB6 HSY HROW HBEL d2 d3
            go_wp2_with fail
            go_roundw
            case rel => exact ⟨m + 1, by omega, by rw [HIS.out], by go_num, HROW7.out, HB7.out⟩
            case measure => simp [intOf]; omega
          · obtain rfl : m = d.length := by omega
            rw [if_neg (by omega)] at hw3
            have hrow6 : (wr.setCell ⟨w2.heap.size, r, none⟩ (.bool true)).rowIs w2.heap.size 4 n (fun q => .bool (decide ((saOf ds).getD q 0 < startOf ds (j + 1)))) := (HROW.out.set r (.bool true)).congr fun q hq => by
              rw [HST.out, ← swB_last ds lo (lo + d.length + 1) r q (by rw [← HNR.out]; exact hw1) (by rw [← HNR.out]; exact hq) (by rw [HW2.out]; omega) (by omega)]
              by_cases e : q = r
              · rw [if_pos e, if_pos e]
              · rw [if_neg e, if_neg e, show lo + d.length - d.length = lo by omega]
            have HROW6 := Lib.hid hrow6
            have HSN := Lib.hid (bstep_no _ bx bm al cl L (HI2.out.kept HB6.out) (r : Int) (.inr (.inr (by rw [Int.toNat_natCast]; exact hw3))))
            clear hrow6 hw3
            go_wp2_with fail
            refine HSN.out.mono ?_
            rintro e w' ⟨rfl, q, rfl⟩
            have HROW7 := Lib.hid (row_drewN HROW6.out q)
            have HB7 : Hid (Below w2.heap.size w2 _) := below_drewN HB6.out q
            clear HROW6 HB6 HSN HROW HBEL d2 d3
            go_wp2_with fail
            go_roundw
            case rel => exact ⟨j + 1, by omega, by go_num, by rw [HST.out]; go_num, HROW7.out, HB7.out⟩
            case measure => simp [intOf]; omega
      · obtain rfl : j = ds.length := by omega
        have hd : decide ((ds.length : Int) < (ds.length : Int)) = false := by simp
        rw [startOf_all]
        have HDK := Lib.hid (HIN.out.docs.kept HBW.out)
        have hqq : (((rowOf ds).length : Int) == ((rowOf ds).length : Int)) = true := by simp
        have hml : (rowOf ds).length ≤ 3040 := by rw [← HNR.out]; exact hf3
        go_wp2_with fail
        refine HDO.out.mono ?_
        rintro e w' ⟨rfl, rfl⟩
        go_wp2_with fail
        refine (strings_any wr a cap A C ds (by omega) HDK.out).mono ?_
        rintro e w5 ⟨a5, c5, rfl, hr5, hb5⟩
        have HL5 := Lib.hid (reflen_any w5 a5 c5 ds hr5 (by omega))
        have HB5 : Hid (Below w.heap.size w w5) := below_next HBW.out hb5 HBW.out.size
        clear hr5 hb5
        go_wp2_with fail
        refine HL5.out.mono ?_
        rintro e w' ⟨rfl, rfl⟩
        go_wp2_with (go_at_call 9; refine (awake12_any _).mono ?_; rintro e w9 ⟨rfl, hb9⟩)
        go_ret
        exact ⟨rfl, below_next HB5.out hb9 HB5.out.size⟩
end Go.Proofs.Ytckmabdphdcpmaa
