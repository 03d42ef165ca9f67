/-
  The statement BwtSteps: its walk.
-/
import Derived.Test.YtddceidepmckiaaBwtAwake
namespace Go.Proofs.Ytddceidepmckiaa
open Go.RowKit

/-- the rows that have been gone through: those of places below lo, or between t and hi -/
def swB (ds : List (List Nat)) (lo t hi q : Nat) : Bool := decide ((saOf ds).getD q 0 < lo ∨ (t < (saOf ds).getD q 0 ∧ (saOf ds).getD q 0 < hi))
theorem swB_first (ds : List (List Nat)) (lo hi q : Nat) : swB ds lo (hi - 1) hi q = decide ((saOf ds).getD q 0 < lo) := by
  unfold swB; rw [decide_eq_decide]; omega
theorem swB_at (ds : List (List Nat)) (lo t hi q : Nat) (h : (saOf ds).getD q 0 = t) (hl : lo ≤ t) : swB ds lo t hi q = false := by
  unfold swB; rw [decide_eq_false_iff_not, h]; omega
theorem sa_inj (ds : List (List Nat)) (q r : Nat) (hq : q < (rowOf ds).length) (hr : r < (rowOf ds).length) (h : (saOf ds).getD q 0 = (saOf ds).getD r 0) : q = r := by
  have hs := saOf_sa ds
  have hn : (saOf ds).Nodup := nodup_ltS hs.ord
  rw [← hs.len] at hq hr
  refine nodup_getElem? hn (x := (saOf ds).getD q 0) ?_ ?_
  · rw [List.getD_eq_getElem?_getD, List.getElem?_eq_getElem hq]; rfl
  · rw [h, List.getD_eq_getElem?_getD, List.getElem?_eq_getElem hr]; rfl
theorem swB_next (ds : List (List Nat)) (lo t hi r q : Nat) (hr : r < (rowOf ds).length) (hq : q < (rowOf ds).length) (h : (saOf ds).getD r 0 = t) (h1 : t < hi) (h0 : 0 < t) : (if q = r then true else swB ds lo t hi q) = swB ds lo (t - 1) hi q := by
  by_cases e : q = r
  · subst e; rw [if_pos rfl]; unfold swB; symm; rw [decide_eq_true_eq, h]; omega
  · rw [if_neg e]
    have : (saOf ds).getD q 0 ≠ t := fun e2 => e (sa_inj ds q r hq hr (by rw [e2, h]))
    unfold swB; rw [decide_eq_decide]; omega
theorem swB_last (ds : List (List Nat)) (lo hi r q : Nat) (hr : r < (rowOf ds).length) (hq : q < (rowOf ds).length) (h : (saOf ds).getD r 0 = lo) (h1 : lo < hi) : (if q = r then true else swB ds lo lo hi q) = decide ((saOf ds).getD q 0 < hi) := by
  by_cases e : q = r
  · subst e; rw [if_pos rfl, h]; symm; simpa using h1
  · rw [if_neg e]
    have : (saOf ds).getD q 0 ≠ lo := fun e2 => e (sa_inj ds q r hq hr (by rw [e2, h]))
    unfold swB; rw [decide_eq_decide]; omega
attribute [irreducible] swB
theorem size_bool (w : World) : (sizeOf (Try.prog.elem 74)).run Try.prog w = .ok 1 w := by kernel_rfl
theorem info_bool : (Try.prog.info? 4).map (fun i => (i.zero, i.size, i.bytes)) = some (some (.bool false), 1, 1) := by kernel_rfl
theorem make_bool (n : Nat) (h : n ≤ 1000000) : ∀ W : World, (Instr.makeSlice 74 (.int .i64 (n : Int)) (.int .i64 (n : Int))).run Try.prog W = .ok (.slice (some ⟨W.heap.size, 0, none⟩) n n) (W.alloc (.cells (madeCells #[.bool false] n) 4)) := by
  intro W
  obtain ⟨i0, hi, hz0, hz1, hz2⟩ := info_parts info_bool
  have := run_make (P := Try.prog) W 74 4 i0 _ Try.underlying74 hi hz0 .i64 .i64 n n (by omega) (by omega) (by rw [hz2]; omega) (by omega)
  rw [hz1] at this
  simpa [Value.cells] using this
set_option maxRecDepth 100000 in
set_option maxHeartbeats 2000000 in
theorem bsteps_walk (w : World) (a : Option Addr) (cap : Nat) (A : Nat → Option Addr) (C : Nat → Nat) (ds : List (List Nat)) (hin : DocsIn w a A C ds) :
    Calls Try.prog 13 #[.slice a ds.length cap] w fun e w' => e = .returned (.bool true) ∧ Below w.heap.size w w' := by
  have HF := Lib.hid (few_any w a cap A C ds hin.many hin.docs hin.long)
  have hix := run_ix (P := Try.prog) 22 (by kernel_rfl) size_bytes a ds.length cap hin.docs.top.at_ .i64
  have HIN := Lib.hid hin
  clear hin
  go_enter Try.func13, Try.ntmps13
  go_wp2_with fail
  refine HF.out.mono ?_
  rintro e w' ⟨b, rfl, hfew, rfl⟩
  cases b with
  | false =>
    clear hfew
    go_wp2_with (go_at_call 32; refine (awake11_any _).mono ?_; rintro e w1 ⟨rfl, hb⟩)
    go_ret
    exact ⟨rfl, hb⟩
  | true =>
    obtain ⟨hf1, hf2, hf3⟩ := hfew rfl
    have HFEW := Lib.hid (FewP.mk hf1 hf2 hf3 HIN.out.byte)
    clear hfew hf2 HF
    have HOK := Lib.hid HFEW.out.ok
    have hall := HOK.out.all
    go_wp2_with fail
    refine (tnew_any w a cap A C ds HIN.out.docs HOK.out).mono ?_
    rintro e w1 ⟨bt, x, rfl, ht, hb1⟩
    have HT := Lib.hid ht
    have HB1 := Lib.hid hb1
    clear ht hb1
    go_wp2_with fail
    refine (of_any w1 bt x ds HT.out HOK.out).mono ?_
    rintro e w2 ⟨a5, rfl, hr5, hb2, hjunk⟩
    have HR5 := Lib.hid hr5
    have HT2 := Lib.hid (HT.out.kept hb2)
    have HB2 : Hid (Below w.heap.size w w2) := below_next HB1.out hb2 HB1.out.size
    have hixb := run_ix (P := Try.prog) 52 (by kernel_rfl) size_u16 a5 (bwtOf ds).length (bwtOf ds).length hr5.at_ .i64
    have HBL := Lib.hid (bwtOf_len ds)
    have HLE := Lib.hid (bwtOf_le ds HFEW.out.byte)
    have HWAY := Lib.hid (way_sa ds HFEW.out.byte)
    clear hr5 hb2 HT HB1 hjunk
    go_wp2_with fail
    refine (tlen_any _ bt x ds HT2.out).mono ?_
    rintro e w' ⟨rfl, rfl⟩
    rw [← HBL.out]
    rw [← HBL.out] at hall
    generalize hL : bwtOf ds = L at *
    clear hL
    obtain ⟨n, hn⟩ : ∃ n, n = L.length := ⟨_, rfl⟩
    have HN := Lib.hid hn
    rw [← hn] at hixb hall ⊢
    clear hn
    have hmk := make_bool n (by omega)
    have hiy := run_ix (P := Try.prog) 74 (by kernel_rfl) size_bool (some ⟨w2.heap.size, 0, none⟩) n n (.inr rfl) .i64
    simp only [bOf, oOf, Option.map_some, Option.getD_some, Nat.zero_add] at hiy
    have HM0 := Lib.hid (World.rowIs_made w2 (.bool false) n 4)
    have HBM : Hid (Below w2.heap.size w2 (w2.alloc (.cells (madeCells #[.bool false] n) 4))) := (Below.refl _ _).alloc (Nat.le_refl _) _
    go_wp2_with fail
    clear hmk
    have hnr : n = (rowOf ds).length := by rw [HN.out, HBL.out]
    have HNR := Lib.hid hnr
    rw [HN.out.symm] at HR5
    clear hnr
    generalize hwm : w2.alloc (.cells (madeCells #[.bool false] n) 4) = wm at *
    clear hwm
    go_loopw [7] (fun v7 wr => ∃ j : Nat, j ≤ ds.length ∧ v7 = .int .i64 j ∧ wr.rowIs w2.heap.size 4 n (fun q => .bool (decide ((saOf ds).getD q 0 < startOf ds j))) ∧ Below w2.heap.size w2 wr) (fun v7 _ => ds.length - (intOf v7).toNat)
    case atStart => exact ⟨0, Nat.zero_le _, rfl, HM0.out.congr fun q _ => by rw [startOf_zero]; simp, HBM.out⟩
    case round =>
      obtain ⟨j, hj, rfl, hrow, hbel⟩ := hrel
      clear HM0 HBM
      have HROW := Lib.hid hrow
      have HBEL := Lib.hid hbel
      have hbw : Below w.heap.size w wr := below_next HB2.out hbel HB2.out.size
      have HBW := Lib.hid hbw
      by_cases hlt : j < ds.length
      · obtain ⟨d, hd⟩ : ∃ d, d = ds.getD j [] := ⟨_, rfl⟩
        have d0 : wr.cell? ⟨bOf a, oOf a + j, none⟩ = some (.slice (A j) d.length (C j)) := by rw [hd]; exact (HIN.out.docs.kept hbw).top.cell j hlt
        have hlong := HOK.out.long _ (doc_mem hlt)
        have HWJ := Lib.hid (HWAY.out j hlt)
        have HDW := Lib.hid (HIN.out.docs.each j hlt)
        have HBY := Lib.hid (HOK.out.byte _ (doc_mem hlt))
        have hst := startOf_succ ds j hlt
        rw [← hd] at hlong HWJ HDW HBY hst
        have HST := Lib.hid hst
        have HDD := Lib.hid hd
        obtain ⟨lo, hlo⟩ : ∃ lo, lo = startOf ds j := ⟨_, rfl⟩
        rw [← hlo] at HWJ hst HST HROW
        have HLO := Lib.hid hlo
        have e1 : IntKind.i64.wrap ((d.length : Int) - 1) = (d.length : Int) - 1 := IntWalk.i64_in _ (by omega)
        have hixd := run_ix (P := Try.prog) 23 (by kernel_rfl) size_u8 (A j) d.length (C j) HDW.out.at_ .i64
        clear hrow hbel hbw hd hst hlo
        have hjz : (j : Int) < (ds.length : Int) := by omega
        go_wp2_with fail
        clear e1
        go_loopw [8, 9] (fun v8 v9 wi => ∃ m : Nat, m ≤ d.length ∧ v8 = .int .i64 ((itL L j m : Nat) : Int) ∧ v9 = .int .i64 ((d.length : Int) - 1 - m) ∧ wi.rowIs w2.heap.size 4 n (fun q => .bool (swB ds lo (lo + d.length - m) (lo + d.length + 1) q)) ∧ Below w2.heap.size w2 wi) (fun _ v9 _ => (intOf v9 + 1).toNat)
        case atStart => exact ⟨0, Nat.zero_le _, by rw [itL_zero], by simp, HROW.out.congr fun q _ => by
          have := swB_first ds lo (lo + d.length + 1) q
          rw [show lo + d.length + 1 - 1 = lo + d.length - 0 by omega] at this
          rw [this], HBEL.out⟩
        case round =>
          obtain ⟨m, hm, rfl, rfl, hrow, hbel⟩ := hrel
          clear HROW HBEL HBW
          obtain ⟨hw1, hw2, hw3⟩ := HWJ.out m hm
          obtain ⟨r, hr⟩ : ∃ r, r = itL L j m := ⟨_, rfl⟩
          have HIS := Lib.hid (itL_succ L j m)
          rw [← hr] at hw1 hw2 hw3 HIS ⊢
          rw [← HNR.out] at hw1
          have hbw : Below w.heap.size w wr := below_next HB2.out hbel HB2.out.size
          have d1 : wr.cell? ⟨bOf a5, oOf a5 + r, none⟩ = some (.int .u16 ((L.getD r 0 : Nat) : Int)) := (HR5.out.kept hbel).cell r hw1
          have d2 : wr.cell? ⟨w2.heap.size, r, none⟩ = some (.bool false) := by rw [hrow.cell (i := r) hw1, swB_at ds _ _ _ _ (by rw [hw2]; omega) (by omega)]
          have d3 := hrow.frozen r
          have d0' : wr.cell? ⟨bOf a, oOf a + j, none⟩ = some (.slice (A j) d.length (C j)) := by
            have := (HIN.out.docs.kept hbw).top.cell j hlt
            rw [this]
            show some (Value.slice (A j) (ds.getD j []).length (C j)) = _
            rw [← HDD.out]
          have HROW := Lib.hid hrow
          have HBEL := Lib.hid hbel
          have HBW := Lib.hid hbw
          have hsz := hbel.size
          have hrl := hrow.lt
          have HW2 := Lib.hid hw2
          have HSL := Lib.hid (HR5.out.kept hbel)
          clear hr hrow hbel d0
          by_cases hml : m < d.length
          · obtain ⟨kk, hkk⟩ : ∃ kk, kk = d.length - 1 - m := ⟨_, rfl⟩
            have hkl : kk < d.length := by omega
            have d4 : wr.cell? ⟨bOf (A j), oOf (A j) + kk, none⟩ = some (.int .u8 ((d.getD kk 0 : Nat) : Int)) := (HDW.out.kept hbw).cell kk hkl
            have hby := HBY.out _ (getD_mem' hkl)
            have hkz : (d.length : Int) - 1 - (m : Int) = (kk : Int) := by omega
            rw [if_pos hml, ← hkk] at hw3
            rw [hw3] at d1
            rw [hkz]
            have hsy := step_yes
            generalize hcc : d.getD kk 0 = c at *
            have x1 : IntKind.u16.wrap (c : Int) = (c : Int) := IntWalk.u16_in _ (by omega)
            have x2 : IntKind.u16.wrap ((c : Int) + 1) = ((c + 1 : Nat) : Int) := by rw [show (c : Int) + 1 = ((c + 1 : Nat) : Int) by omega]; exact IntWalk.u16_in _ (by omega)
            have x3 : (((c + 1 : Nat) : Int) != ((c + 1 : Nat) : Int)) = false := by simp
            have hk0 : (0 : Int) ≤ (kk : Int) := by omega
            clear hbw hw2 hkk hsy hcc
            go_wp2_with fail
            go_quiet (fail)
            have HKZ := Lib.hid hkz
            clear d0' d1 d4 x1 x2 x3 hkz
            have k2 : (wr.drewN nq).cell? ⟨w2.heap.size, r, none⟩ = some (.bool false) := d2
            have k3 : (wr.drewN nq).frozen? ⟨w2.heap.size, r, none⟩ = false := d3
            have HROWq : Hid ((wr.drewN nq).rowIs w2.heap.size 4 n (fun q => .bool (swB ds lo (lo + d.length - m) (lo + d.length + 1) q))) := row_drewN HROW.out nq
            have HBELq : Hid (Below w2.heap.size w2 (wr.drewN nq)) := below_drewN HBEL.out nq
            clear d2 d3 HROW HBEL HBW HSL hsz hrl
            generalize wr.drewN nq = wq at *
            have hb6 : Below w2.heap.size w2 (wq.setCell ⟨w2.heap.size, r, none⟩ (.bool true)) := HBELq.out.setCell (p := ⟨w2.heap.size, r, none⟩) (Nat.le_refl _) _
            have hsy := step_yes (wq.setCell ⟨w2.heap.size, r, none⟩ (.bool true)) a5 n L (by rw [← HN.out]; omega) (by rw [← HN.out]; exact Nat.le_refl _) (by rw [← HN.out]; exact HR5.out.kept hb6) r (by rw [← HN.out]; exact hw1) (by rw [hw3]; omega) (by rw [hw3]; omega)
            rw [← HN.out] at hsy
            have HSY := Lib.hid hsy
            have hsl := stepL_lt L r (by rw [← HN.out]; exact hw1) HLE.out
            rw [← HN.out] at hsl
            have hrow6 : (wq.setCell ⟨w2.heap.size, r, none⟩ (.bool true)).rowIs w2.heap.size 4 n (fun q => .bool (swB ds lo (lo + d.length - (m + 1)) (lo + d.length + 1) q)) := (HROWq.out.set r (.bool true)).congr fun q hq => by
              rw [show lo + d.length - (m + 1) = lo + d.length - m - 1 by omega, ← swB_next ds lo (lo + d.length - m) (lo + d.length + 1) r q (by rw [← HNR.out]; exact hw1) (by rw [← HNR.out]; exact hq) (by rw [HW2.out]; omega) (by omega) (by omega)]
              by_cases e : q = r
              · rw [if_pos e, if_pos e]
              · rw [if_neg e, if_neg e]
            have HROW6 := Lib.hid hrow6
            have HB6 := Lib.hid hb6
            clear hsy hb6 hrow6 HROWq HBELq
            generalize stepL L r = s at *
            have hs0 : decide ((s : Int) < 0) = false := by simp
            have hs1 : decide ((n : Int) ≤ (s : Int)) = false := by simp; omega
            go_wp2_with (go_at_call 45; refine HSY.out.mono ?_; rintro e w7 ⟨rfl, hb7⟩)
            have HROW7 := Lib.hid (row_below HROW6.out hb7 HROW6.out.lt)
            have HB7 : Hid (Below w2.heap.size w2 w7) := below_next HB6.out hb7 HB6.out.size
            go_roundw
            case rel => exact ⟨m + 1, by omega, by rw [HIS.out], by (have := HKZ.out); (refine congrArg (Value.int .i64) ?_) <;> omega, HROW7.out, HB7.out⟩
            case measure => simp [intOf] <;> omega
          · obtain rfl : m = d.length := by omega
            rw [if_neg (by omega)] at hw3
            rw [hw3] at d1
            have d1' : wr.cell? ⟨bOf a5, oOf a5 + r, none⟩ = some (.int .u16 0) := d1
            have hk0 : decide ((0 : Int) ≤ (d.length : Int) - 1 - (d.length : Int)) = false := by simp; omega
            have hkz : (d.length : Int) - 1 - (d.length : Int) = -1 := by omega
            rw [hkz] at hk0 ⊢
            clear d1 hbw hw2 hkz d0'
            have hrow6 : (wr.setCell ⟨w2.heap.size, r, none⟩ (.bool true)).rowIs w2.heap.size 4 n (fun q => .bool (decide ((saOf ds).getD q 0 < startOf ds (j + 1)))) := (HROW.out.set r (.bool true)).congr fun q hq => by
              rw [HST.out, ← swB_last ds lo (lo + d.length + 1) r q (by rw [← HNR.out]; exact hw1) (by rw [← HNR.out]; exact hq) (by rw [HW2.out]; omega) (by omega)]
              by_cases e : q = r
              · rw [if_pos e, if_pos e]
              · rw [if_neg e, if_neg e, show lo + d.length - d.length = lo by omega]
            have HROW6 := Lib.hid hrow6
            have HB6 : Hid (Below w2.heap.size w2 (wr.setCell ⟨w2.heap.size, r, none⟩ (.bool true))) := HBEL.out.setCell (p := ⟨w2.heap.size, r, none⟩) (Nat.le_refl _) _
            clear hrow6
            go_wp2_with fail
            go_roundw
            case rel => exact ⟨j + 1, by omega, by go_num, HROW6.out, HB6.out⟩
            case measure => simp [intOf]; omega
      · obtain rfl : j = ds.length := by omega
        have hd : decide ((ds.length : Int) < (ds.length : Int)) = false := by simp
        clear hrow hbel hbw
        go_wp2_with (go_at_call 32; refine (awake11_any _).mono ?_; rintro e w9 ⟨rfl, hb9⟩)
        go_ret
        exact ⟨rfl, below_next HBW.out hb9 HBW.out.size⟩
end Go.Proofs.Ytddceidepmckiaa
