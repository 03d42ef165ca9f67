/-
  The statement SuffixNests: its walk.
-/
import Derived.Test.YtddceidepmckiaaNestMath
import Derived.Test.YtddceidepmckiaaRangeWalk
import Derived.Test.YtddceidepmckiaaTextAsk
import Derived.Test.YtddceidepmckiaaAppendRow
import Derived.Deep.AppendLies
namespace Go.Proofs.Ytddceidepmckiaa
open Go.RowKit

theorem tsize_any (w : World) (bt : Nat) (x : TxP) (ds : List (List Nat)) (ht : TextAt w bt x ds) (hok : NewOk ds) (r : Nat) (hr : r < ds.length) :
    Calls Try.prog 69 #[.pointer (some ⟨bt, 0, none⟩), .int .i64 (r : Int)] w fun e w' => e = .returned (.int .i64 (((ds.getD r []).length : Nat) : Int)) ∧ ∃ j, w' = w.drewN j := by
  have hix := run_ix (P := Try.prog) 22 (by kernel_rfl) size_bytes x.ad ds.length x.cd ht.docs.top.at_ .i64
  have c0 := ht.c0
  have d0 : w.cell? ⟨bOf x.ad, oOf x.ad + r, none⟩ = some (.slice (x.A r) (ds.getD r []).length (x.C r)) := ht.docs.top.cell r hr
  have hm := hok.many
  have g1 : ¬ (r : Int) < 0 := by omega
  have g2 : ¬ (ds.length : Int) ≤ (r : Int) := by omega
  generalize (ds.getD r []).length = n at *
  clear ht hok
  go_enter Try.func69, Try.ntmps69
  go_wp2
  go_ret
  exact ⟨rfl, 0, rfl⟩
theorem whole_any (w : World) (bt : Nat) (x : TxP) (ds : List (List Nat)) (ht : TextAt w bt x ds) (hok : NewOk ds) (r k n : Nat) (hr : r < ds.length) (hk : k ≤ (ds.getD r []).length) (hn : n ≤ 1000) :
    Calls Try.prog 43 #[.pointer (some ⟨bt, 0, none⟩), .int .i64 ((startOf ds r + k : Nat) : Int), .int .i64 (n : Int)] w fun e w' => e = .returned (.bool (decide (k + n = (ds.getD r []).length))) ∧ ∃ j, w' = w.drewN j := by
  have HAT := Lib.hid (tat_any w bt x ds ht hok r k hr hk)
  have HSZ := Lib.hid (fun j => tsize_any (w.drewN j) bt x ds (ht.drewN j) hok r hr)
  have hlen := hok.long _ (doc_mem hr)
  have ew : IntKind.i64.wrap ((k : Int) + (n : Int)) = (k : Int) + (n : Int) := IntWalk.i64_in _ (by omega)
  have hd : ((k : Int) + (n : Int) == (((ds.getD r []).length : Nat) : Int)) = decide (k + n = (ds.getD r []).length) := by
    by_cases e : k + n = (ds.getD r []).length
    · rw [decide_eq_true e, beq_iff_eq]; omega
    · rw [decide_eq_false e, beq_eq_false_iff_ne]; omega
  have HD := Lib.hid hd
  clear ht hok hd
  generalize startOf ds r + k = q at *
  generalize (ds.getD r []).length = m at *
  generalize decide (k + n = m) = b at *
  go_enter Try.func43, Try.ntmps43
  go_wp2_with fail
  refine HAT.out.mono ?_
  rintro e w1 ⟨rfl, j, rfl⟩
  go_wp2_with fail
  refine (HSZ.out j).mono ?_
  rintro e w2 ⟨rfl, j2, rfl⟩
  have hd := HD.out
  go_wp2
  go_ret
  exact ⟨rfl, _, rfl⟩
set_option maxRecDepth 100000 in
set_option maxHeartbeats 2000000 in
theorem snests_walk (w : World) (a : Option Addr) (cap : Nat) (A : Nat → Option Addr) (C : Nat → Nat) (ds : List (List Nat)) (hin : DocsIn w a A C ds) (a1 : Option Addr) (len cap1 : Nat) (f : Nat → Int) (hl : len ≤ maxLen) (hr : Row w a1 len (fun k => .int .u8 (f k)) ∧ ∀ k, k < len → (Lit.int .u8 (f k)).wf = true) :
    Calls Try.prog 11 #[.slice a ds.length cap, .slice a1 len cap1] w fun e w' => e = .returned (.bool true) ∧ Below w.heap.size w w' := by
  obtain ⟨P, hd, hdr, hdb⟩ := bytes_list hr
  subst hd
  clear hr
  have HF := Lib.hid (few_any w a cap A C ds hin.many hin.docs hin.long)
  have HIN := Lib.hid hin
  have HDR := Lib.hid hdr
  have HDB := Lib.hid hdb
  unfold maxLen at hl
  clear hin hdr hdb
  go_enter Try.func11, Try.ntmps11
  go_wp2_with fail
  refine HF.out.mono ?_
  rintro e w' ⟨b, rfl, hfew, rfl⟩
  cases b with
  | false =>
    clear hfew
    go_wp2_with (go_at_call 16; refine (awake10_any _).mono ?_; rintro e w1 ⟨rfl, hb⟩)
    go_ret
    exact ⟨rfl, hb⟩
  | true =>
    obtain ⟨hf1, hf2, hf3⟩ := hfew rfl
    have HFEW := Lib.hid (FewP.mk hf1 hf2 hf3 HIN.out.byte)
    clear hfew hf2
    by_cases h50 : (50 : Int) < (P.length : Int)
    · go_wp2_with (go_at_call 16; refine (awake10_any _).mono ?_; rintro e w1 ⟨rfl, hb⟩)
      go_ret
      exact ⟨rfl, hb⟩
    · have h50d : decide ((50 : Int) < (P.length : Int)) = false := by simp; omega
      go_wp2_with fail
      refine (made_any w a cap A C ds HIN.out.docs HFEW.out.ok).mono ?_
      rintro e w1 ⟨bt, x, rfl, ht, hb1⟩
      have HT1 := Lib.hid ht
      have HB1 := Lib.hid hb1
      clear ht hb1 HF
      go_wp2_with fail
      refine (array_any w1 bt x ds HT1.out HFEW.out.ok).mono ?_
      rintro e w2 ⟨ac, cc, sa, rfl, hrc, hsc, hb2, hjk⟩
      have HRC2 := Lib.hid hrc
      have HSA := Lib.hid hsc
      have HT2 := Lib.hid (HT1.out.kept hb2)
      have HB2 : Hid (Below w.heap.size w w2) := below_next HB1.out hb2 HB1.out.size
      have HP2 := Lib.hid (HDR.out.kept HB2.out)
      clear hrc hsc hb2 hjk HT1 HB1
      go_wp2_with fail
      refine (range_any w2 bt x ds HT2.out HFEW.out.ok ac cc sa HRC2.out HSA.out a1 cap1 P HP2.out HDB.out (by omega)).mono ?_
      rintro e w3 ⟨lo, hi, rfl, hrg, hb3⟩
      have HRG := Lib.hid hrg
      have HRC3 := Lib.hid (HRC2.out.kept hb3)
      have HT3 := Lib.hid (HT2.out.kept hb3)
      have HB3 : Hid (Below w.heap.size w w3) := below_next HB2.out hb3 HB2.out.size
      have hlh := hrg.le
      have hhn := hrg.len
      rw [rows_len ds] at hhn
      obtain ⟨m0, y0, hm0⟩ := range_is ds (P ++ [0])
      obtain ⟨hmid1, hmid2, hmid3⟩ := nest_mid hrg hm0
      have HMID := Lib.hid hmid3
      have HM0 := Lib.hid hm0
      have HSE := Lib.hid (show sa = (rowsR ds).map (placeOf ds) from HSA.out.one (arrR_sa ds))
      clear hrg hb3 HRC2 HT2 HB2 HP2 hmid3 hm0
      have hix := run_ix (P := Try.prog) 28 (by kernel_rfl) size_int ac (rowOf ds).length cc HRC3.out.at_ .i64
      go_wp2_with fail
      go_loopw [9] (fun vv wr => ∃ (i j : Nat), vv = .int .i64 i ∧ lo ≤ i ∧ i ≤ m0 ∧ wr = w3.drewN j) (fun vv _ => m0 - (intOf vv).toNat)
      case atStart => exact ⟨lo, 0, rfl, Nat.le_refl _, hmid1, rfl⟩
      case round =>
        obtain ⟨i, j, rfl, hi1, hi2, hw⟩ := hrel
        have HW := Lib.hid hw
        clear hw
        by_cases hih : (i : Int) < (hi : Int)
        · have hir : i < (rowOf ds).length := by omega
          have hrl := rows_len ds
          have hva := rows_at ds i (by omega)
          have hmp := map_place ds i (by omega)
          have hmd := HMID.out i hi1 (by omega)
          have HTj : Hid (TextAt wr bt x ds) := by rw [HW.out]; exact HT3.out.drewN j
          have d0 : wr.cell? ⟨bOf ac, oOf ac + i, none⟩ = some (.int .i64 ((sa.getD i 0 : Nat) : Int)) := by rw [HW.out]; exact (HRC3.out.drewN j).cell i hir
          rw [HSE.out, hmp] at d0
          have hpo : placeOf ds ((rowsR ds).getD i (0, 0)) = startOf ds ((rowsR ds).getD i (0, 0)).1 + ((rowsR ds).getD i (0, 0)).2 := rfl
          have htl : (textAt ds ((rowsR ds).getD i (0, 0))).length = (ds.getD ((rowsR ds).getD i (0, 0)).1 []).length - ((rowsR ds).getD i (0, 0)).2 := by unfold textAt; rw [List.length_drop]
          rw [hpo] at d0
          rw [htl] at hmd
          generalize (rowsR ds).getD i (0, 0) = p at *
          obtain ⟨p1, p2⟩ := p
          obtain ⟨hp1, hp2⟩ := hva
          simp only at hp1 hp2 d0 hmd
          have hwh := whole_any wr bt x ds HTj.out HFEW.out.ok p1 p2 P.length hp1 hp2 (by omega)
          have hdd : decide (p2 + P.length = (ds.getD p1 []).length) = decide (i < m0) := by
            rw [decide_eq_decide, ← hmd]; omega
          rw [hdd] at hwh
          have HWH := Lib.hid hwh
          clear hwh hdd hmd hmp hpo htl hrl
          generalize startOf ds p1 + p2 = q at *
          by_cases him : i < m0
          · rw [decide_eq_true him] at HWH
            go_wp2_with fail
            refine HWH.out.mono ?_
            rintro e w4 ⟨rfl, j2, rfl⟩
            go_wp2
            go_roundw
            case rel => exact ⟨i + 1, j + j2, by go_num, by omega, by omega, by rw [HW.out, World.drewN_drewN]⟩
            case measure => simp [intOf]; omega
          · rw [decide_eq_false him] at HWH
            obtain rfl : i = m0 := by omega
            go_wp2_with fail
            refine HWH.out.mono ?_
            rintro e w4 ⟨rfl, j2, hw4⟩
            have HBs : Hid (Below w3.heap.size w3 w4) := by rw [hw4, HW.out]; exact below_drewN (below_drewN (Below.refl _ _) j) j2
            clear hw4 d0 HWH
            go_wp2_with fail
            go_loopw [9, 10] (fun va vc wr => ∃ (c t y : Nat), c ≤ 256 ∧ va = .int .i64 t ∧ vc = .int .i64 c ∧ RangeP ds (P ++ [c]) t y ∧ Below w3.heap.size w3 wr) (fun _ vc _ => 256 - (intOf vc).toNat)
            case atStart => exact ⟨0, i, y0, by omega, rfl, rfl, HM0.out, HBs.out⟩
            case round =>
              obtain ⟨c, t, y, hc, rfl, rfl, hrc, hbw⟩ := hrel
              have HRc := Lib.hid hrc
              have HBW := Lib.hid hbw
              have hty := hrc.le
              have hyl := hrc.len
              rw [rows_len ds] at hyl
              have hyh := nest_le HRG.out hrc
              have hs := hbw.size
              clear hrc hbw
              by_cases hcl : (c : Int) < 256
              · obtain ⟨t2, y2, hr2⟩ := range_is ds (P ++ [c + 1])
                obtain rfl : y = t2 := nest_step HRc.out hr2
                have HR2 := Lib.hid hr2
                have ew8 : IntKind.u8.wrap (c : Int) = (c : Int) := IntWalk.u8_in _ (by omega)
                obtain ⟨i1, hi1', hza1, hzb1, hzc1⟩ := info_parts info_u8
                have hx0 := owns_empty wr wr.heap.size 5 (Nat.le_refl _)
                have hb0 : Below wr.heap.size wr (wr.alloc (.cells #[] 5)) := (Below.refl _ wr).alloc (Nat.le_refl _) _
                have hPw := ((HDR.out.kept HB3.out).kept HBW.out).kept hb0
                obtain ⟨v5, w5, hrun5, hown5, hg5, hjunk0⟩ := run_append_row (P := Try.prog) (wr.alloc (.cells #[] 5)) wr.heap.size 23 23 5 i1 _ 1 Try.underlying23 hi1' hza1 hzb1 hzc1 rfl _ 0 [] hx0 a1 P.length cap1 _ hPw (fun _ _ => rfl) (by simp only [maxLen]; omega) (by omega) (by simp)
                have hB5 : Below wr.heap.size wr w5 := hb0.grown hg5 (by simp) (fun k hk => by simp [Value.ownBlock] at hk; omega)
                rw [Nat.zero_add, List.nil_append] at hown5
                obtain ⟨av5, cv5, rfl, hjunk⟩ := Row.of_owns hown5
                have R5 := Lib.hid hrun5
                have HO5 := Lib.hid hown5
                have HB5 := Lib.hid hB5
                have hs5 := hB5.size
                clear hr2 hx0 hb0 hPw hrun5 hown5 hg5 hB5 hjunk hjunk0
                go_wp2_with (first
                  | (at_builtin; (with_reducible refine wpList_append_run rfl _ _ _ rfl R5.out rfl rfl ?_); clear R5)
                  | (at_builtin; refine wpList_append_lies _ rfl _ _ _ rfl wr.heap.size 5 i1 _ 1 1 Try.underlying23 hi1' hza1 hzb1 hzc1 rfl (by omega) (.slice av5 P.length cv5) P.length _ rfl (HO5.out.alloc _) ⟨w5.heap.size, 0, none⟩ 1 1 [.int .u8 (c : Int)] rfl rfl (cell_one_new _ _ _) (by simp [Value.oneCell']) (by omega) (by simp only [maxLen]; omega) (by omega) (by simp; omega) (w5.heap.size + 1) (by simp) ?_; intro gg cv' w6 hown' hgrow hat hlt'; have HOW := Lib.hid hown'; have HGR := Lib.hid hgrow; clear hown' hgrow hat)
                  | fail)
                have hlt5 := HO5.out.lt
                have hB6 : Below wr.heap.size wr w6 := (HB5.out.alloc hs5 _).grown HGR.out (by simp; omega) (fun k hk => (hlt5 k hk).1)
                have hBw6 : Below w3.heap.size w3 w6 := below_next HBW.out hB6 HBW.out.size
                have hr6 : Row w6 (some ⟨gg, 0, none⟩) (P ++ [c]).length (byteV (P ++ [c])) := by
                  have := (owns_row HOW.out).1
                  rw [List.length_append, List.length_singleton]
                  refine this.congr fun k hk => ?_
                  by_cases e : k < P.length
                  · simp [List.getD_eq_getElem?_getD, e, List.getElem?_append]
                  · obtain rfl : k = P.length := by omega
                    simp [List.getD_eq_getElem?_getD]
                have hrg6 := range_any w6 bt x ds (HT3.out.kept hBw6) HFEW.out.ok ac cc sa (HRC3.out.kept hBw6) HSA.out (some ⟨gg, 0, none⟩) cv' (P ++ [c]) hr6 (fun b hb => by
                  rcases List.mem_append.1 hb with hb | hb
                  · exact HDB.out b hb
                  · rw [List.mem_singleton.1 hb]; omega) (by rw [List.length_append, List.length_singleton]; omega)
                rw [List.length_append, List.length_singleton] at hrg6
                have HRG6 := Lib.hid hrg6
                have HB6 := Lib.hid hBw6
                clear hlt5 hB6 hBw6 hr6 hrg6 HO5 HB5 HOW HGR
                refine HRG6.out.mono ?_
                rintro e w7 ⟨t7, y7, rfl, hr7, hb7⟩
                obtain ⟨rfl, rfl⟩ := HRc.out.one hr7
                have HB7 : Hid (Below w3.heap.size w3 w7) := below_next HB6.out hb7 HB6.out.size
                clear hr7 hb7 HRG6
                have z1 : ¬ (y : Int) < (t : Int) := by omega
                have z2 : ¬ (hi : Int) < (y : Int) := by omega
                go_wp2
                go_roundw
                case rel => exact ⟨c + 1, y, y2, by omega, rfl, by go_num, HR2.out, HB7.out⟩
                case measure => simp [intOf]; omega
              · obtain rfl : c = 256 := by omega
                obtain ⟨t2, y2, hr2⟩ := range_is ds (P ++ [255])
                have e1 : y2 = t := nest_step hr2 HRc.out
                have e2 : y2 = hi := nest_end HFEW.out.byte HRG.out hr2
                obtain rfl : t = hi := by omega
                clear hr2 e1 e2
                go_wp2_with fail
                refine (awake10_any _).mono ?_
                rintro e w8 ⟨rfl, hb8⟩
                have HB8 := Lib.hid hb8
                clear hb8
                go_wp2
                go_ret
                have hB7 := below_next HB3.out HBW.out HB3.out.size
                exact ⟨rfl, below_next hB7 HB8.out hB7.size⟩
        · obtain rfl : i = m0 := by omega
          have HBs : Hid (Below w3.heap.size w3 wr) := by rw [HW.out]; exact below_drewN (Below.refl _ _) j
          have hd9 : decide ((i : Int) < (hi : Int)) = false := by simp; omega
          generalize wr = w4 at *
          go_wp2_with fail
          go_loopw [9, 10] (fun va vc wr => ∃ (c t y : Nat), c ≤ 256 ∧ va = .int .i64 t ∧ vc = .int .i64 c ∧ RangeP ds (P ++ [c]) t y ∧ Below w3.heap.size w3 wr) (fun _ vc _ => 256 - (intOf vc).toNat)
          case atStart => exact ⟨0, i, y0, by omega, rfl, rfl, HM0.out, HBs.out⟩
          case round =>
            obtain ⟨c, t, y, hc, rfl, rfl, hrc, hbw⟩ := hrel
            have HRc := Lib.hid hrc
            have HBW := Lib.hid hbw
            have hty := hrc.le
            have hyl := hrc.len
            rw [rows_len ds] at hyl
            have hyh := nest_le HRG.out hrc
            have hs := hbw.size
            clear hrc hbw
            by_cases hcl : (c : Int) < 256
            · obtain ⟨t2, y2, hr2⟩ := range_is ds (P ++ [c + 1])
              obtain rfl : y = t2 := nest_step HRc.out hr2
              have HR2 := Lib.hid hr2
              have ew8 : IntKind.u8.wrap (c : Int) = (c : Int) := IntWalk.u8_in _ (by omega)
              obtain ⟨i1, hi1', hza1, hzb1, hzc1⟩ := info_parts info_u8
              have hx0 := owns_empty wr wr.heap.size 5 (Nat.le_refl _)
              have hb0 : Below wr.heap.size wr (wr.alloc (.cells #[] 5)) := (Below.refl _ wr).alloc (Nat.le_refl _) _
              have hPw := ((HDR.out.kept HB3.out).kept HBW.out).kept hb0
              obtain ⟨v5, w5, hrun5, hown5, hg5, hjunk0⟩ := run_append_row (P := Try.prog) (wr.alloc (.cells #[] 5)) wr.heap.size 23 23 5 i1 _ 1 Try.underlying23 hi1' hza1 hzb1 hzc1 rfl _ 0 [] hx0 a1 P.length cap1 _ hPw (fun _ _ => rfl) (by simp only [maxLen]; omega) (by omega) (by simp)
              have hB5 : Below wr.heap.size wr w5 := hb0.grown hg5 (by simp) (fun k hk => by simp [Value.ownBlock] at hk; omega)
              rw [Nat.zero_add, List.nil_append] at hown5
              obtain ⟨av5, cv5, rfl, hjunk⟩ := Row.of_owns hown5
              have R5 := Lib.hid hrun5
              have HO5 := Lib.hid hown5
              have HB5 := Lib.hid hB5
              have hs5 := hB5.size
              clear hr2 hx0 hb0 hPw hrun5 hown5 hg5 hB5 hjunk hjunk0
              go_wp2_with (first
                | (at_builtin; (with_reducible refine wpList_append_run rfl _ _ _ rfl R5.out rfl rfl ?_); clear R5)
                | (at_builtin; refine wpList_append_lies _ rfl _ _ _ rfl wr.heap.size 5 i1 _ 1 1 Try.underlying23 hi1' hza1 hzb1 hzc1 rfl (by omega) (.slice av5 P.length cv5) P.length _ rfl (HO5.out.alloc _) ⟨w5.heap.size, 0, none⟩ 1 1 [.int .u8 (c : Int)] rfl rfl (cell_one_new _ _ _) (by simp [Value.oneCell']) (by omega) (by simp only [maxLen]; omega) (by omega) (by simp; omega) (w5.heap.size + 1) (by simp) ?_; intro gg cv' w6 hown' hgrow hat hlt'; have HOW := Lib.hid hown'; have HGR := Lib.hid hgrow; clear hown' hgrow hat)
                | fail)
              have hlt5 := HO5.out.lt
              have hB6 : Below wr.heap.size wr w6 := (HB5.out.alloc hs5 _).grown HGR.out (by simp; omega) (fun k hk => (hlt5 k hk).1)
              have hBw6 : Below w3.heap.size w3 w6 := below_next HBW.out hB6 HBW.out.size
              have hr6 : Row w6 (some ⟨gg, 0, none⟩) (P ++ [c]).length (byteV (P ++ [c])) := by
                have := (owns_row HOW.out).1
                rw [List.length_append, List.length_singleton]
                refine this.congr fun k hk => ?_
                by_cases e : k < P.length
                · simp [List.getD_eq_getElem?_getD, e, List.getElem?_append]
                · obtain rfl : k = P.length := by omega
                  simp [List.getD_eq_getElem?_getD]
              have hrg6 := range_any w6 bt x ds (HT3.out.kept hBw6) HFEW.out.ok ac cc sa (HRC3.out.kept hBw6) HSA.out (some ⟨gg, 0, none⟩) cv' (P ++ [c]) hr6 (fun b hb => by
                rcases List.mem_append.1 hb with hb | hb
                · exact HDB.out b hb
                · rw [List.mem_singleton.1 hb]; omega) (by rw [List.length_append, List.length_singleton]; omega)
              rw [List.length_append, List.length_singleton] at hrg6
              have HRG6 := Lib.hid hrg6
              have HB6 := Lib.hid hBw6
              clear hlt5 hB6 hBw6 hr6 hrg6 HO5 HB5 HOW HGR
              refine HRG6.out.mono ?_
              rintro e w7 ⟨t7, y7, rfl, hr7, hb7⟩
              obtain ⟨rfl, rfl⟩ := HRc.out.one hr7
              have HB7 : Hid (Below w3.heap.size w3 w7) := below_next HB6.out hb7 HB6.out.size
              clear hr7 hb7 HRG6
              have z1 : ¬ (y : Int) < (t : Int) := by omega
              have z2 : ¬ (hi : Int) < (y : Int) := by omega
              go_wp2
              go_roundw
              case rel => exact ⟨c + 1, y, y2, by omega, rfl, by go_num, HR2.out, HB7.out⟩
              case measure => simp [intOf]; omega
            · obtain rfl : c = 256 := by omega
              obtain ⟨t2, y2, hr2⟩ := range_is ds (P ++ [255])
              have e1 : y2 = t := nest_step hr2 HRc.out
              have e2 : y2 = hi := nest_end HFEW.out.byte HRG.out hr2
              obtain rfl : t = hi := by omega
              clear hr2 e1 e2
              go_wp2_with fail
              refine (awake10_any _).mono ?_
              rintro e w8 ⟨rfl, hb8⟩
              have HB8 := Lib.hid hb8
              clear hb8
              go_wp2
              go_ret
              have hB7 := below_next HB3.out HBW.out HB3.out.size
              exact ⟨rfl, below_next hB7 HB8.out hB7.size⟩
end Go.Proofs.Ytddceidepmckiaa
