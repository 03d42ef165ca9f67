/-
  The statement WalkFrom: its walk.
-/
import Derived.Test.YtjpoebmjfedecaaWalkOf
import Derived.Test.YtjpoebmjfedecaaPlainWalkFrom
import Derived.Test.YtjpoebmjfedecaaWalkAtR
import Derived.Deep.CutBlock
namespace Go.Proofs.Ytjpoebmjfedecaa
open Go.RowKit

/-! ### plain: what an index's own samples are -/
theorem samp_getD (ds : List (List Nat)) (j q : Nat) (hq : 32 * q ≤ (ds.getD j []).length) : ∀ m, j < m → (putS (putsTo ds m)).getD ((putS (putsTo ds j)).length + q) 0 = rowP ds j (32 * q) ∧ (putS (putsTo ds j)).length + q < (putS (putsTo ds m)).length
  | 0, h => by omega
  | m + 1, h => by
    have e : putS (putsTo ds (m + 1)) = putS (putsTo ds m) ++ putS (putD ds m ((ds.getD m []).length / 32 + 1)) := by unfold putS; rw [putsTo_succ, List.map_append]
    rcases Nat.lt_or_ge j m with hj | hj
    · obtain ⟨h2, h1⟩ := samp_getD ds j q hq m hj
      rw [e, List.length_append]
      refine ⟨?_, by omega⟩
      rw [List.getD_eq_getElem?_getD, List.getElem?_append_left h1, ← List.getD_eq_getElem?_getD, h2]
    · obtain rfl : j = m := by omega
      have hl : q < (ds.getD j []).length / 32 + 1 := by omega
      have hd : (putS (putD ds j ((ds.getD j []).length / 32 + 1))).length = (ds.getD j []).length / 32 + 1 := by simp [putS, putD]
      rw [e, List.length_append]
      refine ⟨?_, by omega⟩
      rw [List.getD_eq_getElem?_getD, List.getElem?_append_right (by omega), Nat.add_sub_cancel_left]
      unfold putS putD
      rw [List.getElem?_map, List.getElem?_map, List.getElem?_range hl]; rfl
def sOf (ds : List (List Nat)) (k : Nat) : Int := (((putS (putsTo ds ds.length)).getD k 0 : Nat) : Int)
def zOf (ds : List (List Nat)) (k : Nat) : Int := (((sizesTo ds ds.length).getD k 0 : Nat) : Int)
theorem zOf_at (ds : List (List Nat)) (j : Nat) (h : j < ds.length) : (zL (zOf ds) ds.length).getD j 0 = (ds.getD j []).length := by
  rw [zL_at _ _ _ h]; unfold zOf; rw [sizesTo_at ds h]; exact Int.toNat_natCast _
theorem cnt_of (ds : List (List Nat)) : ∀ m, m ≤ ds.length → cntTo (zL (zOf ds) ds.length) m = (putS (putsTo ds m)).length
  | 0, _ => rfl
  | m + 1, h => by
    have h3 : (putS (putsTo ds (m + 1))).length = (putS (putsTo ds m)).length + ((ds.getD m []).length / 32 + 1) := by
      unfold putS; rw [putsTo_succ, List.map_append, List.length_append]; simp [putD]
    rw [h3, ← cnt_of ds m (by omega)]
    show cntTo _ m + ((zL (zOf ds) ds.length).getD m 0 / 32 + 1) = _
    rw [zOf_at ds m (by omega)]
theorem from_of (ds : List (List Nat)) : ∀ m, m ≤ ds.length → fromTo (fun i => (sOf ds i).toNat) (zL (zOf ds) ds.length) m = putsTo ds m
  | 0, _ => by rw [fromTo_zero]; rfl
  | m + 1, h => by
    rw [fromTo_succ, putsTo_succ, from_of ds m (by omega), zOf_at ds m (by omega)]
    congr 1
    unfold fromD putD
    refine List.map_congr_left fun q hq => ?_
    have hq := List.mem_range.1 hq
    have h1 := (samp_getD ds m q (by omega) ds.length (by omega)).1
    rw [cnt_of ds m (by omega)]
    have : (sOf ds ((putS (putsTo ds m)).length + q)).toNat = rowP ds m (32 * q) := by unfold sOf; rw [h1]; exact Int.toNat_natCast _
    show ((sOf ds ((putS (putsTo ds m)).length + q)).toNat, m, 32 * q) = _
    rw [this]
theorem putsTo_pair (ds : List (List Nat)) (m : Nat) : (putsTo ds m).Pairwise (fun x y => x.2 ≠ y.2) := by
  unfold putsTo
  rw [List.pairwise_flatMap]
  refine ⟨fun j _ => ?_, ?_⟩
  · unfold putD
    rw [List.pairwise_map]
    refine (List.pairwise_lt_range).imp (fun h e => ?_)
    have := congrArg Prod.snd e
    simp only at this
    omega
  · refine (List.pairwise_lt_range).imp (fun h x hx y hy e => ?_)
    unfold putD at hx hy
    obtain ⟨q, _, rfl⟩ := List.mem_map.1 hx
    obtain ⟨q', _, rfl⟩ := List.mem_map.1 hy
    have := congrArg Prod.fst e
    simp only at this
    omega
theorem samp_good (ds : List (List Nat)) (hok : NewOk ds) : GoodP (sOf ds) (putS (putsTo ds ds.length)).length (zOf ds) ds.length := by
  refine ⟨hok.many, fun i hi => ?_, cnt_of ds _ (Nat.le_refl _), fun i hi => ?_, fun i hi k hk => ?_⟩
  · unfold zOf; rw [sizesTo_at ds hi]
    have := hok.long _ (doc_mem hi)
    omega
  · have hm : (putS (putsTo ds ds.length)).getD i 0 ∈ putS (putsTo ds ds.length) := getD_mem' hi
    obtain ⟨x, hx, hxe⟩ := List.mem_map.1 hm
    obtain ⟨j, q, hj, hq, rfl⟩ := (mem_putsTo ds _ x).1 hx
    have h1 := (rowP_at ds hok.byte j _ hj hq).1
    rw [rows_len] at h1
    have := hok.all
    unfold sOf
    rw [← hxe]
    simp only
    omega
  · have hp : (putS (putsTo ds ds.length)).Pairwise (fun a b => a ≠ b) := by
      unfold putS
      rw [List.pairwise_map]
      refine (putsTo_pair ds ds.length).imp_of_mem (fun {x y} hx hy hne e => ?_)
      obtain ⟨j, q, hj, hq, rfl⟩ := (mem_putsTo ds _ x).1 hx
      obtain ⟨j', q', hj', hq', rfl⟩ := (mem_putsTo ds _ y).1 hy
      have h1 := (rowP_at ds hok.byte j _ hj hq).2
      have h2 := (rowP_at ds hok.byte j' _ hj' hq').2
      simp only at e
      rw [e, h2] at h1
      exact hne h1.symm
    have := (List.pairwise_iff_getElem.1 hp) k i (by omega) hi hk
    have g1 : (putS (putsTo ds ds.length)).getD i 0 = (putS (putsTo ds ds.length))[i] := by rw [List.getD_eq_getElem?_getD, List.getElem?_eq_getElem hi]; rfl
    have g2 : (putS (putsTo ds ds.length)).getD k 0 = (putS (putsTo ds ds.length))[k] := by rw [List.getD_eq_getElem?_getD, List.getElem?_eq_getElem (by omega)]; rfl
    unfold sOf
    rw [g1, g2]
    omega
theorem from_small (s : Nat → Nat) (Z : List Nat) (hz : ∀ j, Z.getD j 0 ≤ 2000) (m : Nat) (hm : m ≤ 500) (r : Int) (p : Nat × Nat) (h : putF (fromTo s Z m) r = some p) : p.1 ≤ 1000000 ∧ p.2 ≤ 1000000 := by
  obtain ⟨x, hx, _, rfl⟩ := putF_some _ _ rfl r p h
  unfold fromTo fromD at hx
  obtain ⟨j, hj, hx⟩ := List.mem_flatMap.1 hx
  obtain ⟨q, hq, rfl⟩ := List.mem_map.1 hx
  have := List.mem_range.1 hj
  have := List.mem_range.1 hq
  have := hz j
  simp only
  omega
def ZP (z : Nat → Int) (nz i : Nat) : Prop := nz ≤ 500 ∧ ∀ k, k < i → 0 ≤ z k ∧ z k ≤ 2000
def SP (s : Nat → Int) (ns : Nat) (z : Nat → Int) (nz i : Nat) : Prop := ZP z nz nz ∧ cntTo (zL z nz) nz = ns ∧ ∀ i', i' < i → (0 ≤ s i' ∧ s i' ≤ 60499) ∧ ∀ k, k < i' → s k ≠ s i'
theorem SP.good {s : Nat → Int} {ns : Nat} {z : Nat → Int} {nz : Nat} (h : SP s ns z nz ns) : GoodP s ns z nz := ⟨h.1.1, h.1.2, h.2.1, fun i hi => (h.2.2 i hi).1, fun i hi => (h.2.2 i hi).2⟩
theorem cnt_small (z : Nat → Int) (nz : Nat) : ∀ j, j ≤ nz → (∀ k, k < j → 0 ≤ z k ∧ z k ≤ 2000) → cntTo (zL z nz) j ≤ 63 * j
  | 0, _, _ => Nat.le_refl _
  | j + 1, hj, h => by
    have h1 := cnt_small z nz j (by omega) (fun k hk => h k (by omega))
    have h2 := h j (by omega)
    show cntTo _ j + ((zL z nz).getD j 0 / 32 + 1) ≤ _
    rw [zL_at z nz j (by omega)]
    omega
set_option maxRecDepth 100000 in
set_option maxHeartbeats 4000000 in
theorem wfroms_walk (w : World) (a : Option Addr) (cap : Nat) (A : Nat → Option Addr) (C : Nat → Nat) (ds : List (List Nat)) (hin : DocsIn w a A C ds)
    (a1 : Option Addr) (ns cs : Nat) (s : Nat → Int) (hl1 : ns ≤ maxLen) (hcs : ns ≤ cs) (hr1 : Row w a1 ns (fun k => .int .i64 (s k)) ∧ ∀ k, k < ns → (Lit.int .i64 (s k)).wf = true)
    (a2 : Option Addr) (nz cz : Nat) (z : Nat → Int) (hl2 : nz ≤ maxLen) (hcz : nz ≤ cz) (hr2 : Row w a2 nz (fun k => .int .i64 (z k)) ∧ ∀ k, k < nz → (Lit.int .i64 (z k)).wf = true) :
    Calls Try.prog 5 #[.slice a ds.length cap, .slice a1 ns cs, .slice a2 nz cz] w fun e w' => e = .returned (.bool true) ∧ Below w.heap.size w w' := by
  unfold maxLen at hl1 hl2
  have HF := Lib.hid (few_any w a cap A C ds hin.many hin.docs hin.long)
  have HIN := Lib.hid hin
  have HR1 := Lib.hid hr1
  have HR2 := Lib.hid hr2
  clear hin hr1 hr2
  go_enter Try.func5, Try.ntmps5
  go_wp2_with fail
  refine HF.out.mono ?_
  rintro e w' ⟨b, rfl, hfew, rfl⟩
  cases b with
  | false =>
    clear hfew
    go_wp2_with (go_at_call 16; refine (awake13_any _).mono ?_; rintro e w1 ⟨rfl, hb⟩)
    go_ret
    exact ⟨rfl, hb⟩
  | true =>
    obtain ⟨hf1, hf2, hf3⟩ := hfew rfl
    have HFEW := Lib.hid (FewP.mk hf1 hf2 hf3 HIN.out.byte)
    clear hfew hf2 HF
    have HOK := Lib.hid HFEW.out.ok
    by_cases hs5 : 500 < ns
    · have t1 : (500 : Int) < (ns : Int) := by omega
      go_wp2_with (go_at_call 16; refine (awake13_any _).mono ?_; rintro e w1 ⟨rfl, hb⟩)
      go_ret
      exact ⟨rfl, hb⟩
    · have t1 : decide ((500 : Int) < (ns : Int)) = false := by simp; omega
      have t2 : decide (500 < ns) = false := by simp; omega
      by_cases hz6 : 600 < nz
      · have t3 : (600 : Int) < (nz : Int) := by omega
        go_wp2_with (go_at_call 16; refine (awake13_any _).mono ?_; rintro e w1 ⟨rfl, hb⟩)
        go_ret
        exact ⟨rfl, hb⟩
      · have t3 : decide ((600 : Int) < (nz : Int)) = false := by simp; omega
        have t4 : decide (600 < nz) = false := by simp; omega
        go_wp2_with fail
        clear t1 t2 t3 t4
        refine (bmade_any w a cap A C ds HIN.out.docs HOK.out).mono ?_
        rintro e w2 ⟨bx, bm, al, cl, rfl, hi, hb2, -⟩
        have HI2 := Lib.hid hi
        have HB2 := Lib.hid hb2
        clear hi hb2
        go_wp2_with fail
        refine (wnew_any w2 bx bm al cl ds HOK.out HI2.out).mono ?_
        rintro e w3 ⟨bp, bq, vS, vZ, Y, rfl, hp, hb3, -⟩
        have HP3 := Lib.hid hp
        have HI3 := Lib.hid (HI2.out.kept hb3)
        have HB3 : Hid (Below w.heap.size w w3) := below_next HB2.out hb3 HB2.out.size
        have hpb := putS_bound ds HOK.out ds.length (Nat.le_refl _)
        rw [startOf_all] at hpb
        have hall := HOK.out.all
        have HSM := Lib.hid (wsamples_any w3 Y bp bq vS vZ _ _ _ _ hp (by omega))
        clear hp hb3 HB2 HI2
        go_wp2_with fail
        refine HSM.out.mono ?_
        rintro e w4 ⟨a4, rfl, hr4, hb4, -⟩
        have HR4 := Lib.hid hr4
        have HP4 := Lib.hid (HP3.out.kept (KeepX.of_below hb4))
        have HI4 := Lib.hid (HI3.out.kept hb4)
        have HB4 : Hid (Below w.heap.size w w4) := below_next HB3.out hb4 HB3.out.size
        have HSZ := Lib.hid (wsizes_any w4 Y bp bq vS vZ _ _ _ _ HP4.out (by rw [sizesTo_len]; omega))
        clear hr4 hb4 HB3 HI3 HP3 HSM
        go_wp2_with fail
        refine HSZ.out.mono ?_
        rintro e w5 ⟨a5, rfl, hr5, hb5, -⟩
        rw [sizesTo_len] at hr5 ⊢
        have HR5 := Lib.hid hr5
        have HR45 := Lib.hid (HR4.out.kept hb5)
        have HP5 := Lib.hid (HP4.out.kept (KeepX.of_below hb5))
        have HI5 := Lib.hid (HI4.out.kept hb5)
        have HB5 : Hid (Below w.heap.size w w5) := below_next HB4.out hb5 HB4.out.size
        have HG := Lib.hid (samp_good ds HOK.out)
        obtain ⟨sl, hsl⟩ : ∃ sl, sl = (putS (putsTo ds ds.length)).length := ⟨_, rfl⟩
        have HSL := Lib.hid hsl
        have HFR := Lib.hid (wfrom_any w5 a4 a5 (putS (putsTo ds ds.length)).length (putS (putsTo ds ds.length)).length ds.length ds.length (sOf ds) (zOf ds) (by omega) (by omega) (Nat.le_refl _) HR45.out HR5.out (fun k hk => by
          have := (HG.out.2.2.2.1 k hk)
          exact WalkArith.wf_i64 ⟨by omega, by omega⟩))
        clear hr5 hb5 HB4 HI4 HP4 HR4 HR5 HR45 HSZ
        go_wp2_with fail
        refine HFR.out.mono ?_
        rintro e w6 ⟨hb6, (⟨_, bp6, bq6, vS6, vZ6, Y6, rfl, hp6⟩ | ⟨hno, _⟩)⟩
        · rw [from_of ds _ (Nat.le_refl _)] at hp6
          have HP6 := Lib.hid (HP5.out.kept (KeepX.of_below hb6))
          have HQ6 := Lib.hid hp6
          have HI6 := Lib.hid (HI5.out.kept hb6)
          have HB6 : Hid (Below w.heap.size w w6) := below_next HB5.out hb6 HB5.out.size
          obtain ⟨m, hm⟩ : ∃ m, m = (rowsR ds).length := ⟨_, rfl⟩
          have hmb : m ≤ 60000 := by rw [hm, rows_len]; exact hall
          have HM := Lib.hid hm
          have HBL : Hid ((bwtOf ds).length = m) := by show _ = _; rw [bwtOf_len, ← rows_len, HM.out]
          clear hb6 hp6 HP5 HI5 HB5 HFR hm hsl
          go_wp2_with fail
          go_loopw [12] (fun v12 wr => ∃ i : Nat, i ≤ m ∧ v12 = .int .i64 (i : Int) ∧ Below w6.heap.size w6 wr) (fun v12 _ => m - (intOf v12).toNat)
          case atStart => exact ⟨0, Nat.zero_le _, rfl, Below.refl _ _⟩
          case round =>
            obtain ⟨i, hi, rfl, hbel⟩ := hrel
            have HPr := Lib.hid (HP6.out.kept (KeepX.of_below hbel))
            have HQr := Lib.hid (HQ6.out.kept (KeepX.of_below hbel))
            have HIr := Lib.hid (HI6.out.kept hbel)
            have HBr := Lib.hid hbel
            have HLN := Lib.hid (blen_any wr bx bm al cl _ HIr.out)
            rw [HBL.out] at HLN
            clear hbel
            by_cases hlt : i < m
            · obtain ⟨k, o, hko⟩ : ∃ k o, (rowsR ds).getD i (0, 0) = (k, o) := ⟨_, _, rfl⟩
              have hir : i < (rowsR ds).length := by rw [← HM.out]; exact hlt
              have HAT := Lib.hid (watr_any wr bx bm al cl ds HOK.out HIr.out Y bp bq vS vZ _ _ _ HPr.out i k o hir hko)
              have HKO := Lib.hid hko
              clear hko hir
              go_wp2_with fail
              refine HLN.out.mono ?_
              rintro e w' ⟨rfl, rfl⟩
              go_wp2_with fail
              refine HAT.out.mono ?_
              rintro e w8 ⟨rfl, hb8⟩
              have HAT2 := Lib.hid (watr_any w8 bx bm al cl ds HOK.out (HIr.out.kept hb8) Y6 bp6 bq6 vS6 vZ6 _ _ _ (HQr.out.kept (KeepX.of_below hb8)) i k o (by rw [← HM.out]; exact hlt) HKO.out)
              have HB8 : Hid (Below w6.heap.size w6 w8) := below_next HBr.out hb8 HBr.out.size
              clear hb8 HAT
              go_wp2_with fail
              refine HAT2.out.mono ?_
              rintro e w9 ⟨rfl, hb9⟩
              have HB9 : Hid (Below w6.heap.size w6 w9) := below_next HB8.out hb9 HB8.out.size
              clear hb9 HAT2
              go_wp2
              go_roundw
              case rel => exact ⟨i + 1, by omega, by go_num, HB9.out⟩
              case measure => simp [intOf]; omega
            · obtain rfl : i = m := by omega
              have hd : decide ((i : Int) < (i : Int)) = false := by simp
              have HBW : Hid (Below w.heap.size w wr) := below_next HB6.out HBr.out HB6.out.size
              clear hlt HBr HP6 HQ6 HI6 HB6 HPr HQr
              go_wp2_with fail
              refine HLN.out.mono ?_
              rintro e w' ⟨rfl, rfl⟩
              go_upto_block 2 with fail
              have hz5 : Hid (decide ((nz : Int) ≤ 500) = decide (nz ≤ 500)) := by show _ = _; congr 1; exact propext (by omega)
              rw [hz5.out]
              have HX2 := Lib.hid (run_ix (P := Try.prog) 30 (by kernel_rfl) size_int a2 nz cz HR2.out.1.at_ .i64)
              have HX1 := Lib.hid (run_ix (P := Try.prog) 30 (by kernel_rfl) size_int a1 ns cs HR1.out.1.at_ .i64)
              have HRz := Lib.hid (HR2.out.1.kept HBW.out)
              have HRs := Lib.hid (HR1.out.1.kept HBW.out)
              generalize hwa : wr = wa at *
              clear hwa
              go_cut [19, 20] (fun v19 v20 wx => (∃ (b : Bool) (n : Nat), v19 = .bool b ∧ v20 = .int .i64 (n : Int) ∧ (b = true → ZP z nz nz ∧ n = cntTo (zL z nz) nz) ∧ (b = false → ¬ GoodP s ns z nz)) ∧ wx = wa)
              case first =>
                go_wp2_with fail
                go_loopw [19, 20, 21] (fun v19 v20 v21 wr => ∃ (b : Bool) (n j : Nat), j ≤ nz ∧ n ≤ 64 * 700 ∧ v19 = .bool b ∧ v20 = .int .i64 (n : Int) ∧ v21 = .int .i64 (j : Int) ∧ wr = wa ∧ Hid ((b = true → ZP z nz j ∧ n = cntTo (zL z nz) j) ∧ (b = false → ¬ GoodP s ns z nz))) (fun _ _ v21 _ => nz - (intOf v21).toNat)
                case atStart => exact ⟨_, 0, 0, Nat.zero_le _, Nat.zero_le _, rfl, rfl, rfl, rfl, ⟨fun h => ⟨⟨of_decide_eq_true h, fun k hk => by omega⟩, rfl⟩, fun h hg => (of_decide_eq_false h) hg.1⟩⟩
                case round =>
                  obtain ⟨b, n, j, hj, hn, rfl, rfl, rfl, rfl, HB⟩ := hrel
                  by_cases hlt : j < nz
                  · cases b with
                    | false =>
                      have HNG : Hid (¬ GoodP s ns z nz) := HB.out.2 rfl
                      go_wp2
                      go_meet
                      exact ⟨⟨false, n, rfl, rfl, fun h => (by cases h), fun _ => HNG.out⟩, rfl⟩
                    | true =>
                      obtain ⟨hzp, hnc⟩ := HB.out.1 rfl
                      have HZP := Lib.hid hzp
                      have HNC := Lib.hid hnc
                      have d1 := HRz.out.cell j hlt
                      have hx := fun W => HX2.out W j hlt
                      have hzb := bounds_i64 (HR2.out.2 j hlt)
                      clear hzp hnc
                      by_cases h0 : 0 ≤ z j
                      · by_cases h2 : z j ≤ 2000
                        · obtain ⟨dl, hdl⟩ : ∃ dl : Nat, z j = (dl : Int) := ⟨(z j).toNat, by omega⟩
                          have HD := Lib.hid hdl
                          rw [hdl] at d1 h0 h2
                          have hdl2 : dl ≤ 2000 := by omega
                          have hn3 : n ≤ 63 * j := by rw [HNC.out]; exact cnt_small z nz j hj HZP.out.2
                          have hn4 : n + (dl / 32 + 1) ≤ 64 * 700 := by have := HZP.out.1; omega
                          clear hdl
                          go_wp2
                          go_roundw
                          case rel => exact ⟨true, n + (dl / 32 + 1), j + 1, by omega, hn4, rfl, by go_num, by go_num, (by first | rfl | trivial), ⟨fun _ => ⟨⟨HZP.out.1, fun k hk => (Nat.lt_or_ge k j).elim (HZP.out.2 k) (fun h => by obtain rfl : k = j := (by omega); have := HD.out; omega)⟩, by rw [HNC.out]; show _ = cntTo _ j + ((zL z nz).getD j 0 / 32 + 1); rw [zL_at z nz j hlt, HD.out]; rfl⟩, fun h => by cases h⟩⟩
                          case measure => simp [intOf]; omega
                        · have t1 : decide (z j ≤ 2000) = false := by simp; omega
                          have HNG : Hid (¬ GoodP s ns z nz) := fun hg => by have := (hg.2.1 j hlt).2; omega
                          go_wp2
                          go_roundw
                          case rel => exact ⟨false, n, j + 1, by omega, hn, rfl, rfl, by go_num, (by first | rfl | trivial), ⟨fun h => (by cases h), fun _ => HNG.out⟩⟩
                          case measure => simp [intOf]; omega
                      · have t1 : decide (0 ≤ z j) = false := by simp; omega
                        have HNG : Hid (¬ GoodP s ns z nz) := fun hg => by have := (hg.2.1 j hlt).1; omega
                        go_wp2
                        go_roundw
                        case rel => exact ⟨false, n, j + 1, by omega, hn, rfl, rfl, by go_num, (by first | rfl | trivial), ⟨fun h => (by cases h), fun _ => HNG.out⟩⟩
                        case measure => simp [intOf]; omega
                  · obtain rfl : j = nz := by omega
                    have hd : decide ((j : Int) < (j : Int)) = false := by simp
                    clear hlt
                    go_wp2
                    go_meet
                    exact ⟨⟨b, n, rfl, rfl, HB.out.1, HB.out.2⟩, rfl⟩
              case rest =>
                obtain ⟨⟨b, n, rfl, rfl, hb1, hb2⟩, rfl⟩ := hcut
                have HB12 := Lib.hid (And.intro hb1 hb2)
                clear hb1 hb2
                go_upto_region 25 with fail
                go_cut [19] (fun v19 wx => (∃ b : Bool, v19 = .bool b ∧ Hid ((b = true → SP s ns z nz 0) ∧ (b = false → ¬ GoodP s ns z nz))) ∧ wx = wc)
                case first =>
                  cases b with
                  | false =>
                    have HNG : Hid (¬ GoodP s ns z nz) := HB12.out.2 rfl
                    go_wp2
                    go_meet
                    exact ⟨⟨false, rfl, fun h => (by cases h), fun _ => HNG.out⟩, rfl⟩
                  | true =>
                    obtain ⟨hzp, hnc⟩ := HB12.out.1 rfl
                    have HZP := Lib.hid hzp
                    have HNC := Lib.hid hnc
                    clear hzp hnc HB12
                    by_cases hn : n = ns
                    · have t1 : ((n : Int) == (ns : Int)) = true := by rw [hn]; simp
                      have t2 : (n == ns) = true := by rw [hn]; simp
                      have HN := Lib.hid hn
                      clear hn
                      go_wp2
                      go_meet
                      exact ⟨⟨true, rfl, fun _ => ⟨HZP.out, by rw [← HNC.out]; exact HN.out, fun i hi => by omega⟩, fun h => (by cases h)⟩, rfl⟩
                    · have t1 : ((n : Int) == (ns : Int)) = false := by simp; omega
                      have t2 : (n == ns) = false := by simp; omega
                      have HNG : Hid (¬ GoodP s ns z nz) := fun hg => hn (by rw [HNC.out]; exact hg.2.2.1)
                      clear hn
                      go_wp2
                      go_meet
                      exact ⟨⟨false, rfl, fun h => (by cases h), fun _ => HNG.out⟩, rfl⟩
                case rest =>
                  obtain ⟨⟨b, rfl, HB2⟩, rfl⟩ := hcut
                  clear HB12
                  go_upto_block 4 with fail
                  go_cut [19] (fun v19 wx => (∃ b : Bool, v19 = .bool b ∧ Hid ((b = true → GoodP s ns z nz) ∧ (b = false → ¬ GoodP s ns z nz))) ∧ ∃ q, wx = wc.drewN q)
                  case first =>
                    go_wp2_with fail
                    go_loopw [19, 22] (fun v19 v22 wr => ∃ (b : Bool) (j q : Nat), j ≤ ns ∧ v19 = .bool b ∧ v22 = .int .i64 (j : Int) ∧ wr = wc.drewN q ∧ Hid ((b = true → SP s ns z nz j) ∧ (b = false → ¬ GoodP s ns z nz))) (fun _ v22 _ => ns - (intOf v22).toNat)
                    case atStart => exact ⟨b, 0, 0, Nat.zero_le _, rfl, rfl, rfl, HB2.out⟩
                    case round =>
                      obtain ⟨b3, j, q, hj, rfl, rfl, rfl, HB3⟩ := hrel
                      by_cases hlt : j < ns
                      · cases b3 with
                        | false =>
                          have HNG : Hid (¬ GoodP s ns z nz) := HB3.out.2 rfl
                          go_wp2
                          go_meet
                          exact ⟨⟨false, rfl, fun h => (by cases h), fun _ => HNG.out⟩, _, rfl⟩
                        | true =>
                          have HSP := Lib.hid (HB3.out.1 rfl)
                          have d1 := HRs.out.cell j hlt
                          have HD1 := Lib.hid d1
                          have hx := fun W => HX1.out W j hlt
                          have hsb := bounds_i64 (HR1.out.2 j hlt)
                          clear HB3
                          go_upto_region 29 with fail
                          go_cut [19] (fun v19 wx => (∃ b : Bool, v19 = .bool b ∧ Hid ((b = true → 0 ≤ s j ∧ s j ≤ 60499) ∧ (b = false → ¬ GoodP s ns z nz))) ∧ wx = wc.drewN q)
                          case first =>
                            by_cases h0 : 0 ≤ s j
                            · by_cases h2 : s j < 60500
                              · have H := Lib.hid (show 0 ≤ s j ∧ s j ≤ 60499 from ⟨h0, by omega⟩)
                                go_wp2
                                go_meet
                                exact ⟨⟨true, rfl, fun _ => H.out, fun h => (by cases h)⟩, rfl⟩
                              · have t1 : decide (s j < 60500) = false := by simp; omega
                                have HNG : Hid (¬ GoodP s ns z nz) := fun hg => by have := (hg.2.2.2.1 j hlt).2; omega
                                go_wp2
                                go_meet
                                exact ⟨⟨false, rfl, fun h => (by cases h), fun _ => HNG.out⟩, rfl⟩
                            · have t1 : decide (0 ≤ s j) = false := by simp; omega
                              have HNG : Hid (¬ GoodP s ns z nz) := fun hg => by have := (hg.2.2.2.1 j hlt).1; omega
                              go_wp2
                              go_meet
                              exact ⟨⟨false, rfl, fun h => (by cases h), fun _ => HNG.out⟩, rfl⟩
                          case rest =>
                            obtain ⟨⟨b4, rfl, HB4⟩, rfl⟩ := hcut
                            go_wp2_with fail
                            go_loopw [19, 23] (fun v19 v23 wr => ∃ (b : Bool) (k q : Nat), k ≤ j ∧ v19 = .bool b ∧ v23 = .int .i64 (k : Int) ∧ wr = wc.drewN q ∧ Hid ((b = true → (0 ≤ s j ∧ s j ≤ 60499) ∧ ∀ k', k' < k → s k' ≠ s j) ∧ (b = false → ¬ GoodP s ns z nz))) (fun _ v23 _ => j - (intOf v23).toNat)
                            case atStart => exact ⟨b4, 0, q, Nat.zero_le _, rfl, rfl, rfl, ⟨fun h => ⟨HB4.out.1 h, fun k hk => by omega⟩, HB4.out.2⟩⟩
                            case round =>
                              obtain ⟨b5, k, q5, hk, rfl, rfl, rfl, HB5⟩ := hrel
                              by_cases hlk : k < j
                              · cases b5 with
                                | false =>
                                  have HNG : Hid (¬ GoodP s ns z nz) := HB5.out.2 rfl
                                  clear HB5
                                  go_wp2
                                  go_quiet (fail)
                                  go_wp2
                                  go_roundw
                                  case rel => exact ⟨false, k + 1, _, by omega, rfl, by go_num, rfl, ⟨fun h => (by cases h), fun _ => HNG.out⟩⟩
                                  case measure => simp [intOf]; omega
                                | true =>
                                  have HT := Lib.hid (HB5.out.1 rfl)
                                  have d2 := HRs.out.cell k (by omega)
                                  have hx2 := fun W => HX1.out W k (by omega)
                                  clear HB5
                                  by_cases he : s k = s j
                                  · have HNG : Hid (¬ GoodP s ns z nz) := fun hg => hg.2.2.2.2 j hlt k hlk he
                                    rw [he] at d2
                                    have t1 : (s j != s j) = false := by simp
                                    clear he
                                    go_wp2
                                    go_quiet (fail)
                                    go_wp2
                                    go_roundw
                                    case rel => exact ⟨false, k + 1, _, by omega, rfl, by go_num, rfl, ⟨fun h => (by cases h), fun _ => HNG.out⟩⟩
                                    case measure => simp [intOf]; omega
                                  · have t1 : (s k != s j) = true := by simpa using he
                                    have HNE := Lib.hid he
                                    clear he
                                    go_wp2
                                    go_quiet (fail)
                                    go_wp2
                                    go_roundw
                                    case rel => exact ⟨true, k + 1, _, by omega, rfl, by go_num, rfl, ⟨fun _ => ⟨HT.out.1, fun k' hk' => (Nat.lt_or_ge k' k).elim (HT.out.2 k') (fun h => by obtain rfl : k' = k := (by omega); exact HNE.out)⟩, fun h => (by cases h)⟩⟩
                                    case measure => simp [intOf]; omega
                              · obtain rfl : k = j := by omega
                                have hd : decide ((k : Int) < (k : Int)) = false := by simp
                                clear hlk
                                go_wp2
                                go_roundw
                                case rel => exact ⟨b5, k + 1, q5, by omega, rfl, by go_num, rfl, ⟨fun h => ⟨HSP.out.1, HSP.out.2.1, fun i' hi' => (Nat.lt_or_ge i' k).elim (HSP.out.2.2 i') (fun h2 => by obtain rfl : i' = k := (by omega); exact HB5.out.1 h)⟩, HB5.out.2⟩⟩
                                case measure => simp [intOf]; omega
                      · obtain rfl : j = ns := by omega
                        have hd : decide ((j : Int) < (j : Int)) = false := by simp
                        clear hlt
                        go_wp2
                        go_meet
                        exact ⟨⟨b3, rfl, fun h => SP.good (HB3.out.1 h), HB3.out.2⟩, _, rfl⟩
                  case rest =>
                    obtain ⟨⟨b, rfl, HB6⟩, q, rfl⟩ := hcut
                    have HRsq := Lib.hid (HRs.out.drewN q)
                    have HRzq := Lib.hid (HRz.out.drewN q)
                    have HIq := Lib.hid (HIr.out.drewN q)
                    have HBq := Lib.hid (below_drewN HBW.out q)
                    clear HRs HRz HIr HBW HB2 hd
                    generalize wc.drewN q = wq at *
                    have HFR := Lib.hid (wfrom_any wq a1 a2 ns cs nz cz s z (by omega) (by omega) hcs HRsq.out HRzq.out HR1.out.2)
                    go_wp2_with fail
                    refine HFR.out.mono ?_
                    rintro e wx ⟨hbx, (⟨hg, bpx, bqx, vSx, vZx, Yx, rfl, hpx⟩ | ⟨hg, rfl⟩)⟩
                    · cases b with
                      | false => exact (HB6.out.2 rfl hg).elim
                      | true =>
                        have HIx := Lib.hid (HIq.out.kept hbx)
                        have HBx : Hid (Below w.heap.size w wx) := below_next HBq.out hbx HBq.out.size
                        have hfs : ∀ r p, putF (fromTo (fun i => (s i).toNat) (zL z nz) nz) r = some p → p.1 ≤ 1000000 ∧ p.2 ≤ 1000000 := from_small _ _ (fun j => by
                          rcases Nat.lt_or_ge j nz with h | h
                          · rw [zL_at z nz j h]; have := hg.2.1 j h; omega
                          · rw [List.getD_eq_getElem?_getD, List.getElem?_eq_none (by rw [zL_len]; exact h)]; exact Nat.zero_le _) nz hg.1
                        have HFS := Lib.hid hfs
                        have HPx := Lib.hid hpx
                        have HA1 := Lib.hid (wat_any wx bx bm al cl (bwtOf ds) HIx.out (by rw [HBL.out]; omega) (bwt_ends ds HOK.out) Yx bpx bqx vSx vZx _ _ _ _ hpx hfs 0 (by decide))
                        clear hpx hfs hbx hg HFR HB6
                        go_wp2_with fail
                        refine HA1.out.mono ?_
                        rintro e wy ⟨res, rfl, hby, _⟩
                        have HIy := Lib.hid (HIx.out.kept hby)
                        have HPy := Lib.hid (HPx.out.kept (KeepX.of_below hby))
                        have HBy : Hid (Below w.heap.size w wy) := below_next HBx.out hby HBx.out.size
                        have HLy := Lib.hid (blen_any wy bx bm al cl _ HIy.out)
                        rw [HBL.out] at HLy
                        have HA2 := Lib.hid (wat_any wy bx bm al cl (bwtOf ds) HIy.out (by rw [HBL.out]; omega) (bwt_ends ds HOK.out) Yx bpx bqx vSx vZx _ _ _ _ HPy.out HFS.out ((i : Int) - 1) (WalkArith.wf_i64 ⟨by omega, by omega⟩))
                        clear hby HA1 HIx HPx HBx
                        go_wp2_with fail
                        refine HLy.out.mono ?_
                        rintro e w' ⟨rfl, rfl⟩
                        go_wp2_with fail
                        refine HA2.out.mono ?_
                        rintro e wv ⟨res2, rfl, hbv, _⟩
                        have HBv : Hid (Below w.heap.size w wv) := below_next HBy.out hbv HBy.out.size
                        clear hbv HA2 HLy
                        go_wp2_with (go_at_call 16; refine (awake13_any _).mono ?_; rintro e w8 ⟨rfl, hb8⟩)
                        go_ret
                        exact ⟨rfl, below_next HBv.out hb8 HBv.out.size⟩
                    · cases b with
                      | true => exact (hg (HB6.out.1 rfl)).elim
                      | false =>
                        have HBx : Hid (Below w.heap.size w wx) := below_next HBq.out hbx HBq.out.size
                        clear hbx hg HFR HB6
                        go_wp2_with (go_at_call 16; refine (awake13_any _).mono ?_; rintro e w8 ⟨rfl, hb8⟩)
                        go_ret
                        exact ⟨rfl, below_next HBx.out hb8 HBx.out.size⟩
        · exact (hno HG.out).elim
end Go.Proofs.Ytjpoebmjfedecaa
