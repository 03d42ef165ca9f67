/-
  BagMaps: a map tells what was put last for each key, in the order of its keys.
-/
import Derived.Test.YtoifmfdaghmleaaMapState
import Derived.Test.YtoifmfdaghmleaaBagMapsD
import Derived.Test.YtoifmfdaghmleaaSameTxt
import Derived.Test.YtoifmfdaghmleaaNoPanic
import Derived.Test.YtoifmfdaghmleaaBagAwake
import Derived.Deep.CutBlock
import Derived.Deep.CutRange
set_option linter.unusedVariables false
namespace Go.Proofs.Ytoifmfdaghmleaa
open Go.RowKit Go.Lib Go.Sort Go.Shelf
theorem egPtrM (p : Nat) (W : World) : (binOp .eql 70 (.pointer (some ⟨p, 0, none⟩)) (.pointer none)).run Try.prog W = .ok (.bool false) W := by kernel_rfl
theorem size_strM (w : World) : (sizeOf (Try.prog.elem 32)).run Try.prog w = .ok 1 w := by kernel_rfl
set_option maxRecDepth 100000 in
set_option maxHeartbeats 64000000 in
theorem bagMaps_walk (w : World) (a0 : Option Addr) (n cap : Nat) (O : Nat → OpV) (hl : n ≤ maxLen) (h : OpsAt w a0 n O) :
    Calls Try.prog 11 #[.slice a0 n cap] w fun e w' => e = .returned (.bool true) ∧ Below w.heap.size w w' := by
  have HAW := Lib.hid (fun W => awake5_any W)
  have HNM := Lib.hid (newMapS w)
  have HO := Lib.hid h
  have HIX := Lib.hid (run_ixN (P := Try.prog) 65 4 (by kernel_rfl) (fun w => by kernel_rfl) a0 n cap h.at_)
  clear h
  go_enter Try.func11, Try.ntmps11
  go_wp2_with fail
  refine HNM.out.mono ?_
  rintro e w1 ⟨rfl, hm, hb1⟩
  obtain ⟨p, hp⟩ : ∃ p, p = w.heap.size := ⟨_, rfl⟩
  have HS1 : Hid (MSt w w1 p (.slice none 0 0) (.slice none 0 0) (.slice none 0 0) []) := ⟨by rw [hp]; exact hm, World.ownsRow_nil _ _ _ _, World.ownsRow_nil _ _ _ _, .inl rfl, fun g e => by simp [Value.ownBlock] at e, fun g e => by simp [Value.ownBlock] at e, hb1, by omega⟩
  rw [← hp]
  have egP := fun W => egPtrM p W
  clear hm hb1 hp HNM
  go_wp2
  go_loopw [4, 5, 6, 7, 8, 9, 10, 11, 12, 13, 14, 15, 16] (fun v4 v5 v6 _ _ _ _ _ _ _ _ _ _ wr => ∃ (k c d : Nat) (a b : Option Addr) (v' : Value) (L : List MEnt), k ≤ n ∧ k ≤ 60 ∧ v6 = .int .i64 (k : Int) ∧ v4 = .slice a L.length c ∧ v5 = .slice b L.length d ∧ L.length ≤ k ∧ MSt w wr p v' (.slice a L.length c) (.slice b L.length d) L) (fun _ _ v6 _ _ _ _ _ _ _ _ _ _ _ => 60 - (intOf v6).toNat)
  case atStart => exact ⟨0, 0, 0, none, none, _, [], Nat.zero_le _, Nat.zero_le _, rfl, rfl, rfl, Nat.zero_le _, HS1.out⟩
  case round =>
    obtain ⟨k, c, d, a, b, v', L, hk, hk6, rfl, rfl, rfl, hlk, hst⟩ := hrel
    by_cases hlt : k < n ∧ k < 60
    · obtain ⟨hlt, hlt6⟩ := hlt
      have tk : (k : Int) < (n : Int) := by omega
      have tk6 : (k : Int) < 60 := by omega
      have hxk := fun W => HIX.out W k hlt
      have ho := HO.out.kept hst.bel
      have d0 := ho.c0 k hlt
      have d1 := ho.c1 k hlt
      have d2 := ho.c2 k hlt
      have d3 := ho.c3 k hlt
      have HST := Lib.hid hst
      have HLK := Lib.hid hlk
      clear ho hst hlk
      obtain ⟨⟨kd, x, vv, sx⟩, hO⟩ : ∃ o, o = O k := ⟨_, rfl⟩
      rw [← hO] at d0 d1 d2 d3
      clear hO
      simp only at d0 d1 d2 d3
      have HB1 := Lib.hid (Blk.new wr kd x vv sx)
      have HB0 : Hid (Below wr.heap.size wr (wr.alloc (.cells #[.int .i64 kd, .int .i64 x, .int .i64 vv, .string sx] 67))) := (Below.refl _ wr).alloc (Nat.le_refl _) _
      by_cases h50 : (50 : Int) < (sx.size : Int)
      · have HBW := Lib.hid (below_next HST.out.bel HB0.out HST.out.bel.size)
        go_wp2_with (go_at_call 23; refine (HAW.out _).mono ?_; rintro e w' ⟨rfl, hb⟩; have HB9 := Lib.hid (below_next HBW.out hb HBW.out.size); clear hb)
        go_ret
        exact ⟨rfl, HB9.out⟩
      · have HNB : Hid (¬ SetB p v' wr.heap.size) := fun h => h.elim (fun e => by have := HST.out.map.box.lt; omega) (fun e => by have := (HST.out.map.row.lt _ e).2; omega)
        have HNA : Hid (∀ g, (Value.slice b L.length d).ownBlock = some g → g ≠ wr.heap.size) := fun g e => by have := (HST.out.rv.lt g e).2; omega
        have HS2 := Lib.hid (HST.out.kept HB0.out)
        go_upto_block 2 with fail
        clear d0 d1 d2 d3 hxk
        generalize (wr.alloc (.cells #[.int .i64 kd, .int .i64 x, .int .i64 vv, .string sx] 67)) = w2 at *
        generalize wr.heap.size = B at *
        clear HST HB0
        have HWC : Hid (∀ q, Below w2.heap.size w2 (w2.drewN q)) := fun q => below_drewN (Below.refl _ _) q
        have HRI := Lib.hid HS2.out.rise
        have HKL := Lib.hid (ksG_len L)
        have HVL := Lib.hid (vsG_len L)
        have HR0 := Lib.hid (row_mapK (z := (⟨#[]⟩ : ByteArray)) HS2.out.rk (by rw [ksG_len]))
        have HIXK := Lib.hid (run_ix (P := Try.prog) 32 (by kernel_rfl) size_strM a L.length c HR0.out.at_ .i64)
        have HRL : Hid (rk ltT (ksG L) sx ≤ L.length) := by have := rk_le (lt := ltT) (ksG L) sx; rw [ksG_len] at this; exact this
        go_cut [8] from 39 to 220 (fun s8 wx => s8 = .int .i64 (rk ltT (ksG L) sx : Nat) ∧ ∃ q, wx = w2.drewN q)
        case first =>
          have HPB := Lib.hid (fun b (hb : b < L.length) => show (ltT ((ksG L).getD b ⟨#[]⟩) sx = true ↔ b < rk ltT (ksG L) sx) by
            have hb2 : b < (ksG L).length := by rw [ksG_len]; exact hb
            rw [List.getD_eq_getElem?_getD, List.getElem?_eq_getElem hb2, Option.getD_some]
            exact rk_at ordT HRI.out sx b hb2)
          generalize rk ltT (ksG L) sx = r at *
          generalize hlm : L.length = m at *
          have HLM := Lib.hid hlm
          clear hlm
          go_wp2
          go_loopw [8] (fun v8 wr => ∃ b : Nat, b ≤ r ∧ v8 = .int .i64 (b : Int) ∧ ∃ q, wr = w2.drewN q) (fun v8 _ => r + 1 - (intOf v8).toNat)
          case atStart => exact ⟨0, Nat.zero_le _, rfl, 0, rfl⟩
          case round =>
            obtain ⟨b', hb, rfl, q, hq⟩ := hrel
            have hr80 : (r : Int) ≤ 100 := by have := HRL.out; have := HLK.out; omega
            have e9 := (HB1.out.kept (HWC.out q)).s
            rw [← hq] at e9
            by_cases hbm : b' < m
            · have tb : (b' : Int) < (m : Int) := by omega
              have hx := fun W => HIXK.out W b' hbm
              have dd := (HR0.out.kept (HWC.out q)).cell b' hbm
              rw [← hq] at dd
              have hp := HPB.out b' hbm
              have HQ := Lib.hid hq
              clear hq
              generalize (ksG L).getD b' ⟨#[]⟩ = y at *
              by_cases hbr : b' < r
              · have ty := hp.2 hbr
                unfold ltT at ty
                clear hp
                go_wp2
                go_quiet (fail)
                clear dd hx e9
                go_wp2
                go_roundw
                case rel => exact ⟨b' + 1, by omega, by go_num, q + nq, by rw [HQ.out, World.drewN_drewN]⟩
                case measure => simp [intOf]; omega
              · have ty : Op.bytesLess y.toList sx.toList = false := by
                  cases hc : Op.bytesLess y.toList sx.toList with
                  | false => rfl
                  | true => exact absurd (hp.1 hc) hbr
                obtain rfl : b' = r := by omega
                clear hp
                go_wp2
                go_quiet (fail)
                clear dd hx e9
                go_wp2
                go_meet
                exact ⟨rfl, q + nq, by rw [HQ.out, World.drewN_drewN]⟩
            · have tb : ¬ (b' : Int) < (m : Int) := by omega
              have hbr : b' = r := by have := HRL.out; omega
              have HQ := Lib.hid hq
              subst hbr
              clear hq
              go_wp2
              go_quiet (fail)
              go_wp2
              go_meet
              exact ⟨rfl, q + nq, by rw [HQ.out, World.drewN_drewN]⟩
        case rest =>
          obtain ⟨rfl, q0, rfl⟩ := hcut
          generalize hwq : w2.drewN q0 = w3 at *
          have HS3 : Hid (MSt w w3 p v' (.slice a L.length c) (.slice b L.length d) L) := by rw [← hwq]; exact HS2.out.kept (HWC.out q0)
          have HB3 : Hid (Blk w3 B kd x vv sx) := by rw [← hwq]; exact HB1.out.kept (HWC.out q0)
          have HR3 : Hid (Row w3 a L.length (fun j => Value.string ((ksG L).getD j ⟨#[]⟩))) := by rw [← hwq]; exact HR0.out.kept (HWC.out q0)
          clear hwq HS2 HB1 HR0 HWC
          have HWC : Hid (∀ q, Below w3.heap.size w3 (w3.drewN q)) := fun q => below_drewN (Below.refl _ _) q
          go_upto_region 15 with fail
          go_cut [9] from 54 to 220 (fun s9 wx => s9 = .bool (memB (ksG L) sx) ∧ ∃ q, wx = w3.drewN q)
          case first =>
            have e9 := HB3.out.s
            have hLM := HLK.out
            by_cases hm : sx ∈ ksG L
            · obtain ⟨hr1, hr2⟩ := rk_in ordT HRI.out hm
              have HMB : Hid (memB (ksG L) sx = true) := memB_true hm
              have dd := HR3.out.cell _ hr1
              rw [hr2] at dd
              have hx := fun W => HIXK.out W _ hr1
              have tr : ((rk ltT (ksG L) sx : Nat) : Int) < (L.length : Int) := by omega
              have te : (sx.toList == sx.toList) = true := by simp
              clear hm hr1 hr2
              generalize rk ltT (ksG L) sx = r at *
              go_wp2
              go_quiet (fail)
              clear dd hx e9
              go_wp2
              go_meet
              exact ⟨by rw [HMB.out], nq, rfl⟩
            · have HMB : Hid (memB (ksG L) sx = false) := memB_false hm
              by_cases hr1 : rk ltT (ksG L) sx < L.length
              · have dd := HR3.out.cell _ hr1
                have hx := fun W => HIXK.out W _ hr1
                have tr : ((rk ltT (ksG L) sx : Nat) : Int) < (L.length : Int) := by omega
                have hne : (ksG L).getD (rk ltT (ksG L) sx) ⟨#[]⟩ ≠ sx := fun e => hm ((rk_mem ordT HRI.out sx).2 ⟨by rw [HKL.out]; exact hr1, by
                  rw [List.getD_eq_getElem?_getD, List.getElem?_eq_getElem (by rw [HKL.out]; exact hr1), Option.getD_some] at e
                  exact e⟩)
                have te := ba_eqs ((ksG L).getD (rk ltT (ksG L) sx) ⟨#[]⟩) sx
                rw [decide_eq_false hne] at te
                clear hne hm
                generalize (ksG L).getD (rk ltT (ksG L) sx) ⟨#[]⟩ = y at *
                generalize rk ltT (ksG L) sx = r at *
                go_wp2
                go_quiet (fail)
                clear dd hx e9
                go_wp2
                go_meet
                exact ⟨by rw [HMB.out], nq, rfl⟩
              · have tr : ¬ ((rk ltT (ksG L) sx : Nat) : Int) < (L.length : Int) := by omega
                clear hm
                generalize rk ltT (ksG L) sx = r at *
                have hdr : decide ((r : Int) < (L.length : Int)) = false := decide_eq_false tr
                go_wp2
                go_quiet (fail)
                go_wp2
                go_meet
                exact ⟨by rw [HMB.out], nq, rfl⟩
          case rest =>
            obtain ⟨rfl, q1, rfl⟩ := hcut
            generalize hwq : w3.drewN q1 = w4 at *
            have HS4 : Hid (MSt w w4 p v' (.slice a L.length c) (.slice b L.length d) L) := by rw [← hwq]; exact HS3.out.kept (HWC.out q1)
            have HB4 : Hid (Blk w4 B kd x vv sx) := by rw [← hwq]; exact HB3.out.kept (HWC.out q1)
            clear hwq HS3 HB3 HR3 HWC HIXK
            have e0 := HB4.out.k
            have e2 := HB4.out.v
            have e3 := HB4.out.s
            generalize hmbq : memB (ksG L) sx = mb at *
            generalize hrkq : rk ltT (ksG L) sx = r at *
            have HMB := Lib.hid hmbq
            have HRQ := Lib.hid hrkq
            clear hmbq hrkq
            go_upto_block 4 with fail
            refine sw_all w w4 p v' a b c d k B L kd x vv sx r mb _ _ _ _ _ _ _ _ _ _ _ _ _ _ _ _ _ _ _ _ _ _ _ _ _ _ _ _ _ _ _ _ _ _ _ _ _ _ _ _ _ _ _ _ _ _ _ _ _ _ _ _ _ _ _ _ _ _ _ _ _ _ _ _ _ _ _ _ _ _ _ _ _ _ _ _ _ _ _ _ _ _ _ _ _ _ _ _ _ _ _ _ _ _ _ _ _ _ _ _ _ _ _ _ _ _ _ _ _ _ _ _ _ _ _ _ _ _ _ _ _ _ _ _ _ _ _ _ _ _ _ _ _ _ _ _ _ _ _ _ _ _ _ _ _ _ _ _ _ _ _ _ _ _ _ _ _ _ _ _ _ _ _ _ _ _ _ _ _ _ _ _ _ _ _ _ _ _ _ _ _ _ _ _ _ _ _ _ _ _ _ _ _ _ _ _ _ _ _ _ _ _ _ _ _ _ _ _ _ _ _ _ _ _ _ _ _ ?_ hlt6 HS4 HB4 HNB HNA HLK HMB HRQ
            unfold SwK
            intro v2 a2 b2 c2 d2 L2 wc
            iterate 102 (intro _)
            intro hl2 hst2 hbk2
            clear HB4 HS4 HNB HNA HMB HRQ HLK HKL HVL HRI HRL e0 e2 e3
            have HST := Lib.hid hst2
            have HBK := Lib.hid hbk2
            have HL2 := Lib.hid hl2
            have HKL := Lib.hid (ksG_len L2)
            have HVL := Lib.hid (vsG_len L2)
            clear hst2 hbk2 hl2
            obtain ⟨mm, hmm, hmm2⟩ : ∃ mm : Nat, bits .and .i64 x 3 = (mm : Int) ∧ mm ≤ 3 := by
              have em : bits .and .i64 x 3 = x % 4 := i64_mask x 2 (by omega)
              exact ⟨(x % 4).toNat, by rw [em]; omega, by omega⟩
            have hp1 := pairs_any wc p v2 L2 HST.out.map (by have := HL2.out; omega) 1000 (by omega)
            rw [List.take_of_length_le (by have := HL2.out; omega)] at hp1
            obtain ⟨S, hS⟩ : ∃ S, S = L2.take mm := ⟨_, rfl⟩
            have hSl : S.length = min mm L2.length := by rw [hS, List.length_take]
            have HP2 : Hid (∀ W, Below wc.heap.size wc W → Calls Try.prog 53 #[.pointer (some ⟨p, 0, none⟩), .int .i64 (mm : Int)] W (PairsP W S)) := fun W hW => by
              rw [hS]; exact pairs_any W p v2 L2 (HST.out.map.kept hW) (by have := HL2.out; omega) mm (by omega)
            have HSK : Hid (∀ j, j < S.length → (ksG L2).getD j ⟨#[]⟩ = (ksG S).getD j ⟨#[]⟩) := fun j hj => by
              have : ksG S = (ksG L2).take mm := by rw [hS]; unfold ksG; rw [List.map_take]
              rw [this, getD_take _ _ _ _ (by omega)]
            have HSV : Hid (∀ j, j < S.length → (vsG L2).getD j 0 = (vsG S).getD j 0) := fun j hj => by
              have : vsG S = (vsG L2).take mm := by rw [hS]; unfold vsG; rw [List.map_take]
              rw [this, getD_take _ _ _ _ (by omega)]
            have hsr := srow_mapK (⟨#[]⟩ : ByteArray) HST.out.rk HKL.out.symm
            have hsv := srow_mapK (0 : Int) HST.out.rv HVL.out.symm
            have HCK : Hid (∀ W, (Instr.slice 32 (.slice a2 L2.length c2) none (some (.int .i64 (min (mm : Int) (L2.length : Int)))) none).run Try.prog W = .ok (.slice a2 S.length c2) W) := fun W => by
              rw [show min (mm : Int) (L2.length : Int) = ((S.length : Nat) : Int) by rw [hSl]; omega]
              exact run_cuth W 32 9 Try.underlying32 (fun w => by kernel_rfl) a2 L2.length c2 S.length (by have := hsr.le; omega) hsr.at_
            have HCV : Hid (∀ W, (Instr.slice 31 (.slice b2 L2.length d2) none (some (.int .i64 (min (mm : Int) (L2.length : Int)))) none).run Try.prog W = .ok (.slice b2 S.length d2) W) := fun W => by
              rw [show min (mm : Int) (L2.length : Int) = ((S.length : Nat) : Int) by rw [hSl]; omega]
              exact run_cuth W 31 3 Try.underlying31 (fun w => by kernel_rfl) b2 L2.length d2 S.length (by have := hsv.le; omega) hsv.at_
            have HKA := Lib.hid hsr.row
            have HVA := Lib.hid hsv.row
            have HKB : Hid (Row wc a2 S.length (fun j => Value.string ((ksG S).getD j ⟨#[]⟩))) := (hsr.row.take (by omega)).congr fun j hj => by show Value.string _ = Value.string _; rw [HSK.out j hj]
            have HVB : Hid (Row wc b2 S.length (fun j => vI ((vsG S).getD j 0))) := (hsv.row.take (by omega)).congr fun j hj => by show Value.int .i64 _ = Value.int .i64 _; rw [HSV.out j hj]
            have HSL : Hid (S.length ≤ 60) := by have := HL2.out; show _ ≤ _; omega
            have HP1 := Lib.hid hp1
            have HLE := Lib.hid (fun W (hW : Below wc.heap.size wc W) => lenMS W p v2 (ents vI L2) (HST.out.map.kept hW))
            simp only [ents_len] at HLE
            clear hp1 hSl hS hsr hsv hmm2 HSK HSV
            generalize hlm : L2.length = m at *
            have HLM := Lib.hid hlm
            clear hlm
            generalize hsm : S.length = sm at *
            have HSM := Lib.hid hsm
            clear hsm
            go_wp2_with fail
            refine HP1.out.mono ?_
            rintro e w5 ⟨ap, cp, aq, dq, rfl, hr1, hr2, hb5⟩
            have HX1 := Lib.hid hr1
            have HX2 := Lib.hid hr2
            have HB5 := Lib.hid hb5
            have e1 := (HBK.out.kept hb5).x
            clear hr1 hr2 hb5 HP1
            rw [HLM.out] at HX1 HX2 ⊢
            go_wp2_with fail
            refine (HP2.out _ HB5.out).mono ?_
            rintro e w6 ⟨ar, cr, au, du, rfl, hr1, hr2, hb6⟩
            have HX3 := Lib.hid hr1
            have HX4 := Lib.hid hr2
            have HB6 := Lib.hid (below_next HB5.out hb6 HB5.out.size)
            have e11 := (HBK.out.kept HB6.out).x
            replace HX1 := Lib.hid (HX1.out.kept hb6)
            replace HX2 := Lib.hid (HX2.out.kept hb6)
            clear hr1 hr2 hb6 HP2 e1
            rw [HSM.out] at HX3 HX4 ⊢
            go_wp2_with fail
            refine (HLE.out _ HB6.out).mono ?_
            rintro e wz ⟨rfl, hwz⟩
            have hwz' := hwz.symm
            subst hwz'
            clear hwz
            clear e11 hmm HLE
            go_wp2_with fail
            refine (sametxt_yes _ ap a2 _ cp c2 _ (by have := HL2.out; omega) HX1.out (HKA.out.kept HB6.out)).mono ?_
            rintro e w7 ⟨rfl, q7, rfl⟩
            have HB7 := Lib.hid (below_drewN HB6.out q7)
            replace HX2 := Lib.hid (HX2.out.drewN q7)
            replace HX3 := Lib.hid (HX3.out.drewN q7)
            replace HX4 := Lib.hid (HX4.out.drewN q7)
            clear HB6 HX1
            generalize w6.drewN q7 = w7 at *
            go_wp2_with fail
            refine (same_yes _ aq b2 _ dq d2 _ (by have := HL2.out; omega) HX2.out (HVA.out.kept HB7.out)).mono ?_
            rintro e w8 ⟨rfl, q8, rfl⟩
            have HB8 := Lib.hid (below_drewN HB7.out q8)
            replace HX3 := Lib.hid (HX3.out.drewN q8)
            replace HX4 := Lib.hid (HX4.out.drewN q8)
            clear HB7 HX2
            generalize w7.drewN q8 = w8 at *
            have hcu := HCK.out
            go_wp2_with fail
            refine (sametxt_yes _ ar a2 _ cr c2 _ (by have := HSL.out; omega) HX3.out (HKB.out.kept HB8.out)).mono ?_
            rintro e w9 ⟨rfl, q9, rfl⟩
            have HB9 := Lib.hid (below_drewN HB8.out q9)
            replace HX4 := Lib.hid (HX4.out.drewN q9)
            clear HB8 HX3 hcu
            generalize w8.drewN q9 = w9 at *
            have hcv := HCV.out
            go_wp2_with fail
            refine (same_yes _ au b2 _ du d2 _ (by have := HSL.out; omega) HX4.out (HVB.out.kept HB9.out)).mono ?_
            rintro e wa ⟨rfl, qa, rfl⟩
            have HBA := Lib.hid (below_drewN HB9.out qa)
            clear HB9 HX4 hcv
            generalize w9.drewN qa = wa at *
            have HSTE := Lib.hid (HST.out.kept HBA.out)
            go_wp2
            go_roundw
            case rel => exact ⟨k + 1, c2, d2, a2, b2, v2, L2, by omega, by omega, by go_num, by rw [HLM.out], by rw [HLM.out], by rw [HLM.out]; exact HL2.out, by rw [HLM.out]; exact HSTE.out⟩
            case measure => simp [intOf]; omega
    · have HBW := Lib.hid hst.bel
      by_cases hlt2 : k < n
      · have tk : (k : Int) < (n : Int) := by omega
        have tk6 : ¬ (k : Int) < 60 := by omega
        clear hst
        go_wp2_with (go_at_call 23; refine (HAW.out _).mono ?_; rintro e w' ⟨rfl, hb⟩; have HB9 := Lib.hid (below_next HBW.out hb HBW.out.size); clear hb)
        go_ret
        exact ⟨rfl, HB9.out⟩
      · have tk : ¬ (k : Int) < (n : Int) := by omega
        clear hst
        go_wp2_with (go_at_call 23; refine (HAW.out _).mono ?_; rintro e w' ⟨rfl, hb⟩; have HB9 := Lib.hid (below_next HBW.out hb HBW.out.size); clear hb)
        go_ret
        exact ⟨rfl, HB9.out⟩
end Go.Proofs.Ytoifmfdaghmleaa
