/-
  The statement FmOf: its walk.
-/
import Derived.Test.YtjpoebmjfedecaaGreatFmAskPut
import Derived.Test.YtjpoebmjfedecaaGreatFmAwake
import Derived.Test.YtjpoebmjfedecaaGreatRefSame
import Derived.Test.YtjpoebmjfedecaaGreatBwtClsPut
import Derived.Deep.CutBlock
import Derived.Maps.RangeWalk
namespace Go.Proofs.YtjpoebmjfedecaaGreat
open Go.RowKit

def FmOfPost (w : World) (L : List Nat) (e : Ending) (w' : World) : Prop :=
  ∃ z es, Cls L z es ∧ NewOk es ∧ Below w.heap.size w w' ∧ ((z = 0 ∧ ∃ bf, e = .returned (.tuple #[.pointer (some ⟨bf, 0, none⟩), .int .i64 0]) ∧ FmAt w' bf es) ∨ (z ≠ 0 ∧ e = .returned (.tuple #[.pointer none, .int .i64 z])))
set_option maxRecDepth 100000 in
set_option maxHeartbeats 1000000 in
theorem fofx_any (w : World) (a : Option Addr) (cap : Nat) (L : List Nat) (h6 : L.length ≤ 60000) (h5 : stC L 1 ≤ 500) (hr : Row w a L.length (symV L)) :
    Calls Tryz.prog 6 #[.slice a L.length cap] w (FmOfPost w L) := by
  have HD := Lib.hid (docs_cls w a cap L h6 h5 hr)
  have HR := Lib.hid hr
  clear hr
  go_enter Tryz.func6, Tryz.ntmps6
  go_wp2_with fail
  refine HD.out.mono ?_
  rintro e w1 ⟨z, a5, A5, c5, es, rfl, hd5, hcls, hok, hb1⟩
  have HR1 := Lib.hid (HR.out.kept hb1)
  have HB1 := Lib.hid hb1
  have HOK := Lib.hid hok
  have HCLS := Lib.hid hcls
  clear hd5 hb1 HR HD hok hcls
  by_cases hz : z = 0
  · subst hz
    have hL : bwtOf es = L := HCLS.out.ok.1.2
    subst hL
    have HF := Lib.hid (fof_any w1 a cap es HOK.out HR1.out)
    clear HR1
    go_wp2_with fail
    refine HF.out.mono ?_
    rintro e w2 ⟨bf, rfl, hf, hb2, -⟩
    have HF2 := Lib.hid hf
    have HB2 := Lib.hid hb2
    clear hf hb2
    go_wp2
    go_ret2
    exact ⟨0, es, HCLS.out, HOK.out, below_next HB1.out HB2.out HB1.out.size, .inl ⟨rfl, bf, rfl, HF2.out⟩⟩
  · have hzb : (z != 0) = true := by simp [hz]
    have HZ := Lib.hid hz
    clear hz
    go_wp2
    go_ret2
    exact ⟨z, es, HCLS.out, HOK.out, HB1.out, .inr ⟨HZ.out, rfl⟩⟩
set_option maxRecDepth 100000 in
set_option maxHeartbeats 4000000 in
theorem fmof_walk (w : World) (a0 : Option Addr) (len0 cap0 : Nat) (f0 : Nat → Int) (hl0 : len0 ≤ maxLen) (hr0 : Row w a0 len0 (fun k => .int .u16 (f0 k)) ∧ ∀ k, k < len0 → (Lit.int .u16 (f0 k)).wf = true) (a : Option Addr) (cap : Nat) (A : Nat → Option Addr) (C : Nat → Nat) (ds : List (List Nat)) (hin : DocsIn w a A C ds) (a1 : Option Addr) (len cap1 : Nat) (f : Nat → Int) (hl : len ≤ maxLen) (hr : Row w a1 len (fun k => .int .u8 (f k)) ∧ ∀ k, k < len → (Lit.int .u8 (f k)).wf = true) :
    Calls Tryz.prog 3 #[.slice a0 len0 cap0, .slice a ds.length cap, .slice a1 len cap1] w fun e w' => e = .returned (.bool true) ∧ Below w.heap.size w w' := by
  obtain ⟨R, hd0, hdr0, hm0⟩ := syms_list hr0
  subst hd0
  obtain ⟨P, hd, hdr, hpb⟩ := bytes_list hr
  subst hd
  unfold maxLen at hl hl0
  have HF := Lib.hid (few_any w a cap A C ds hin.many hin.docs hin.long)
  have HIN := Lib.hid hin
  have HP := Lib.hid hdr
  have HPB := Lib.hid hpb
  have HR := Lib.hid hdr0
  have HM := Lib.hid hm0
  clear hin hr hr0 hdr hdr0 hpb hm0
  by_cases h300 : (300 : Int) < (R.length : Int)
  · go_enter Tryz.func3, Tryz.ntmps3
    go_wp2_with (go_at_call 5; refine (awake14_any _).mono ?_; rintro e w1 ⟨rfl, hb⟩)
    go_ret
    exact ⟨rfl, hb⟩
  have h3d : decide ((300 : Int) < (R.length : Int)) = false := by simp; omega
  have h3e : decide (300 < R.length) = false := by simp; omega
  have hL : R.length ≤ 300 := by omega
  have hst : stC R 1 ≤ 500 := Nat.le_trans (stC_le R 1) (by omega)
  clear h300 hl0
  go_enter Tryz.func3, Tryz.ntmps3
  go_wp2_with fail
  refine HF.out.mono ?_
  rintro e w' ⟨b, rfl, hfew, rfl⟩
  cases b with
  | false =>
    clear hfew
    go_wp2_with (go_at_call 5; refine (awake14_any _).mono ?_; rintro e w1 ⟨rfl, hb⟩)
    go_ret
    exact ⟨rfl, hb⟩
  | true =>
    obtain ⟨hf1, hf2, hf3⟩ := hfew rfl
    have HFEW := Lib.hid (FewP.mk hf1 hf2 hf3 HIN.out.byte)
    have HOK := Lib.hid HFEW.out.ok
    clear hfew hf2 HF
    by_cases hp : (100 : Int) < (P.length : Int)
    · go_wp2_with (go_at_call 5; refine (awake14_any _).mono ?_; rintro e w1 ⟨rfl, hb⟩)
      go_ret
      exact ⟨rfl, hb⟩
    have hpd : decide ((100 : Int) < (P.length : Int)) = false := by simp; omega
    have hpd2 : decide (100 < P.length) = false := by simp; omega
    have hp2 : P.length ≤ 100 := by omega
    have HST : Hid (stC (bwtOf ds) 1 ≤ 500) := by
      show _ ≤ _
      rw [bwt_zeros]
      omega
    have HNG : Hid (anyGreat (bwtOf ds) = false) := anyGreat_no fun q hq => by
      have := bwtOf_le ds HOK.out.byte _ (getD_mem' hq)
      omega
    have HFX := Lib.hid (fofx_any w a0 cap0 R (by omega) hst HR.out)
    clear hp hl
    go_wp2_with fail
    refine HFX.out.mono ?_
    rintro e w1 ⟨z, es, hcls, hokE, hb1, hcase⟩
    have HCLS := Lib.hid hcls
    have HOKE := Lib.hid hokE
    have HB1 := Lib.hid hb1
    have HRD := Lib.hid (refdocs_cls w1 a0 cap0 R (by omega) hst (HR.out.kept hb1) HM.out z es hcls)
    clear hcls hokE hb1 HFX h3d h3e hpd hpd2
    rcases hcase with ⟨rfl, bf, rfl, hf⟩ | ⟨hz, rfl⟩
    · have HF1 := Lib.hid hf
      clear hf
      go_wp2_with fail
      refine HRD.out.mono ?_
      rintro e w2 ⟨a7, c7, rfl, hr7, hb2⟩
      have HS2 := Lib.hid hr7
      have HB2 : Hid (Below w.heap.size w w2) := below_next HB1.out hb2 HB1.out.size
      have HF2 := Lib.hid (HF1.out.kept hb2)
      have HP2 := Lib.hid (HP.out.kept HB2.out)
      have HDCE := fdocsL_any w2 bf es HF2.out HOKE.out 1000 (by omega)
      unfold FDocsPost at HDCE
      rw [show min 1000 es.length = es.length by have := HOKE.out.many; omega] at HDCE
      simp only [Int.cast_ofNat_Int] at HDCE
      have HDC := Lib.hid HDCE
      have HCT := Lib.hid (fun W (hW : Below w2.heap.size w2 W) => fcount_all W bf es HOKE.out (HF2.out.kept hW) a1 cap1 P (by omega) HPB.out (HP2.out.kept hW))
      have HFDE := fun W (hW : Below w2.heap.size w2 W) => reffind_all W a7 c7 es (HS2.out.kept hW) HOKE.out.byte HOKE.out.all P HPB.out (by omega)
      unfold RFindPost at HFDE
      have HFD := Lib.hid HFDE
      have HCV : Hid (∀ W, Below w2.heap.size w2 W → (convert 24 9 (.slice a1 P.length cap1)).run Tryz.prog W = .ok (.string (sB P)) W) := fun W hW => conv_str W a1 P cap1 (HP2.out.kept hW)
      have heM := HOKE.out.many
      clear hr7 hb2 HB1 HF1 HRD HF2 HP2 HDCE HFDE
      go_wp2_with fail
      refine HDC.out.mono ?_
      rintro e w3 ⟨a8, c8, rfl, hr8, hb3⟩
      have HB3 : Hid (Below w2.heap.size w2 w3) := hb3
      have hst2 := sametexts_any w3.drew a8 a7 c8 c7 es es (by omega) HOKE.out.byte HOKE.out.byte hr8.drew (HS2.out.kept hb3).drew
      rw [decide_eq_true rfl] at hst2
      have HSTT := Lib.hid hst2
      clear hr8 hb3 hst2 HDC HS2
      generalize locL es P = LE at *
      go_upto_region 9 with fail
      go_cut [75] (fun s75 wx => s75 = .bool false ∧ Below w2.heap.size w2 wx)
      case first =>
        go_wp2_with fail
        refine wp_region_any (by kernel_rfl) ?_
        change wpAny _ _ _ _ _ #[false, false, false, false, false, false, false, false, false, false, false, false, false, false, false, false, false, false, false] _ (World.drew _)
        refine wpAny_take (i := 0) (v := ?_) rfl (by kernel_rfl) (by kernel_rfl) (by kernel_rfl) (fun _ _ _ h => h) (Or.inl ⟨by rfl, ?_⟩) ?_
        rotate_left
        · intro w
          go_simp
          with_reducible rfl
        change wpAny _ _ _ _ _ _ (Act.put _ (some 57) _) _
        go_frame
        refine wpAny_take (i := 1) (v := ?_) rfl (by kernel_rfl) (by kernel_rfl) (by kernel_rfl) (fun _ _ _ h => h) (Or.inl ⟨by rfl, ?_⟩) ?_
        rotate_left
        · intro w
          go_simp
          with_reducible rfl
        change wpAny _ _ _ _ _ _ (Act.put _ (some 58) _) _
        go_frame
        refine wpAny_take (i := 2) (v := ?_) rfl (by kernel_rfl) (by kernel_rfl) (by kernel_rfl) (fun _ _ _ h => h) (Or.inl ⟨by rfl, ?_⟩) ?_
        rotate_left
        · intro w
          go_simp
          with_reducible rfl
        change wpAny _ _ _ _ _ _ (Act.put _ (some 59) _) _
        go_frame
        refine wpAny_take (i := 3) (v := ?_) rfl (by kernel_rfl) (by kernel_rfl) (by kernel_rfl) (fun _ _ _ h => h) (Or.inl ⟨by rfl, ?_⟩) ?_
        rotate_left
        · intro w
          go_simp
          with_reducible rfl
        change wpAny _ _ _ _ _ _ (Act.put _ (some 60) _) _
        go_frame
        refine wpAny_take (i := 4) (v := ?_) rfl (by kernel_rfl) (by kernel_rfl) (by kernel_rfl) (fun _ _ _ h => h) (Or.inl ⟨by rfl, ?_⟩) ?_
        rotate_left
        · intro w
          go_simp
          with_reducible rfl
        change wpAny _ _ _ _ _ _ (Act.put _ (some 61) _) _
        go_frame
        refine wpAny_ready (rs := [5]) (by kernel_rfl) (by simp) ?_
        refine AllReady.cons rfl (fun K hK => ?_) AllReady.nil
        go_simp
        refine HSTT.out.mono ?_
        rintro e w' ⟨rfl, j6, rfl⟩
        have HBT : Hid (Below w2.heap.size w2 (w3.drewN (1 + j6))) := below_drewN HB3.out _
        have hcv1 := HCV.out _ HBT.out
        refine hK _ _ ?_
        clear hK K
        go_frame
        refine wpAny_take (i := 6) (v := ?_) rfl (by kernel_rfl) (by kernel_rfl) (by kernel_rfl) (fun _ _ _ h => h) (Or.inl ⟨by rfl, ?_⟩) ?_
        rotate_left
        · intro w
          go_simp
          with_reducible rfl
        change wpAny _ _ _ _ _ _ (Act.put _ (some 63) _) _
        go_frame
        refine wpAny_take (i := 7) (v := ?_) rfl (by kernel_rfl) (by kernel_rfl) (by kernel_rfl) (fun _ _ _ h => h) (Or.inl ⟨by rfl, ?_⟩) ?_
        rotate_left
        · intro w
          go_simp
          with_reducible rfl
        change wpAny _ _ _ _ _ _ (Act.put _ (some 64) _) _
        go_frame
        refine wpAny_take (i := 8) (v := ?_) rfl (by kernel_rfl) (by kernel_rfl) (by kernel_rfl) (fun _ _ _ h => h) (Or.inl ⟨by rfl, ?_⟩) ?_
        rotate_left
        · intro w
          go_simp
          with_reducible rfl
        change wpAny _ _ _ _ _ _ (Act.put _ (some 65) _) _
        go_frame
        refine wpAny_take (i := 9) (v := ?_) rfl (by kernel_rfl) (by kernel_rfl) (by kernel_rfl) (fun _ _ _ h => h) (Or.inl ⟨by rfl, ?_⟩) ?_
        rotate_left
        · intro w
          go_simp
          with_reducible rfl
        change wpAny _ _ _ _ _ _ (Act.put _ (some 66) _) _
        go_frame
        refine wpAny_take (i := 10) (v := ?_) rfl (by kernel_rfl) (by kernel_rfl) (by kernel_rfl) (fun _ _ _ h => h) (Or.inl ⟨by rfl, ?_⟩) ?_
        rotate_left
        · intro w
          go_simp
          with_reducible rfl
        change wpAny _ _ _ _ _ _ (Act.put _ (some 67) _) _
        go_frame
        refine wpAny_take (i := 12) (v := ?_) rfl (by kernel_rfl) (by kernel_rfl) (by kernel_rfl) (fun _ _ _ h => h) (Or.inl ⟨by rfl, ?_⟩) ?_
        rotate_left
        · intro w
          go_simp
          with_reducible rfl
        change wpAny _ _ _ _ _ _ (Act.put _ (some 69) _) _
        go_frame
        refine wpAny_take (i := 13) (v := ?_) rfl (by kernel_rfl) (by kernel_rfl) (by kernel_rfl) (fun _ _ _ h => h) (Or.inl ⟨by rfl, ?_⟩) ?_
        rotate_left
        · intro w
          go_simp
          with_reducible rfl
        change wpAny _ _ _ _ _ _ (Act.put _ (some 70) _) _
        go_frame
        refine wpAny_ready (rs := [11, 14]) (by kernel_rfl) (by simp) ?_
        refine (AllReady.cons rfl (fun K hK => ?_) (AllReady.cons rfl (fun K hK => ?_) AllReady.nil))
        · go_simp
          refine (HCT.out _ HBT.out).mono ?_
          rintro e wc1 ⟨rfl, hbc1⟩
          have HBC : Hid (Below w2.heap.size w2 wc1) := below_next HBT.out hbc1 HBT.out.size
          clear hbc1
          have hcv2 := HCV.out _ HBC.out
          refine hK _ _ ?_
          clear hK K
          go_frame
          refine wpAny_ready (rs := [14]) (by kernel_rfl) (by simp) ?_
          refine (AllReady.cons rfl (fun K hK => ?_) AllReady.nil)
          go_simp
          refine hK _ _ ?_
          clear hK K
          go_frame
          refine wpAny_ready (rs := [15]) (by kernel_rfl) (by simp) ?_
          refine (AllReady.cons rfl (fun K hK => ?_) AllReady.nil)
          go_simp
          refine (HFD.out _ HBC.out).mono ?_
          rintro e wf1 ⟨af, cf, rfl, hrf, hbf, -⟩
          have HBF : Hid (Below w2.heap.size w2 wf1) := below_next HBC.out hbf HBC.out.size
          clear hbf hrf
          refine hK _ _ ?_
          clear hK K
          go_frame
          refine wpAny_take (i := 16) (v := ?_) rfl (by kernel_rfl) (by kernel_rfl) (by kernel_rfl) (fun _ _ _ h => h) (Or.inl ⟨by rfl, ?_⟩) ?_
          rotate_left
          · intro w
            go_simp
            with_reducible rfl
          change wpAny _ _ _ _ _ _ (Act.put _ (some 73) _) _
          go_frame
          refine wpAny_take (i := 17) (v := ?_) rfl (by kernel_rfl) (by kernel_rfl) (by kernel_rfl) (fun _ _ _ h => h) (Or.inl ⟨by rfl, ?_⟩) ?_
          rotate_left
          · intro w
            go_simp
            with_reducible rfl
          change wpAny _ _ _ _ _ _ (Act.put _ (some 74) _) _
          go_frame
          refine wpAny_take (i := 18) (v := ?_) rfl (by kernel_rfl) (by kernel_rfl) (by kernel_rfl) (fun _ _ _ h => h) (Or.inl ⟨by rfl, ?_⟩) ?_
          rotate_left
          · intro w
            go_simp
            with_reducible rfl
          change wpAny _ _ _ _ _ _ (Act.put _ (some 75) _) _
          go_frame
          refine wpAny_done (by kernel_rfl) ?_ _
          go_wp2_with fail
          go_meet
          exact ⟨rfl, HBF.out⟩
        · go_simp
          refine hK _ _ ?_
          clear hK K
          go_frame
          refine wpAny_ready (rs := [11]) (by kernel_rfl) (by simp) ?_
          refine (AllReady.cons rfl (fun K hK => ?_) AllReady.nil)
          go_simp
          refine (HCT.out _ HBT.out).mono ?_
          rintro e wc1 ⟨rfl, hbc1⟩
          have HBC : Hid (Below w2.heap.size w2 wc1) := below_next HBT.out hbc1 HBT.out.size
          clear hbc1
          refine hK _ _ ?_
          clear hK K
          go_frame
          refine wpAny_ready (rs := [15]) (by kernel_rfl) (by simp) ?_
          refine (AllReady.cons rfl (fun K hK => ?_) AllReady.nil)
          go_simp
          refine (HFD.out _ HBC.out).mono ?_
          rintro e wf1 ⟨af, cf, rfl, hrf, hbf, -⟩
          have HBF : Hid (Below w2.heap.size w2 wf1) := below_next HBC.out hbf HBC.out.size
          clear hbf hrf
          refine hK _ _ ?_
          clear hK K
          go_frame
          refine wpAny_take (i := 16) (v := ?_) rfl (by kernel_rfl) (by kernel_rfl) (by kernel_rfl) (fun _ _ _ h => h) (Or.inl ⟨by rfl, ?_⟩) ?_
          rotate_left
          · intro w
            go_simp
            with_reducible rfl
          change wpAny _ _ _ _ _ _ (Act.put _ (some 73) _) _
          go_frame
          refine wpAny_take (i := 17) (v := ?_) rfl (by kernel_rfl) (by kernel_rfl) (by kernel_rfl) (fun _ _ _ h => h) (Or.inl ⟨by rfl, ?_⟩) ?_
          rotate_left
          · intro w
            go_simp
            with_reducible rfl
          change wpAny _ _ _ _ _ _ (Act.put _ (some 74) _) _
          go_frame
          refine wpAny_take (i := 18) (v := ?_) rfl (by kernel_rfl) (by kernel_rfl) (by kernel_rfl) (fun _ _ _ h => h) (Or.inl ⟨by rfl, ?_⟩) ?_
          rotate_left
          · intro w
            go_simp
            with_reducible rfl
          change wpAny _ _ _ _ _ _ (Act.put _ (some 75) _) _
          go_frame
          refine wpAny_done (by kernel_rfl) ?_ _
          go_wp2_with fail
          go_meet
          exact ⟨rfl, HBF.out⟩
      case rest =>
        obtain ⟨rfl, hb4⟩ := hcut
        have HB4 : Hid (Below w.heap.size w wc) := below_next HB2.out hb4 HB2.out.size
        clear hb4 HSTT HCT HFD HCV HB3 HB2 HCLS
        generalize hW4 : wc = w4 at *
        clear hW4
        have HSTR := Lib.hid (strings_any w4 a cap A C ds (by omega) (HIN.out.docs.kept HB4.out))
        go_wp2_with fail
        refine HSTR.out.mono ?_
        rintro e wx ⟨ax, cx, rfl, hrs, hbx⟩
        have HBX : Hid (Below w.heap.size w wx) := below_next HB4.out hbx HB4.out.size
        have HSX := Lib.hid hrs
        have HRB := Lib.hid (refbwt_any wx ax cx ds hrs HFEW.out.byte (by omega))
        clear hrs hbx HSTR HB4
        go_wp2_with fail
        refine HRB.out.mono ?_
        rintro e wy ⟨ay, cy, rfl, hoy, hby⟩
        have HBY : Hid (Below w.heap.size w wy) := below_next HBX.out hby HBX.out.size
        have HSY := Lib.hid (HSX.out.kept hby)
        have HFO := Lib.hid (fofx_any wy ay cy (bwtOf ds) (by rw [bwtOf_len]; omega) HST.out (symVs_row hoy))
        clear hoy hby HRB HSX HBX
        go_wp2_with fail
        refine HFO.out.mono ?_
        rintro e w5 ⟨z5, es5, hcl5, hok5, hb5, hcase5⟩
        obtain ⟨rfl, rfl⟩ := hcl5.one (.inl ⟨rfl, HNG.out, reads_bwt ds HOK.out, rfl⟩)
        rcases hcase5 with ⟨-, by5, rfl, hf5⟩ | ⟨hz5, -⟩
        · have HF5 := Lib.hid hf5
          have HB5 : Hid (Below w.heap.size w w5) := below_next HBY.out hb5 HBY.out.size
          have HS5 := Lib.hid (HSY.out.kept hb5)
          have HP5 := Lib.hid (HP.out.kept HB5.out)
          have HHTE := fun W (hW : Below w5.heap.size w5 W) => fhits_any W by5 es5 (HF5.out.kept hW) HOK.out P HPB.out (by omega) 100000 (by omega)
          have hlen : (locL es5 P).length ≤ 60000 := by
            unfold locL
            split
            · exact Nat.zero_le _
            · rw [hitL_len es5 P _ _ (bkR_is es5 HOK.out.byte P)]
              have h1 := (bkR_is es5 HOK.out.byte P).len
              have h2 := rows_len es5
              have h3 := HOK.out.all
              omega
          unfold FHitsPost at HHTE
          rw [List.take_of_length_le (show (locL es5 P).length ≤ 100000 by omega)] at HHTE
          simp only [Int.cast_ofNat_Int] at HHTE
          have HHT := Lib.hid HHTE
          have HFFE := fun W (hW : Below w5.heap.size w5 W) => reffind_all W ax cx es5 (HS5.out.kept hW) HFEW.out.byte (by omega) P HPB.out (by omega)
          unfold RFindPost at HFFE
          have HFF := Lib.hid HFFE
          have HCV5 : Hid (∀ W, Below w5.heap.size w5 W → (convert 24 9 (.slice a1 P.length cap1)).run Tryz.prog W = .ok (.string (sB P)) W) := fun W hW => conv_str W a1 P cap1 (HP5.out.kept hW)
          have HBD : Hid (Below w5.heap.size w5 w5.drew) := (Below.refl _ _).drew
          have hcv0 := HCV5.out _ HBD.out
          clear hf5 hb5 HSY HBY HFO HHTE HFFE hok5 hcl5 HF5 HS5 HP5 HFEW HIN HST HNG
          generalize locL es5 P = L at *
          go_upto_region 13 with fail
          go_wp2_with fail
          refine wp_region_any (by kernel_rfl) ?_
          change wpAny _ _ _ _ _ #[false, false, false, false, false, false, false, false, false, false, false, false, false, false, false, false, false, false, false, false, false] _ (World.drew _)
          refine wpAny_take (i := 0) (v := ?_) rfl (by kernel_rfl) (by kernel_rfl) (by kernel_rfl) (fun _ _ _ h => h) (Or.inl ⟨by rfl, ?_⟩) ?_
          rotate_left
          · intro w
            go_simp
            with_reducible rfl
          change wpAny _ _ _ _ _ _ (Act.put _ (some 84) _) _
          go_frame
          refine wpAny_take (i := 1) (v := ?_) rfl (by kernel_rfl) (by kernel_rfl) (by kernel_rfl) (fun _ _ _ h => h) (Or.inl ⟨by rfl, ?_⟩) ?_
          rotate_left
          · intro w
            go_simp
            with_reducible rfl
          change wpAny _ _ _ _ _ _ (Act.put _ (some 85) _) _
          go_frame
          refine wpAny_take (i := 2) (v := ?_) rfl (by kernel_rfl) (by kernel_rfl) (by kernel_rfl) (fun _ _ _ h => h) (Or.inl ⟨by rfl, ?_⟩) ?_
          rotate_left
          · intro w
            go_simp
            with_reducible rfl
          change wpAny _ _ _ _ _ _ (Act.put _ (some 86) _) _
          go_frame
          refine wpAny_take (i := 3) (v := ?_) rfl (by kernel_rfl) (by kernel_rfl) (by kernel_rfl) (fun _ _ _ h => h) (Or.inl ⟨by rfl, ?_⟩) ?_
          rotate_left
          · intro w
            go_simp
            with_reducible rfl
          change wpAny _ _ _ _ _ _ (Act.put _ (some 87) _) _
          go_frame
          refine wpAny_take (i := 4) (v := ?_) rfl (by kernel_rfl) (by kernel_rfl) (by kernel_rfl) (fun _ _ _ h => h) (Or.inl ⟨by rfl, ?_⟩) ?_
          rotate_left
          · intro w
            go_simp
            with_reducible rfl
          change wpAny _ _ _ _ _ _ (Act.put _ (some 88) _) _
          go_frame
          refine wpAny_take (i := 5) (v := ?_) rfl (by kernel_rfl) (by kernel_rfl) (by kernel_rfl) (fun _ _ _ h => h) (Or.inl ⟨by rfl, ?_⟩) ?_
          rotate_left
          · intro w
            go_simp
            with_reducible rfl
          change wpAny _ _ _ _ _ _ (Act.put _ (some 89) _) _
          go_frame
          refine wpAny_take (i := 6) (v := ?_) rfl (by kernel_rfl) (by kernel_rfl) (by kernel_rfl) (fun _ _ _ h => h) (Or.inl ⟨by rfl, ?_⟩) ?_
          rotate_left
          · intro w
            go_simp
            with_reducible rfl
          change wpAny _ _ _ _ _ _ (Act.put _ (some 90) _) _
          go_frame
          refine wpAny_take (i := 7) (v := ?_) rfl (by kernel_rfl) (by kernel_rfl) (by kernel_rfl) (fun _ _ _ h => h) (Or.inl ⟨by rfl, ?_⟩) ?_
          rotate_left
          · intro w
            go_simp
            with_reducible rfl
          change wpAny _ _ _ _ _ _ (Act.put _ (some 91) _) _
          go_frame
          refine wpAny_take (i := 8) (v := ?_) rfl (by kernel_rfl) (by kernel_rfl) (by kernel_rfl) (fun _ _ _ h => h) (Or.inl ⟨by rfl, ?_⟩) ?_
          rotate_left
          · intro w
            go_simp
            with_reducible rfl
          change wpAny _ _ _ _ _ _ (Act.put _ (some 92) _) _
          go_frame
          refine wpAny_take (i := 11) (v := ?_) rfl (by kernel_rfl) (by kernel_rfl) (by kernel_rfl) (fun _ _ _ h => h) (Or.inl ⟨by rfl, ?_⟩) ?_
          rotate_left
          · intro w
            go_simp
            with_reducible rfl
          change wpAny _ _ _ _ _ _ (Act.put _ (some 95) _) _
          go_frame
          refine wpAny_take (i := 12) (v := ?_) rfl (by kernel_rfl) (by kernel_rfl) (by kernel_rfl) (fun _ _ _ h => h) (Or.inl ⟨by rfl, ?_⟩) ?_
          rotate_left
          · intro w
            go_simp
            with_reducible rfl
          change wpAny _ _ _ _ _ _ (Act.put _ (some 96) _) _
          go_frame
          refine wpAny_ready (rs := [9, 13]) (by kernel_rfl) (by simp) ?_
          refine (AllReady.cons rfl (fun K hK => ?_) (AllReady.cons rfl (fun K hK => ?_) AllReady.nil))
          · go_simp
            refine hK _ _ ?_
            clear hK K
            go_frame
            refine wpAny_ready (rs := [10, 13]) (by kernel_rfl) (by simp) ?_
            refine (AllReady.cons rfl (fun K hK => ?_) (AllReady.cons rfl (fun K hK => ?_) AllReady.nil))
            · go_simp
              refine (HHT.out _ HBD.out).mono ?_
              rintro e wh1 ⟨ah, ch, rfl, hrh, hbh⟩
              have HBH : Hid (Below w5.heap.size w5 wh1) := below_next HBD.out hbh HBD.out.size
              have HRH := Lib.hid hrh
              clear hbh hrh
              have hcvH := HCV5.out _ HBH.out
              refine hK _ _ ?_
              clear hK K
              go_frame
              refine wpAny_ready (rs := [13]) (by kernel_rfl) (by simp) ?_
              refine (AllReady.cons rfl (fun K hK => ?_) AllReady.nil)
              go_simp
              refine hK _ _ ?_
              clear hK K
              go_frame
              refine wpAny_ready (rs := [14]) (by kernel_rfl) (by simp) ?_
              refine (AllReady.cons rfl (fun K hK => ?_) AllReady.nil)
              go_simp
              refine (HFF.out _ HBH.out).mono ?_
              rintro e wf1 ⟨af, cf, rfl, hrf, hbf, -⟩
              have HBF : Hid (Below w5.heap.size w5 wf1) := below_next HBH.out hbf HBH.out.size
              have HRF := Lib.hid hrf
              have HRH2 := Lib.hid (HRH.out.kept hbf)
              clear hbf hrf
              have hcvF := HCV5.out _ HBF.out
              refine hK _ _ ?_
              clear hK K
              go_frame
              refine wpAny_ready (rs := [15]) (by kernel_rfl) (by simp) ?_
              refine (AllReady.cons rfl (fun K hK => ?_) AllReady.nil)
              go_simp
              refine (samehits_any _ ah af ch cf L (by omega) HRH2.out HRF.out).mono ?_
              rintro e w' ⟨rfl, j6, rfl⟩
              have HBS := Lib.hid (below_drewN HBF.out j6)
              refine hK _ _ ?_
              clear hK K
              go_frame
              refine wpAny_take (i := 16) (v := ?_) rfl (by kernel_rfl) (by kernel_rfl) (by kernel_rfl) (fun _ _ _ h => h) (Or.inl ⟨by rfl, ?_⟩) ?_
              rotate_left
              · intro w
                go_simp
                with_reducible rfl
              change wpAny _ _ _ _ _ _ (Act.put _ (some 100) _) _
              go_frame
              refine wpAny_take (i := 17) (v := ?_) rfl (by kernel_rfl) (by kernel_rfl) (by kernel_rfl) (fun _ _ _ h => h) (Or.inl ⟨by rfl, ?_⟩) ?_
              rotate_left
              · intro w
                go_simp
                with_reducible rfl
              change wpAny _ _ _ _ _ _ (Act.put _ (some 101) _) _
              go_frame
              refine wpAny_ready (rs := [18]) (by kernel_rfl) (by simp) ?_
              refine (AllReady.cons rfl (fun K hK => ?_) AllReady.nil)
              go_simp
              refine (awake14_any _).mono ?_
              rintro e w9 ⟨rfl, hb9⟩
              have HB9 : Hid (Below w5.heap.size w5 w9) := below_next HBS.out hb9 HBS.out.size
              clear hb9
              refine hK _ _ ?_
              clear hK K
              go_frame
              refine wpAny_take (i := 19) (v := ?_) rfl (by kernel_rfl) (by kernel_rfl) (by kernel_rfl) (fun _ _ _ h => h) (Or.inl ⟨by rfl, ?_⟩) ?_
              rotate_left
              · intro w
                go_simp
                with_reducible rfl
              change wpAny _ _ _ _ _ _ (Act.put _ (some 103) _) _
              go_frame
              refine wpAny_take (i := 20) (v := ?_) rfl (by kernel_rfl) (by kernel_rfl) (by kernel_rfl) (fun _ _ _ h => h) (Or.inl ⟨by rfl, ?_⟩) ?_
              rotate_left
              · intro w
                go_simp
                with_reducible rfl
              change wpAny _ _ _ _ _ _ (Act.put _ (some 6) _) _
              go_frame
              refine wpAny_done (by kernel_rfl) ?_ _
              go_wp2
              go_ret
              exact ⟨rfl, below_next HB5.out HB9.out HB5.out.size⟩
            · go_simp
              refine hK _ _ ?_
              clear hK K
              go_frame
              refine wpAny_ready (rs := [10]) (by kernel_rfl) (by simp) ?_
              refine (AllReady.cons rfl (fun K hK => ?_) AllReady.nil)
              go_simp
              refine (HHT.out _ HBD.out).mono ?_
              rintro e wh1 ⟨ah, ch, rfl, hrh, hbh⟩
              have HBH : Hid (Below w5.heap.size w5 wh1) := below_next HBD.out hbh HBD.out.size
              have HRH := Lib.hid hrh
              clear hbh hrh
              have hcvH := HCV5.out _ HBH.out
              refine hK _ _ ?_
              clear hK K
              go_frame
              refine wpAny_ready (rs := [14]) (by kernel_rfl) (by simp) ?_
              refine (AllReady.cons rfl (fun K hK => ?_) AllReady.nil)
              go_simp
              refine (HFF.out _ HBH.out).mono ?_
              rintro e wf1 ⟨af, cf, rfl, hrf, hbf, -⟩
              have HBF : Hid (Below w5.heap.size w5 wf1) := below_next HBH.out hbf HBH.out.size
              have HRF := Lib.hid hrf
              have HRH2 := Lib.hid (HRH.out.kept hbf)
              clear hbf hrf
              have hcvF := HCV5.out _ HBF.out
              refine hK _ _ ?_
              clear hK K
              go_frame
              refine wpAny_ready (rs := [15]) (by kernel_rfl) (by simp) ?_
              refine (AllReady.cons rfl (fun K hK => ?_) AllReady.nil)
              go_simp
              refine (samehits_any _ ah af ch cf L (by omega) HRH2.out HRF.out).mono ?_
              rintro e w' ⟨rfl, j6, rfl⟩
              have HBS := Lib.hid (below_drewN HBF.out j6)
              refine hK _ _ ?_
              clear hK K
              go_frame
              refine wpAny_take (i := 16) (v := ?_) rfl (by kernel_rfl) (by kernel_rfl) (by kernel_rfl) (fun _ _ _ h => h) (Or.inl ⟨by rfl, ?_⟩) ?_
              rotate_left
              · intro w
                go_simp
                with_reducible rfl
              change wpAny _ _ _ _ _ _ (Act.put _ (some 100) _) _
              go_frame
              refine wpAny_take (i := 17) (v := ?_) rfl (by kernel_rfl) (by kernel_rfl) (by kernel_rfl) (fun _ _ _ h => h) (Or.inl ⟨by rfl, ?_⟩) ?_
              rotate_left
              · intro w
                go_simp
                with_reducible rfl
              change wpAny _ _ _ _ _ _ (Act.put _ (some 101) _) _
              go_frame
              refine wpAny_ready (rs := [18]) (by kernel_rfl) (by simp) ?_
              refine (AllReady.cons rfl (fun K hK => ?_) AllReady.nil)
              go_simp
              refine (awake14_any _).mono ?_
              rintro e w9 ⟨rfl, hb9⟩
              have HB9 : Hid (Below w5.heap.size w5 w9) := below_next HBS.out hb9 HBS.out.size
              clear hb9
              refine hK _ _ ?_
              clear hK K
              go_frame
              refine wpAny_take (i := 19) (v := ?_) rfl (by kernel_rfl) (by kernel_rfl) (by kernel_rfl) (fun _ _ _ h => h) (Or.inl ⟨by rfl, ?_⟩) ?_
              rotate_left
              · intro w
                go_simp
                with_reducible rfl
              change wpAny _ _ _ _ _ _ (Act.put _ (some 103) _) _
              go_frame
              refine wpAny_take (i := 20) (v := ?_) rfl (by kernel_rfl) (by kernel_rfl) (by kernel_rfl) (fun _ _ _ h => h) (Or.inl ⟨by rfl, ?_⟩) ?_
              rotate_left
              · intro w
                go_simp
                with_reducible rfl
              change wpAny _ _ _ _ _ _ (Act.put _ (some 6) _) _
              go_frame
              refine wpAny_done (by kernel_rfl) ?_ _
              go_wp2
              go_ret
              exact ⟨rfl, below_next HB5.out HB9.out HB5.out.size⟩
          · go_simp
            refine hK _ _ ?_
            clear hK K
            go_frame
            refine wpAny_ready (rs := [9]) (by kernel_rfl) (by simp) ?_
            refine (AllReady.cons rfl (fun K hK => ?_) AllReady.nil)
            go_simp
            refine hK _ _ ?_
            clear hK K
            go_frame
            refine wpAny_ready (rs := [10]) (by kernel_rfl) (by simp) ?_
            refine (AllReady.cons rfl (fun K hK => ?_) AllReady.nil)
            go_simp
            refine (HHT.out _ HBD.out).mono ?_
            rintro e wh1 ⟨ah, ch, rfl, hrh, hbh⟩
            have HBH : Hid (Below w5.heap.size w5 wh1) := below_next HBD.out hbh HBD.out.size
            have HRH := Lib.hid hrh
            clear hbh hrh
            have hcvH := HCV5.out _ HBH.out
            refine hK _ _ ?_
            clear hK K
            go_frame
            refine wpAny_ready (rs := [14]) (by kernel_rfl) (by simp) ?_
            refine (AllReady.cons rfl (fun K hK => ?_) AllReady.nil)
            go_simp
            refine (HFF.out _ HBH.out).mono ?_
            rintro e wf1 ⟨af, cf, rfl, hrf, hbf, -⟩
            have HBF : Hid (Below w5.heap.size w5 wf1) := below_next HBH.out hbf HBH.out.size
            have HRF := Lib.hid hrf
            have HRH2 := Lib.hid (HRH.out.kept hbf)
            clear hbf hrf
            have hcvF := HCV5.out _ HBF.out
            refine hK _ _ ?_
            clear hK K
            go_frame
            refine wpAny_ready (rs := [15]) (by kernel_rfl) (by simp) ?_
            refine (AllReady.cons rfl (fun K hK => ?_) AllReady.nil)
            go_simp
            refine (samehits_any _ ah af ch cf L (by omega) HRH2.out HRF.out).mono ?_
            rintro e w' ⟨rfl, j6, rfl⟩
            have HBS := Lib.hid (below_drewN HBF.out j6)
            refine hK _ _ ?_
            clear hK K
            go_frame
            refine wpAny_take (i := 16) (v := ?_) rfl (by kernel_rfl) (by kernel_rfl) (by kernel_rfl) (fun _ _ _ h => h) (Or.inl ⟨by rfl, ?_⟩) ?_
            rotate_left
            · intro w
              go_simp
              with_reducible rfl
            change wpAny _ _ _ _ _ _ (Act.put _ (some 100) _) _
            go_frame
            refine wpAny_take (i := 17) (v := ?_) rfl (by kernel_rfl) (by kernel_rfl) (by kernel_rfl) (fun _ _ _ h => h) (Or.inl ⟨by rfl, ?_⟩) ?_
            rotate_left
            · intro w
              go_simp
              with_reducible rfl
            change wpAny _ _ _ _ _ _ (Act.put _ (some 101) _) _
            go_frame
            refine wpAny_ready (rs := [18]) (by kernel_rfl) (by simp) ?_
            refine (AllReady.cons rfl (fun K hK => ?_) AllReady.nil)
            go_simp
            refine (awake14_any _).mono ?_
            rintro e w9 ⟨rfl, hb9⟩
            have HB9 : Hid (Below w5.heap.size w5 w9) := below_next HBS.out hb9 HBS.out.size
            clear hb9
            refine hK _ _ ?_
            clear hK K
            go_frame
            refine wpAny_take (i := 19) (v := ?_) rfl (by kernel_rfl) (by kernel_rfl) (by kernel_rfl) (fun _ _ _ h => h) (Or.inl ⟨by rfl, ?_⟩) ?_
            rotate_left
            · intro w
              go_simp
              with_reducible rfl
            change wpAny _ _ _ _ _ _ (Act.put _ (some 103) _) _
            go_frame
            refine wpAny_take (i := 20) (v := ?_) rfl (by kernel_rfl) (by kernel_rfl) (by kernel_rfl) (fun _ _ _ h => h) (Or.inl ⟨by rfl, ?_⟩) ?_
            rotate_left
            · intro w
              go_simp
              with_reducible rfl
            change wpAny _ _ _ _ _ _ (Act.put _ (some 6) _) _
            go_frame
            refine wpAny_done (by kernel_rfl) ?_ _
            go_wp2
            go_ret
            exact ⟨rfl, below_next HB5.out HB9.out HB5.out.size⟩
        · exact (hz5 rfl).elim
    · have hzz : (z == 0) = false := by simp [hz]
      go_wp2_with fail
      refine HRD.out.mono ?_
      rintro e w4 ⟨a7, c7, rfl, hr7, hb2⟩
      have HB4 : Hid (Below w.heap.size w w4) := below_next HB1.out hb2 HB1.out.size
      have hzn : (z != z) = false := by simp
      clear hr7 hb2 HB1 HRD HCLS
      have HSTR := Lib.hid (strings_any w4 a cap A C ds (by omega) (HIN.out.docs.kept HB4.out))
      go_wp2_with fail
      refine HSTR.out.mono ?_
      rintro e wx ⟨ax, cx, rfl, hrs, hbx⟩
      have HBX : Hid (Below w.heap.size w wx) := below_next HB4.out hbx HB4.out.size
      have HSX := Lib.hid hrs
      have HRB := Lib.hid (refbwt_any wx ax cx ds hrs HFEW.out.byte (by omega))
      clear hrs hbx HSTR HB4
      go_wp2_with fail
      refine HRB.out.mono ?_
      rintro e wy ⟨ay, cy, rfl, hoy, hby⟩
      have HBY : Hid (Below w.heap.size w wy) := below_next HBX.out hby HBX.out.size
      have HSY := Lib.hid (HSX.out.kept hby)
      have HFO := Lib.hid (fofx_any wy ay cy (bwtOf ds) (by rw [bwtOf_len]; omega) HST.out (symVs_row hoy))
      clear hoy hby HRB HSX HBX
      go_wp2_with fail
      refine HFO.out.mono ?_
      rintro e w5 ⟨z5, es5, hcl5, hok5, hb5, hcase5⟩
      obtain ⟨rfl, rfl⟩ := hcl5.one (.inl ⟨rfl, HNG.out, reads_bwt ds HOK.out, rfl⟩)
      rcases hcase5 with ⟨-, by5, rfl, hf5⟩ | ⟨hz5, -⟩
      · have HF5 := Lib.hid hf5
        have HB5 : Hid (Below w.heap.size w w5) := below_next HBY.out hb5 HBY.out.size
        have HS5 := Lib.hid (HSY.out.kept hb5)
        have HP5 := Lib.hid (HP.out.kept HB5.out)
        have HHTE := fun W (hW : Below w5.heap.size w5 W) => fhits_any W by5 es5 (HF5.out.kept hW) HOK.out P HPB.out (by omega) 100000 (by omega)
        have hlen : (locL es5 P).length ≤ 60000 := by
          unfold locL
          split
          · exact Nat.zero_le _
          · rw [hitL_len es5 P _ _ (bkR_is es5 HOK.out.byte P)]
            have h1 := (bkR_is es5 HOK.out.byte P).len
            have h2 := rows_len es5
            have h3 := HOK.out.all
            omega
        unfold FHitsPost at HHTE
        rw [List.take_of_length_le (show (locL es5 P).length ≤ 100000 by omega)] at HHTE
        simp only [Int.cast_ofNat_Int] at HHTE
        have HHT := Lib.hid HHTE
        have HFFE := fun W (hW : Below w5.heap.size w5 W) => reffind_all W ax cx es5 (HS5.out.kept hW) HFEW.out.byte (by omega) P HPB.out (by omega)
        unfold RFindPost at HFFE
        have HFF := Lib.hid HFFE
        have HCV5 : Hid (∀ W, Below w5.heap.size w5 W → (convert 24 9 (.slice a1 P.length cap1)).run Tryz.prog W = .ok (.string (sB P)) W) := fun W hW => conv_str W a1 P cap1 (HP5.out.kept hW)
        have HBD : Hid (Below w5.heap.size w5 w5.drew) := (Below.refl _ _).drew
        have hcv0 := HCV5.out _ HBD.out
        clear hf5 hb5 HSY HBY HFO HHTE HFFE hok5 hcl5 HF5 HS5 HP5 HFEW HIN HST HNG
        generalize locL es5 P = L at *
        go_upto_region 13 with fail
        go_wp2_with fail
        refine wp_region_any (by kernel_rfl) ?_
        change wpAny _ _ _ _ _ #[false, false, false, false, false, false, false, false, false, false, false, false, false, false, false, false, false, false, false, false, false] _ (World.drew _)
        refine wpAny_take (i := 0) (v := ?_) rfl (by kernel_rfl) (by kernel_rfl) (by kernel_rfl) (fun _ _ _ h => h) (Or.inl ⟨by rfl, ?_⟩) ?_
        rotate_left
        · intro w
          go_simp
          with_reducible rfl
        change wpAny _ _ _ _ _ _ (Act.put _ (some 84) _) _
        go_frame
        refine wpAny_take (i := 1) (v := ?_) rfl (by kernel_rfl) (by kernel_rfl) (by kernel_rfl) (fun _ _ _ h => h) (Or.inl ⟨by rfl, ?_⟩) ?_
        rotate_left
        · intro w
          go_simp
          with_reducible rfl
        change wpAny _ _ _ _ _ _ (Act.put _ (some 85) _) _
        go_frame
        refine wpAny_take (i := 2) (v := ?_) rfl (by kernel_rfl) (by kernel_rfl) (by kernel_rfl) (fun _ _ _ h => h) (Or.inl ⟨by rfl, ?_⟩) ?_
        rotate_left
        · intro w
          go_simp
          with_reducible rfl
        change wpAny _ _ _ _ _ _ (Act.put _ (some 86) _) _
        go_frame
        refine wpAny_take (i := 3) (v := ?_) rfl (by kernel_rfl) (by kernel_rfl) (by kernel_rfl) (fun _ _ _ h => h) (Or.inl ⟨by rfl, ?_⟩) ?_
        rotate_left
        · intro w
          go_simp
          with_reducible rfl
        change wpAny _ _ _ _ _ _ (Act.put _ (some 87) _) _
        go_frame
        refine wpAny_take (i := 4) (v := ?_) rfl (by kernel_rfl) (by kernel_rfl) (by kernel_rfl) (fun _ _ _ h => h) (Or.inl ⟨by rfl, ?_⟩) ?_
        rotate_left
        · intro w
          go_simp
          with_reducible rfl
        change wpAny _ _ _ _ _ _ (Act.put _ (some 88) _) _
        go_frame
        refine wpAny_take (i := 5) (v := ?_) rfl (by kernel_rfl) (by kernel_rfl) (by kernel_rfl) (fun _ _ _ h => h) (Or.inl ⟨by rfl, ?_⟩) ?_
        rotate_left
        · intro w
          go_simp
          with_reducible rfl
        change wpAny _ _ _ _ _ _ (Act.put _ (some 89) _) _
        go_frame
        refine wpAny_take (i := 6) (v := ?_) rfl (by kernel_rfl) (by kernel_rfl) (by kernel_rfl) (fun _ _ _ h => h) (Or.inl ⟨by rfl, ?_⟩) ?_
        rotate_left
        · intro w
          go_simp
          with_reducible rfl
        change wpAny _ _ _ _ _ _ (Act.put _ (some 90) _) _
        go_frame
        refine wpAny_take (i := 7) (v := ?_) rfl (by kernel_rfl) (by kernel_rfl) (by kernel_rfl) (fun _ _ _ h => h) (Or.inl ⟨by rfl, ?_⟩) ?_
        rotate_left
        · intro w
          go_simp
          with_reducible rfl
        change wpAny _ _ _ _ _ _ (Act.put _ (some 91) _) _
        go_frame
        refine wpAny_take (i := 8) (v := ?_) rfl (by kernel_rfl) (by kernel_rfl) (by kernel_rfl) (fun _ _ _ h => h) (Or.inl ⟨by rfl, ?_⟩) ?_
        rotate_left
        · intro w
          go_simp
          with_reducible rfl
        change wpAny _ _ _ _ _ _ (Act.put _ (some 92) _) _
        go_frame
        refine wpAny_take (i := 11) (v := ?_) rfl (by kernel_rfl) (by kernel_rfl) (by kernel_rfl) (fun _ _ _ h => h) (Or.inl ⟨by rfl, ?_⟩) ?_
        rotate_left
        · intro w
          go_simp
          with_reducible rfl
        change wpAny _ _ _ _ _ _ (Act.put _ (some 95) _) _
        go_frame
        refine wpAny_take (i := 12) (v := ?_) rfl (by kernel_rfl) (by kernel_rfl) (by kernel_rfl) (fun _ _ _ h => h) (Or.inl ⟨by rfl, ?_⟩) ?_
        rotate_left
        · intro w
          go_simp
          with_reducible rfl
        change wpAny _ _ _ _ _ _ (Act.put _ (some 96) _) _
        go_frame
        refine wpAny_ready (rs := [9, 13]) (by kernel_rfl) (by simp) ?_
        refine (AllReady.cons rfl (fun K hK => ?_) (AllReady.cons rfl (fun K hK => ?_) AllReady.nil))
        · go_simp
          refine hK _ _ ?_
          clear hK K
          go_frame
          refine wpAny_ready (rs := [10, 13]) (by kernel_rfl) (by simp) ?_
          refine (AllReady.cons rfl (fun K hK => ?_) (AllReady.cons rfl (fun K hK => ?_) AllReady.nil))
          · go_simp
            refine (HHT.out _ HBD.out).mono ?_
            rintro e wh1 ⟨ah, ch, rfl, hrh, hbh⟩
            have HBH : Hid (Below w5.heap.size w5 wh1) := below_next HBD.out hbh HBD.out.size
            have HRH := Lib.hid hrh
            clear hbh hrh
            have hcvH := HCV5.out _ HBH.out
            refine hK _ _ ?_
            clear hK K
            go_frame
            refine wpAny_ready (rs := [13]) (by kernel_rfl) (by simp) ?_
            refine (AllReady.cons rfl (fun K hK => ?_) AllReady.nil)
            go_simp
            refine hK _ _ ?_
            clear hK K
            go_frame
            refine wpAny_ready (rs := [14]) (by kernel_rfl) (by simp) ?_
            refine (AllReady.cons rfl (fun K hK => ?_) AllReady.nil)
            go_simp
            refine (HFF.out _ HBH.out).mono ?_
            rintro e wf1 ⟨af, cf, rfl, hrf, hbf, -⟩
            have HBF : Hid (Below w5.heap.size w5 wf1) := below_next HBH.out hbf HBH.out.size
            have HRF := Lib.hid hrf
            have HRH2 := Lib.hid (HRH.out.kept hbf)
            clear hbf hrf
            have hcvF := HCV5.out _ HBF.out
            refine hK _ _ ?_
            clear hK K
            go_frame
            refine wpAny_ready (rs := [15]) (by kernel_rfl) (by simp) ?_
            refine (AllReady.cons rfl (fun K hK => ?_) AllReady.nil)
            go_simp
            refine (samehits_any _ ah af ch cf L (by omega) HRH2.out HRF.out).mono ?_
            rintro e w' ⟨rfl, j6, rfl⟩
            have HBS := Lib.hid (below_drewN HBF.out j6)
            refine hK _ _ ?_
            clear hK K
            go_frame
            refine wpAny_take (i := 16) (v := ?_) rfl (by kernel_rfl) (by kernel_rfl) (by kernel_rfl) (fun _ _ _ h => h) (Or.inl ⟨by rfl, ?_⟩) ?_
            rotate_left
            · intro w
              go_simp
              with_reducible rfl
            change wpAny _ _ _ _ _ _ (Act.put _ (some 100) _) _
            go_frame
            refine wpAny_take (i := 17) (v := ?_) rfl (by kernel_rfl) (by kernel_rfl) (by kernel_rfl) (fun _ _ _ h => h) (Or.inl ⟨by rfl, ?_⟩) ?_
            rotate_left
            · intro w
              go_simp
              with_reducible rfl
            change wpAny _ _ _ _ _ _ (Act.put _ (some 101) _) _
            go_frame
            refine wpAny_ready (rs := [18]) (by kernel_rfl) (by simp) ?_
            refine (AllReady.cons rfl (fun K hK => ?_) AllReady.nil)
            go_simp
            refine (awake14_any _).mono ?_
            rintro e w9 ⟨rfl, hb9⟩
            have HB9 : Hid (Below w5.heap.size w5 w9) := below_next HBS.out hb9 HBS.out.size
            clear hb9
            refine hK _ _ ?_
            clear hK K
            go_frame
            refine wpAny_take (i := 19) (v := ?_) rfl (by kernel_rfl) (by kernel_rfl) (by kernel_rfl) (fun _ _ _ h => h) (Or.inl ⟨by rfl, ?_⟩) ?_
            rotate_left
            · intro w
              go_simp
              with_reducible rfl
            change wpAny _ _ _ _ _ _ (Act.put _ (some 103) _) _
            go_frame
            refine wpAny_take (i := 20) (v := ?_) rfl (by kernel_rfl) (by kernel_rfl) (by kernel_rfl) (fun _ _ _ h => h) (Or.inl ⟨by rfl, ?_⟩) ?_
            rotate_left
            · intro w
              go_simp
              with_reducible rfl
            change wpAny _ _ _ _ _ _ (Act.put _ (some 6) _) _
            go_frame
            refine wpAny_done (by kernel_rfl) ?_ _
            go_wp2
            go_ret
            exact ⟨rfl, below_next HB5.out HB9.out HB5.out.size⟩
          · go_simp
            refine hK _ _ ?_
            clear hK K
            go_frame
            refine wpAny_ready (rs := [10]) (by kernel_rfl) (by simp) ?_
            refine (AllReady.cons rfl (fun K hK => ?_) AllReady.nil)
            go_simp
            refine (HHT.out _ HBD.out).mono ?_
            rintro e wh1 ⟨ah, ch, rfl, hrh, hbh⟩
            have HBH : Hid (Below w5.heap.size w5 wh1) := below_next HBD.out hbh HBD.out.size
            have HRH := Lib.hid hrh
            clear hbh hrh
            have hcvH := HCV5.out _ HBH.out
            refine hK _ _ ?_
            clear hK K
            go_frame
            refine wpAny_ready (rs := [14]) (by kernel_rfl) (by simp) ?_
            refine (AllReady.cons rfl (fun K hK => ?_) AllReady.nil)
            go_simp
            refine (HFF.out _ HBH.out).mono ?_
            rintro e wf1 ⟨af, cf, rfl, hrf, hbf, -⟩
            have HBF : Hid (Below w5.heap.size w5 wf1) := below_next HBH.out hbf HBH.out.size
            have HRF := Lib.hid hrf
            have HRH2 := Lib.hid (HRH.out.kept hbf)
            clear hbf hrf
            have hcvF := HCV5.out _ HBF.out
            refine hK _ _ ?_
            clear hK K
            go_frame
            refine wpAny_ready (rs := [15]) (by kernel_rfl) (by simp) ?_
            refine (AllReady.cons rfl (fun K hK => ?_) AllReady.nil)
            go_simp
            refine (samehits_any _ ah af ch cf L (by omega) HRH2.out HRF.out).mono ?_
            rintro e w' ⟨rfl, j6, rfl⟩
            have HBS := Lib.hid (below_drewN HBF.out j6)
            refine hK _ _ ?_
            clear hK K
            go_frame
            refine wpAny_take (i := 16) (v := ?_) rfl (by kernel_rfl) (by kernel_rfl) (by kernel_rfl) (fun _ _ _ h => h) (Or.inl ⟨by rfl, ?_⟩) ?_
            rotate_left
            · intro w
              go_simp
              with_reducible rfl
            change wpAny _ _ _ _ _ _ (Act.put _ (some 100) _) _
            go_frame
            refine wpAny_take (i := 17) (v := ?_) rfl (by kernel_rfl) (by kernel_rfl) (by kernel_rfl) (fun _ _ _ h => h) (Or.inl ⟨by rfl, ?_⟩) ?_
            rotate_left
            · intro w
              go_simp
              with_reducible rfl
            change wpAny _ _ _ _ _ _ (Act.put _ (some 101) _) _
            go_frame
            refine wpAny_ready (rs := [18]) (by kernel_rfl) (by simp) ?_
            refine (AllReady.cons rfl (fun K hK => ?_) AllReady.nil)
            go_simp
            refine (awake14_any _).mono ?_
            rintro e w9 ⟨rfl, hb9⟩
            have HB9 : Hid (Below w5.heap.size w5 w9) := below_next HBS.out hb9 HBS.out.size
            clear hb9
            refine hK _ _ ?_
            clear hK K
            go_frame
            refine wpAny_take (i := 19) (v := ?_) rfl (by kernel_rfl) (by kernel_rfl) (by kernel_rfl) (fun _ _ _ h => h) (Or.inl ⟨by rfl, ?_⟩) ?_
            rotate_left
            · intro w
              go_simp
              with_reducible rfl
            change wpAny _ _ _ _ _ _ (Act.put _ (some 103) _) _
            go_frame
            refine wpAny_take (i := 20) (v := ?_) rfl (by kernel_rfl) (by kernel_rfl) (by kernel_rfl) (fun _ _ _ h => h) (Or.inl ⟨by rfl, ?_⟩) ?_
            rotate_left
            · intro w
              go_simp
              with_reducible rfl
            change wpAny _ _ _ _ _ _ (Act.put _ (some 6) _) _
            go_frame
            refine wpAny_done (by kernel_rfl) ?_ _
            go_wp2
            go_ret
            exact ⟨rfl, below_next HB5.out HB9.out HB5.out.size⟩
        · go_simp
          refine hK _ _ ?_
          clear hK K
          go_frame
          refine wpAny_ready (rs := [9]) (by kernel_rfl) (by simp) ?_
          refine (AllReady.cons rfl (fun K hK => ?_) AllReady.nil)
          go_simp
          refine hK _ _ ?_
          clear hK K
          go_frame
          refine wpAny_ready (rs := [10]) (by kernel_rfl) (by simp) ?_
          refine (AllReady.cons rfl (fun K hK => ?_) AllReady.nil)
          go_simp
          refine (HHT.out _ HBD.out).mono ?_
          rintro e wh1 ⟨ah, ch, rfl, hrh, hbh⟩
          have HBH : Hid (Below w5.heap.size w5 wh1) := below_next HBD.out hbh HBD.out.size
          have HRH := Lib.hid hrh
          clear hbh hrh
          have hcvH := HCV5.out _ HBH.out
          refine hK _ _ ?_
          clear hK K
          go_frame
          refine wpAny_ready (rs := [14]) (by kernel_rfl) (by simp) ?_
          refine (AllReady.cons rfl (fun K hK => ?_) AllReady.nil)
          go_simp
          refine (HFF.out _ HBH.out).mono ?_
          rintro e wf1 ⟨af, cf, rfl, hrf, hbf, -⟩
          have HBF : Hid (Below w5.heap.size w5 wf1) := below_next HBH.out hbf HBH.out.size
          have HRF := Lib.hid hrf
          have HRH2 := Lib.hid (HRH.out.kept hbf)
          clear hbf hrf
          have hcvF := HCV5.out _ HBF.out
          refine hK _ _ ?_
          clear hK K
          go_frame
          refine wpAny_ready (rs := [15]) (by kernel_rfl) (by simp) ?_
          refine (AllReady.cons rfl (fun K hK => ?_) AllReady.nil)
          go_simp
          refine (samehits_any _ ah af ch cf L (by omega) HRH2.out HRF.out).mono ?_
          rintro e w' ⟨rfl, j6, rfl⟩
          have HBS := Lib.hid (below_drewN HBF.out j6)
          refine hK _ _ ?_
          clear hK K
          go_frame
          refine wpAny_take (i := 16) (v := ?_) rfl (by kernel_rfl) (by kernel_rfl) (by kernel_rfl) (fun _ _ _ h => h) (Or.inl ⟨by rfl, ?_⟩) ?_
          rotate_left
          · intro w
            go_simp
            with_reducible rfl
          change wpAny _ _ _ _ _ _ (Act.put _ (some 100) _) _
          go_frame
          refine wpAny_take (i := 17) (v := ?_) rfl (by kernel_rfl) (by kernel_rfl) (by kernel_rfl) (fun _ _ _ h => h) (Or.inl ⟨by rfl, ?_⟩) ?_
          rotate_left
          · intro w
            go_simp
            with_reducible rfl
          change wpAny _ _ _ _ _ _ (Act.put _ (some 101) _) _
          go_frame
          refine wpAny_ready (rs := [18]) (by kernel_rfl) (by simp) ?_
          refine (AllReady.cons rfl (fun K hK => ?_) AllReady.nil)
          go_simp
          refine (awake14_any _).mono ?_
          rintro e w9 ⟨rfl, hb9⟩
          have HB9 : Hid (Below w5.heap.size w5 w9) := below_next HBS.out hb9 HBS.out.size
          clear hb9
          refine hK _ _ ?_
          clear hK K
          go_frame
          refine wpAny_take (i := 19) (v := ?_) rfl (by kernel_rfl) (by kernel_rfl) (by kernel_rfl) (fun _ _ _ h => h) (Or.inl ⟨by rfl, ?_⟩) ?_
          rotate_left
          · intro w
            go_simp
            with_reducible rfl
          change wpAny _ _ _ _ _ _ (Act.put _ (some 103) _) _
          go_frame
          refine wpAny_take (i := 20) (v := ?_) rfl (by kernel_rfl) (by kernel_rfl) (by kernel_rfl) (fun _ _ _ h => h) (Or.inl ⟨by rfl, ?_⟩) ?_
          rotate_left
          · intro w
            go_simp
            with_reducible rfl
          change wpAny _ _ _ _ _ _ (Act.put _ (some 6) _) _
          go_frame
          refine wpAny_done (by kernel_rfl) ?_ _
          go_wp2
          go_ret
          exact ⟨rfl, below_next HB5.out HB9.out HB5.out.size⟩
      · exact (hz5 rfl).elim
end Go.Proofs.YtjpoebmjfedecaaGreat
