/-
  The statement DiskMoves: its walk.
-/
import Derived.Test.YtelndbjjkhlacaaDkTwo
namespace Go.Proofs.Ytelndbjjkhlacaa
open Go.RowKit Go.Maps

abbrev sX : ByteArray := ⟨#[120]⟩
abbrev sY : ByteArray := ⟨#[121]⟩
theorem okN_x : okN sX = true := by decide
theorem okN_y : okN sY = true := by decide
theorem xy_ne : sX ≠ sY := by decide
theorem yx_ne : sY ≠ sX := by decide
theorem xy_l : (sX.toList == sY.toList) = false := by rw [ByteArray.toList_mk, ByteArray.toList_mk]; decide
theorem two_xy (f g : Nat) : (DataW.map [(kl sX, enc f)] : DT).put (kl sY) (enc g) = .map [(kl sX, enc f), (kl sY, enc g)] := by rfl
theorem two_del (f g : Nat) : (DataW.map [(kl sX, enc f), (kl sY, enc g)] : DT).del (kl sX) = .map [(kl sY, enc g)] := by rfl
theorem two_over (f g : Nat) : (DataW.map [(kl sY, enc g)] : DT).put (kl sY) (enc f) = .map [(kl sY, enc f)] := by rfl
theorem one_del (f : Nat) : (DataW.map [(kl sX, enc f)] : DT).del (kl sX) = .map [] := by rfl
theorem mask255 (x : Int) : ∃ L : Nat, bits .and .i64 x 255 = (L : Int) ∧ L < 256 := by
  have en : bits .and .i64 x 255 = x % 256 := i64_mask x 8 (by omega)
  exact ⟨(x % 256).toNat, by rw [en]; omega, by omega⟩
/-- behind the Rename -/
structure MvI (w : World) (fn : Nat) (S : DSt) (p : List Nat) (wr : World) : Prop where
  one : OneN S sY fn 1048576 6
  fb : S.fb fn = p
  av : DiskAv w.heap.size wr (w.heap.size + 2) S (fun _ => False)
  below : Below w.heap.size w wr
set_option maxRecDepth 100000 in
set_option maxHeartbeats 2000000 in
theorem dmoves_walk (w : World) (a : Int) (_ : (Lit.int .i64 a).wf = true) (b : Int) (_ : (Lit.int .i64 b).wf = true) (over : Bool) :
    Calls Try.prog 8 #[.int .i64 a, .int .i64 b, .bool over] w fun e w' => e = .returned (.bool true) ∧ Below w.heap.size w w' := by
  obtain ⟨P, hP, hP2⟩ := mask255 a
  obtain ⟨Q, hQ, hQ2⟩ := mask255 b
  have HN := Lib.hid (dnew_any w 1048576 (by omega))
  have HB1 := Lib.hid (newW_below w 1048576)
  have HA1 := Lib.hid (new_at w 1048576).av
  go_enter Try.func8, Try.ntmps8
  go_wp2_with fail
  refine HN.out.mono ?_
  rintro e w1 ⟨rfl, hw1⟩
  rw [← hw1] at HB1 HA1
  clear hw1 HN
  go_wp2_with fail
  refine (bytes4_any w1 1 P (by omega) (by omega)).mono ?_
  rintro e w2 ⟨rfl, hb2⟩
  have HP := Lib.hid (bysL_byte 1 P)
  have HPL := Lib.hid (bysL_len 1 P)
  generalize bysL 1 P = p at *
  have HB2 : Hid (Below w.heap.size w w2) := HB1.out.trans (hb2.mono HB1.out.size)
  have HA2 := Lib.hid (HA1.out.below hb2)
  clear hb2 hP HB1 HA1
  go_wp2_with fail
  refine (bytes4_any w2 7 Q (by omega) (by omega)).mono ?_
  rintro e w3 ⟨rfl, hb3⟩
  have HQ := Lib.hid (bysL_byte 7 Q)
  have HQL := Lib.hid (bysL_len 7 Q)
  generalize bysL 7 Q = q at *
  have HB3 : Hid (Below w.heap.size w w3) := HB2.out.trans (hb3.mono HB2.out.size)
  have HA3 := Lib.hid (HA2.out.below hb3)
  clear hb3 hQ HB2 HA2
  go_wp2_with fail
  refine (create_at w.heap.size w3 (w.heap.size + 2) (newS 1048576) (fun _ => False) HA3.out (fun b h => h.elim) (newS_lv 1048576 (by omega)) HB3.out.size (by show (0 : Int) < 100000; omega) sX okN_x rfl (by show 0 < 64; omega)).mono ?_
  rintro e w4 ⟨fn, -, rfl, hlv, hav, hb4, -⟩
  have HB4 : Hid (Below w.heap.size w w4) := HB3.out.trans hb4
  obtain ⟨cap, w5, hcv, -, hrow, hb5, -⟩ := str_bytes w4 p HP.out
  have hs4 := HB4.out.size
  have hs5 := hb5.size
  have hbd := hav.bd_lt
  have hne : (createS (newS 1048576) sX fn).names = .map [(kl sX, enc fn)] := rfl
  have HAP := Lib.hid (append_at w.heap.size w5 (w.heap.size + 2) (createS (newS 1048576) sX fn) (fun _ => False) (hav.below hb5) (fun b h => h.elim) hlv (by omega) (by show (0 : Int) + 1 < 100000; omega) sX okN_x fn (by rw [hne]; exact fileOf_one sX fn) (some ⟨w4.heap.size, 0, none⟩) cap p hrow (.inr (by show w4.heap.size ≠ _; omega)) HP.out
    (by rw [createS_fb, HPL.out]; show 0 + P ≤ 200000; omega) (by
      rw [used_one _ sX fn hne hlv.dead, createS_fb, HPL.out]
      show ((0 : Nat) : Int) + (P : Int) ≤ 1048576
      omega))
  have HB5 : Hid (Below w.heap.size w w5) := HB4.out.trans (hb5.mono hs4)
  clear hlv hav hb4 hrow hb5 hs4 hs5 hbd hne HB3 HA3 HB4
  go_wp2_with fail
  clear hcv
  refine HAP.out.mono ?_
  rintro e w6 ⟨rfl, hlv, hav, hb6, -⟩
  have HB6 : Hid (Below w.heap.size w w6) := HB5.out.trans hb6
  have hnm : (appendS (createS (newS 1048576) sX fn) fn p).names = .map [(kl sX, enc fn)] := rfl
  have hfb : (appendS (createS (newS 1048576) sX fn) fn p).fb fn = p := by rw [appendS_fb, createS_fb]; rfl
  have hfm : (appendS (createS (newS 1048576) sX fn) fn p).files = [fn] := rfl
  have hca : (appendS (createS (newS 1048576) sX fn) fn p).calls = 2 := rfl
  have hqu : (appendS (createS (newS 1048576) sX fn) fn p).quota = 1048576 := rfl
  generalize appendS (createS (newS 1048576) sX fn) fn p = S0 at *
  clear hb6 HB5 HAP
  cases over with
  | false =>
    have HRN := Lib.hid (rename_at w.heap.size w6 (w.heap.size + 2) S0 (fun _ => False) hav (fun b h => h.elim) hlv HB6.out.size (by omega) sX sY okN_x okN_y xy_l fn (by rw [hnm]; exact fileOf_one sX fn))
    have HX := Lib.hid (And.intro hnm (And.intro hfb (And.intro hfm (And.intro hca hqu))))
    clear hlv hav hnm hfb hfm hca hqu
    go_wp2_with fail
    refine HRN.out.mono ?_
    rintro e wm ⟨rfl, hlv, hav, hb, -⟩
    obtain ⟨hnm, hfb, hfm, hca, hqu⟩ := HX.out
    have hmv : MvI w fn (moveS S0 ((S0.names.del (kl sX)).put (kl sY) (enc fn)) ⟨1, sX, sY, none⟩) p wm :=
      ⟨⟨hlv, by show (S0.names.del (kl sX)).put (kl sY) (enc fn) = _; rw [hnm, one_del]; rfl, by show fn ∈ S0.files; rw [hfm]; simp, hqu, by show S0.calls + 1 ≤ 6; omega⟩, hfb, hav, HB6.out.trans hb⟩
    generalize moveS S0 ((S0.names.del (kl sX)).put (kl sY) (enc fn)) ⟨1, sX, sY, none⟩ = S at *
    clear hlv hav hb hnm hfb hfm hca hqu HX HRN HB6 S0
    have HM := Lib.hid hmv
    clear hmv
    have hbw := HM.out.below.size
    have hcl := HM.out.one.calls
    have hbd := HM.out.av.bd_lt
    have HAX := Lib.hid (append_none w.heap.size wm (w.heap.size + 2) S (fun _ => False) HM.out.av (fun b h => h.elim) HM.out.one.lv hbw (by omega) sX okN_x (HM.out.one.no xy_ne) none 0 [] (Row.nil _ _ _) (.inl rfl))
    clear hbw hcl hbd
    simp only [List.length_nil] at HAX
    go_wp2_with fail
    refine HAX.out.mono ?_
    rintro e wa ⟨rfl, hlv, hav, hb, -⟩
    have hone := HM.out.one.call hlv
    have hbl : Below w.heap.size w wa := HM.out.below.trans hb
    obtain ⟨capq, wb, hcv, -, hrow, hbb, -⟩ := str_bytes wa q HQ.out
    have hcl := hone.calls
    have hbd := hav.bd_lt
    have hbs := hbl.size
    have hbbs := hbb.size
    have HAQ := Lib.hid (append_at w.heap.size wb (w.heap.size + 2) (callS S) (fun _ => False) (hav.below hbb) (fun b h => h.elim) hlv (by omega) (by omega) sY okN_y fn hone.file (some ⟨wa.heap.size, 0, none⟩) capq q hrow (.inr (by show wa.heap.size ≠ _; omega)) HQ.out
      (by show (S.fb fn).length + q.length ≤ 200000; rw [HM.out.fb, HPL.out, HQL.out]; omega) (by rw [hone.used, hone.quota]; show (((S.fb fn).length : Nat) : Int) + _ ≤ _; rw [HM.out.fb, HPL.out, HQL.out]; omega))
    have HO1 := Lib.hid hone
    have HB1 : Hid (Below w.heap.size w wb) := hbl.trans (hbb.mono hbs)
    clear hlv hav hb hone hbl hrow hbb hcl hbd hbs hbbs HAX
    go_wp2_with fail
    clear hcv
    refine HAQ.out.mono ?_
    rintro e wd ⟨rfl, hlv, hav, hb, -⟩
    have HO2 := Lib.hid (HO1.out.append hlv)
    have HFB : Hid ((appendS (callS S) fn q).fb fn = p ++ q) := by show _ = _; rw [appendS_fb]; show S.fb fn ++ q = _; rw [HM.out.fb]
    have HB2 : Hid (Below w.heap.size w wd) := HB1.out.trans hb
    have HRN := Lib.hid (rename_same w.heap.size wd (w.heap.size + 2) _ (fun _ => False) hav (fun b h => h.elim) hlv HB2.out.size (by have := HO2.out.calls; omega) sY okN_y fn HO2.out.file)
    clear hlv hav hb HO1 HAQ HB1 HM
    generalize appendS (callS S) fn q = T at *
    go_wp2_with fail
    refine HRN.out.mono ?_
    rintro e we ⟨rfl, hlv, hav, hb, -⟩
    have HO3 := Lib.hid (HO2.out.call hlv)
    have HB3 : Hid (Below w.heap.size w we) := HB2.out.trans hb
    have hfb3 : (callS T).fb fn = p ++ q := HFB.out
    obtain ⟨N, hN⟩ : ∃ N, N = P + Q := ⟨_, rfl⟩
    have HNN := Lib.hid hN
    have HLN : Hid ((p ++ q).length = N) := by show _ = _; rw [List.length_append, HPL.out, HQL.out, hN]
    have hrd := read_any w.heap.size we (w.heap.size + 2) _ hav.at hlv.ok sY (by decide) 0 1048576 (by omega)
    unfold ReadPost at hrd
    rw [readF_yes okN_y hlv.dead HO3.out.file, if_neg (by omega), hfb3, show pieceL (p ++ q) (0 : Int).toNat (1048576 : Int).toNat = p ++ q from pieceL_all _ _ (by rw [HLN.out]; show _ ≤ 1048576; omega)] at hrd
    clear hN
    have HRD := Lib.hid hrd
    have HAV := Lib.hid hav
    have HLV := Lib.hid hlv
    have HFB3 := Lib.hid hfb3
    clear hlv hav hb hfb3 hrd HRN HO2 HB2 HFB
    go_wp2_with fail
    refine HRD.out.mono ?_
    rintro e wf ⟨ax, cx, rfl, hrx, hb⟩
    have HB4 : Hid (Below w.heap.size w wf) := HB3.out.trans (hb.mono HB3.out.size)
    have HA4 := Lib.hid (HAV.out.below hb)
    have HCV : Hid (∀ W, Below wf.heap.size wf W → (convert 28 9 (.slice ax (p ++ q).length cx)).run Try.prog W = .ok (.string (sB p ++ sB q)) W) := fun W hW => by rw [sB_app]; exact conv_str W ax (p ++ q) cx (hrx.kept hW)
    have hs1 := size_any w.heap.size wf (w.heap.size + 2) _ HA4.out.at HLV.out.ok sY (by decide)
    rw [sizeF_yes okN_y HLV.out.dead HO3.out.file, HFB3.out, HLN.out] at hs1
    have HS1 := Lib.hid hs1
    rw [HLN.out] at HCV ⊢
    clear hb hrx hs1 HRD HAV HB3
    go_wp2_with fail
    refine HS1.out.mono ?_
    rintro e wg ⟨rfl, j1, rfl⟩
    have hs2 := size_any w.heap.size (wf.drewN j1) (w.heap.size + 2) _ (HA4.out.drewN j1).at HLV.out.ok sX (by decide)
    rw [sizeF_no okN_x HLV.out.dead (HO3.out.no xy_ne)] at hs2
    have HS2 := Lib.hid hs2
    clear hs2 HS1
    go_wp2_with fail
    refine HS2.out.mono ?_
    rintro e wg ⟨rfl, j2, rfl⟩
    generalize hwj : (wf.drewN j1).drewN j2 = wj at *
    have hbj : Below wf.heap.size wf wj := by rw [← hwj]; exact below_drewN (below_drewN (Below.refl _ _) j1) j2
    have hcvj := HCV.out wj hbj
    have hus := used_any w.heap.size wj (w.heap.size + 2) _ (HA4.out.below hbj).at HLV.out.ok
    rw [HO3.out.used, HFB3.out, HLN.out] at hus
    have HUS := Lib.hid hus
    have HAJ := Lib.hid (HA4.out.below hbj)
    have HBJ : Hid (Below w.heap.size w wj) := HB4.out.trans (hbj.mono HB4.out.size)
    have hN := HNN.out
    have y1 : IntKind.i64.wrap ((P : Int) + (Q : Int)) = (N : Int) := by rw [show (P : Int) + (Q : Int) = (N : Int) by omega]; exact IntWalk.i64_in _ (by omega)
    have hz1 : (sB p).size = P := by rw [sB_size, HPL.out]
    have hz2 : (sB q).size = Q := by rw [sB_size, HQL.out]
    have hz3 : (sB p).size ≤ 256 := by rw [hz1]; omega
    have hz4 : (sB q).size ≤ 256 := by rw [hz2]; omega
    clear hwj hbj hus HCV HA4 HB4 HS2 HLN hN
    go_wp2_with fail
    refine HUS.out.mono ?_
    rintro e wk ⟨rfl, hb⟩
    have HBK : Hid (Below w.heap.size w wk) := HBJ.out.trans (hb.mono HBJ.out.size)
    have HCX := Lib.hid (create_at w.heap.size wk (w.heap.size + 2) (callS T) (fun _ => False) (HAJ.out.below hb) (fun b h => h.elim) HLV.out HBK.out.size (by have := HO3.out.calls; omega) sX okN_x (HO3.out.no xy_ne) (by show size T.names < 64; rw [show T.names = _ from HO3.out.names]; show 1 < 64; omega))
    clear hb hcvj y1 hz1 hz2 hz3 hz4 HUS HAJ HBJ
    go_wp2_with fail
    refine HCX.out.mono ?_
    rintro e wl ⟨fx, -, rfl, -, -, hb, -⟩
    have HBL : Hid (Below w.heap.size w wl) := HBK.out.trans hb
    clear hb HCX
    go_wp2_with fail
    refine (awake4_any _).mono ?_
    rintro e wz ⟨rfl, hbz⟩
    have HBZ : Hid (Below w.heap.size w wz) := HBL.out.trans (hbz.mono HBL.out.size)
    clear hbz
    go_wp2
    go_ret
    exact ⟨rfl, HBZ.out⟩
  | true =>
    have hc0 : S0.names = .map [(kl sX, enc fn)] ∧ S0.fb fn = p ∧ S0.files = [fn] ∧ S0.calls = 2 ∧ S0.quota = 1048576 := ⟨hnm, hfb, hfm, hca, hqu⟩
    have HX := Lib.hid hc0
    have HCY := Lib.hid (create_at w.heap.size w6 (w.heap.size + 2) S0 (fun _ => False) hav (fun b h => h.elim) hlv HB6.out.size (by omega) sY okN_y (by rw [hnm]; exact fileOf_one_no yx_ne fn) (by rw [hnm]; show 1 < 64; omega))
    clear hlv hav hnm hfb hfm hca hqu hc0
    go_wp2_with fail
    refine HCY.out.mono ?_
    rintro e w7 ⟨fy, hfy, rfl, hlv, hav, hb, -⟩
    have HB7 : Hid (Below w.heap.size w w7) := HB6.out.trans hb
    have hcv1 := Lib.run_convert_bytes_const (P := Try.prog) w7 28 5 #[.int .u8 103, .int .u8 111, .int .u8 110, .int .u8 101] 4 4 Try.underlying28 Try.underlying5
    simp only [List.size_toArray, List.length_cons, List.length_nil, Nat.zero_add, Nat.reduceAdd] at hcv1
    have hb8 : Below w7.heap.size w7 (w7.alloc (.cells #[.int .u8 103, .int .u8 111, .int .u8 110, .int .u8 101] 5 (4, 5))) := (Below.refl _ _).alloc (Nat.le_refl _) _
    have hrow : Row (w7.alloc (.cells #[.int .u8 103, .int .u8 111, .int .u8 110, .int .u8 101] 5 (4, 5))) (some ⟨w7.heap.size, 0, none⟩) [103, 111, 110, 101].length (byteV [103, 111, 110, 101]) := row_marked w7 #[.int .u8 103, .int .u8 111, .int .u8 110, .int .u8 101] 5 (4, 5) (byteV [103, 111, 110, 101]) (by
      intro i hi
      match i, hi with
      | 0, _ => rfl
      | 1, _ => rfl
      | 2, _ => rfl
      | 3, _ => rfl)
    obtain ⟨hnm, hfb, hfm, hca, hqu⟩ := HX.out
    have hnf : fn ≠ fy := fun e => hfy (by rw [hfm, e]; simp)
    have hn1 : (createS S0 sY fy).names = .map [(kl sX, enc fn), (kl sY, enc fy)] := by show S0.names.put (kl sY) (enc fy) = _; rw [hnm, two_xy]
    obtain ⟨t1, t2, t3⟩ := two_rise sX sY fn fy (two_xy fn fy) yx_ne (createS S0 sY fy) hn1
    have hu : usedS (createS S0 sY fy) = P := by
      rw [t3 hlv.dead, createS_fb]
      show (updN S0.fb fy [] fn).length + 0 = P
      rw [updN_other _ _ hnf, hfb, HPL.out]
      rfl
    have hbd := hav.bd_lt
    have hs7 := HB7.out.size
    have HAG := Lib.hid (append_at w.heap.size _ (w.heap.size + 2) (createS S0 sY fy) (fun _ => False) (hav.below hb8) (fun b h => h.elim) hlv (by have := hb8.size; omega) (by show S0.calls + 1 < 100000; omega) sY okN_y fy t2 (some ⟨w7.heap.size, 0, none⟩) 4 [103, 111, 110, 101] hrow (.inr (by show w7.heap.size ≠ _; omega)) (by decide)
      (by rw [createS_fb]; decide) (by rw [hu]; show (P : Int) + ((4 : Nat) : Int) ≤ S0.quota; omega))
    have HN1 := Lib.hid (And.intro hn1 (And.intro hnf t1))
    have HB8 : Hid (Below w.heap.size w (w7.alloc (.cells #[.int .u8 103, .int .u8 111, .int .u8 110, .int .u8 101] 5 (4, 5)))) := HB7.out.trans (hb8.mono hs7)
    clear hlv hav hb hb8 hrow hnm hfb hfm hca hqu hnf hn1 t1 t2 t3 hu hbd hs7 hfy HCY HB6 HB7
    go_wp2_with fail
    clear hcv1
    refine (show Calls Try.prog _ _ (w7.alloc (.cells #[.int .u8 103, .int .u8 111, .int .u8 110, .int .u8 101] 5 (4, 5))) _ from HAG.out.mono ?_)
    rintro e w9 ⟨rfl, hlv, hav, hb, -⟩
    obtain ⟨hnm, hfb, hfm, hca, hqu⟩ := HX.out
    obtain ⟨hn1, hnf, t1⟩ := HN1.out
    have HB9 : Hid (Below w.heap.size w w9) := HB8.out.trans hb
    have HRN := Lib.hid (rename_at w.heap.size w9 (w.heap.size + 2) (appendS (createS S0 sY fy) fy [103, 111, 110, 101]) (fun _ => False) hav (fun b h => h.elim) hlv HB9.out.size (by show S0.calls + 1 + 1 < 100000; omega) sX sY okN_x okN_y xy_l fn t1)
    have HFY : Hid ((appendS (createS S0 sY fy) fy [103, 111, 110, 101]).fb fn = p) := by
      show updN (updN S0.fb fy []) fy _ fn = p
      rw [updN_other _ _ hnf, updN_other _ _ hnf, hfb]
    have HNY : Hid ((appendS (createS S0 sY fy) fy [103, 111, 110, 101]).names = .map [(kl sX, enc fn), (kl sY, enc fy)]) := hn1
    have HMY : Hid (fn ∈ (appendS (createS S0 sY fy) fy [103, 111, 110, 101]).files ∧ (appendS (createS S0 sY fy) fy [103, 111, 110, 101]).quota = 1048576 ∧ (appendS (createS S0 sY fy) fy [103, 111, 110, 101]).calls ≤ 5) :=
      ⟨by show fn ∈ S0.files ++ [fy]; rw [hfm]; simp, hqu, by show S0.calls + 1 + 1 ≤ 5; omega⟩
    generalize appendS (createS S0 sY fy) fy [103, 111, 110, 101] = S1 at *
    clear hlv hav hb hnm hfb hfm hca hqu hn1 hnf t1 HN1 HX HB8 HAG
    go_wp2_with fail
    refine HRN.out.mono ?_
    rintro e wm ⟨rfl, hlv, hav, hb, -⟩
    have hmv : MvI w fn (moveS S1 ((S1.names.del (kl sX)).put (kl sY) (enc fn)) ⟨1, sX, sY, none⟩) p wm :=
      ⟨⟨hlv, by show (S1.names.del (kl sX)).put (kl sY) (enc fn) = _; rw [HNY.out, two_del, two_over], HMY.out.1, HMY.out.2.1, by show S1.calls + 1 ≤ 6; have := HMY.out.2.2; omega⟩, HFY.out, hav, HB9.out.trans hb⟩
    generalize moveS S1 ((S1.names.del (kl sX)).put (kl sY) (enc fn)) ⟨1, sX, sY, none⟩ = S at *
    clear hlv hav hb HRN HNY HMY HFY HB9 S1
    have HM := Lib.hid hmv
    clear hmv
    have hbw := HM.out.below.size
    have hcl := HM.out.one.calls
    have hbd := HM.out.av.bd_lt
    have HAX := Lib.hid (append_none w.heap.size wm (w.heap.size + 2) S (fun _ => False) HM.out.av (fun b h => h.elim) HM.out.one.lv hbw (by omega) sX okN_x (HM.out.one.no xy_ne) none 0 [] (Row.nil _ _ _) (.inl rfl))
    clear hbw hcl hbd
    simp only [List.length_nil] at HAX
    go_wp2_with fail
    refine HAX.out.mono ?_
    rintro e wa ⟨rfl, hlv, hav, hb, -⟩
    have hone := HM.out.one.call hlv
    have hbl : Below w.heap.size w wa := HM.out.below.trans hb
    obtain ⟨capq, wb, hcv, -, hrow, hbb, -⟩ := str_bytes wa q HQ.out
    have hcl := hone.calls
    have hbd := hav.bd_lt
    have hbs := hbl.size
    have hbbs := hbb.size
    have HAQ := Lib.hid (append_at w.heap.size wb (w.heap.size + 2) (callS S) (fun _ => False) (hav.below hbb) (fun b h => h.elim) hlv (by omega) (by omega) sY okN_y fn hone.file (some ⟨wa.heap.size, 0, none⟩) capq q hrow (.inr (by show wa.heap.size ≠ _; omega)) HQ.out
      (by show (S.fb fn).length + q.length ≤ 200000; rw [HM.out.fb, HPL.out, HQL.out]; omega) (by rw [hone.used, hone.quota]; show (((S.fb fn).length : Nat) : Int) + _ ≤ _; rw [HM.out.fb, HPL.out, HQL.out]; omega))
    have HO1 := Lib.hid hone
    have HB1 : Hid (Below w.heap.size w wb) := hbl.trans (hbb.mono hbs)
    clear hlv hav hb hone hbl hrow hbb hcl hbd hbs hbbs HAX
    go_wp2_with fail
    clear hcv
    refine HAQ.out.mono ?_
    rintro e wd ⟨rfl, hlv, hav, hb, -⟩
    have HO2 := Lib.hid (HO1.out.append hlv)
    have HFB : Hid ((appendS (callS S) fn q).fb fn = p ++ q) := by show _ = _; rw [appendS_fb]; show S.fb fn ++ q = _; rw [HM.out.fb]
    have HB2 : Hid (Below w.heap.size w wd) := HB1.out.trans hb
    have HRN := Lib.hid (rename_same w.heap.size wd (w.heap.size + 2) _ (fun _ => False) hav (fun b h => h.elim) hlv HB2.out.size (by have := HO2.out.calls; omega) sY okN_y fn HO2.out.file)
    clear hlv hav hb HO1 HAQ HB1 HM
    generalize appendS (callS S) fn q = T at *
    go_wp2_with fail
    refine HRN.out.mono ?_
    rintro e we ⟨rfl, hlv, hav, hb, -⟩
    have HO3 := Lib.hid (HO2.out.call hlv)
    have HB3 : Hid (Below w.heap.size w we) := HB2.out.trans hb
    have hfb3 : (callS T).fb fn = p ++ q := HFB.out
    obtain ⟨N, hN⟩ : ∃ N, N = P + Q := ⟨_, rfl⟩
    have HNN := Lib.hid hN
    have HLN : Hid ((p ++ q).length = N) := by show _ = _; rw [List.length_append, HPL.out, HQL.out, hN]
    have hrd := read_any w.heap.size we (w.heap.size + 2) _ hav.at hlv.ok sY (by decide) 0 1048576 (by omega)
    unfold ReadPost at hrd
    rw [readF_yes okN_y hlv.dead HO3.out.file, if_neg (by omega), hfb3, show pieceL (p ++ q) (0 : Int).toNat (1048576 : Int).toNat = p ++ q from pieceL_all _ _ (by rw [HLN.out]; show _ ≤ 1048576; omega)] at hrd
    clear hN
    have HRD := Lib.hid hrd
    have HAV := Lib.hid hav
    have HLV := Lib.hid hlv
    have HFB3 := Lib.hid hfb3
    clear hlv hav hb hfb3 hrd HRN HO2 HB2 HFB
    go_wp2_with fail
    refine HRD.out.mono ?_
    rintro e wf ⟨ax, cx, rfl, hrx, hb⟩
    have HB4 : Hid (Below w.heap.size w wf) := HB3.out.trans (hb.mono HB3.out.size)
    have HA4 := Lib.hid (HAV.out.below hb)
    have HCV : Hid (∀ W, Below wf.heap.size wf W → (convert 28 9 (.slice ax (p ++ q).length cx)).run Try.prog W = .ok (.string (sB p ++ sB q)) W) := fun W hW => by rw [sB_app]; exact conv_str W ax (p ++ q) cx (hrx.kept hW)
    have hs1 := size_any w.heap.size wf (w.heap.size + 2) _ HA4.out.at HLV.out.ok sY (by decide)
    rw [sizeF_yes okN_y HLV.out.dead HO3.out.file, HFB3.out, HLN.out] at hs1
    have HS1 := Lib.hid hs1
    rw [HLN.out] at HCV ⊢
    clear hb hrx hs1 HRD HAV HB3
    go_wp2_with fail
    refine HS1.out.mono ?_
    rintro e wg ⟨rfl, j1, rfl⟩
    have hs2 := size_any w.heap.size (wf.drewN j1) (w.heap.size + 2) _ (HA4.out.drewN j1).at HLV.out.ok sX (by decide)
    rw [sizeF_no okN_x HLV.out.dead (HO3.out.no xy_ne)] at hs2
    have HS2 := Lib.hid hs2
    clear hs2 HS1
    go_wp2_with fail
    refine HS2.out.mono ?_
    rintro e wg ⟨rfl, j2, rfl⟩
    generalize hwj : (wf.drewN j1).drewN j2 = wj at *
    have hbj : Below wf.heap.size wf wj := by rw [← hwj]; exact below_drewN (below_drewN (Below.refl _ _) j1) j2
    have hcvj := HCV.out wj hbj
    have hus := used_any w.heap.size wj (w.heap.size + 2) _ (HA4.out.below hbj).at HLV.out.ok
    rw [HO3.out.used, HFB3.out, HLN.out] at hus
    have HUS := Lib.hid hus
    have HAJ := Lib.hid (HA4.out.below hbj)
    have HBJ : Hid (Below w.heap.size w wj) := HB4.out.trans (hbj.mono HB4.out.size)
    have hN := HNN.out
    have y1 : IntKind.i64.wrap ((P : Int) + (Q : Int)) = (N : Int) := by rw [show (P : Int) + (Q : Int) = (N : Int) by omega]; exact IntWalk.i64_in _ (by omega)
    have hz1 : (sB p).size = P := by rw [sB_size, HPL.out]
    have hz2 : (sB q).size = Q := by rw [sB_size, HQL.out]
    have hz3 : (sB p).size ≤ 256 := by rw [hz1]; omega
    have hz4 : (sB q).size ≤ 256 := by rw [hz2]; omega
    clear hwj hbj hus HCV HA4 HB4 HS2 HLN hN
    go_wp2_with fail
    refine HUS.out.mono ?_
    rintro e wk ⟨rfl, hb⟩
    have HBK : Hid (Below w.heap.size w wk) := HBJ.out.trans (hb.mono HBJ.out.size)
    have HCX := Lib.hid (create_at w.heap.size wk (w.heap.size + 2) (callS T) (fun _ => False) (HAJ.out.below hb) (fun b h => h.elim) HLV.out HBK.out.size (by have := HO3.out.calls; omega) sX okN_x (HO3.out.no xy_ne) (by show size T.names < 64; rw [show T.names = _ from HO3.out.names]; show 1 < 64; omega))
    clear hb hcvj y1 hz1 hz2 hz3 hz4 HUS HAJ HBJ
    go_wp2_with fail
    refine HCX.out.mono ?_
    rintro e wl ⟨fx, -, rfl, -, -, hb, -⟩
    have HBL : Hid (Below w.heap.size w wl) := HBK.out.trans hb
    clear hb HCX
    go_wp2_with fail
    refine (awake4_any _).mono ?_
    rintro e wz ⟨rfl, hbz⟩
    have HBZ : Hid (Below w.heap.size w wz) := HBL.out.trans (hbz.mono HBL.out.size)
    clear hbz
    go_wp2
    go_ret
    exact ⟨rfl, HBZ.out⟩
end Go.Proofs.Ytelndbjjkhlacaa
