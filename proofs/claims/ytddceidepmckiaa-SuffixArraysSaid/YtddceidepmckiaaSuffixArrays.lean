/-
  The statement SuffixArrays: its walk.
-/
import Derived.Test.YtddceidepmckiaaRefCommon
namespace Go.Proofs.Ytddceidepmckiaa
open Go.RowKit

set_option maxRecDepth 100000 in
set_option maxHeartbeats 2000000 in
theorem sarrays_walk (w : World) (a : Option Addr) (cap : Nat) (A : Nat → Option Addr) (C : Nat → Nat) (ds : List (List Nat)) (hin : DocsIn w a A C ds) :
    Calls Try.prog 5 #[.slice a ds.length cap] w fun e w' => e = .returned (.bool true) ∧ Below w.heap.size w w' := by
  have HF := Lib.hid (few_any w a cap A C ds hin.many hin.docs hin.long)
  have HIN := Lib.hid hin
  clear hin
  go_enter Try.func5, Try.ntmps5
  go_wp2_with fail
  refine HF.out.mono ?_
  rintro e w' ⟨b, rfl, hfew, rfl⟩
  cases b with
  | false =>
    clear hfew
    go_wp2_with (go_at_call 16; refine (awake10_any _).mono ?_; rintro e w1 ⟨rfl, hb⟩)
    go_ret
    exact ⟨rfl, hb⟩
  | true =>
    obtain ⟨hf1, hf2, hf3⟩ := hfew rfl
    have HFEW := Lib.hid (FewP.mk hf1 hf2 hf3 HIN.out.byte)
    clear hfew hf2
    go_wp2_with fail
    refine (made_any w a cap A C ds HIN.out.docs HFEW.out.ok).mono ?_
    rintro e w1 ⟨bt, x, rfl, ht, hb1⟩
    have HT1 := Lib.hid ht
    have HB1 := Lib.hid hb1
    have HD1 := Lib.hid (HIN.out.docs.kept hb1)
    clear ht hb1 HF
    go_wp2_with fail
    refine (strings_any w1 a cap A C ds (by omega) HD1.out).mono ?_
    rintro e w2 ⟨ax, cx, rfl, hrs, hb2⟩
    have HS2 := Lib.hid hrs
    have HT2 := Lib.hid (HT1.out.kept hb2)
    have HD2 := Lib.hid (HD1.out.kept hb2)
    have HB2 : Hid (Below w.heap.size w w2) := below_next HB1.out hb2 HB1.out.size
    clear hrs hb2 HT1 HD1 HB1
    go_wp2_with fail
    refine (array_any w2 bt x ds HT2.out HFEW.out.ok).mono ?_
    rintro e w3 ⟨aa, ca, sa, rfl, hra, hsa, hb3, hjk⟩
    have HRA3 := Lib.hid hra
    have HSA := Lib.hid hsa
    have HS3 := Lib.hid (HS2.out.kept hb3)
    have HT3 := Lib.hid (HT2.out.kept hb3)
    have HD3 := Lib.hid (HD2.out.kept hb3)
    have HB3 : Hid (Below w.heap.size w w3) := below_next HB2.out hb3 HB2.out.size
    clear hra hsa hb3 hjk HS2 HT2 HD2 HB2
    go_wp2_with fail
    refine (sort_any w3 a cap A C ds HD3.out HFEW.out.ok).mono ?_
    rintro e w4 ⟨ab, cb, sb, rfl, hrb, hsb, hb4⟩
    obtain rfl : sa = sb := HSA.out.one hsb
    have HRB4 := Lib.hid hrb
    have HRA4 := Lib.hid (HRA3.out.kept hb4)
    have HS4 := Lib.hid (HS3.out.kept hb4)
    have HT4 := Lib.hid (HT3.out.kept hb4)
    have HB4 : Hid (Below w.heap.size w w4) := below_next HB3.out hb4 HB3.out.size
    clear hrb hsb hb4 HRA3 HS3 HT3 HD3 HB3
    go_wp2_with fail
    refine (refarray_any w4 ax cx ds HS4.out HFEW.out.byte (by omega)).mono ?_
    rintro e w5 ⟨ac, cc, sc, rfl, hrc, hsc, hb5, hjk⟩
    obtain rfl : sa = sc := HSA.out.one hsc
    have HRC5 := Lib.hid hrc
    have HRA5 := Lib.hid (HRA4.out.kept hb5)
    have HRB5 := Lib.hid (HRB4.out.kept hb5)
    have HS5 := Lib.hid (HS4.out.kept hb5)
    have HT5 := Lib.hid (HT4.out.kept hb5)
    have HB5 : Hid (Below w.heap.size w w5) := below_next HB4.out hb5 HB4.out.size
    clear hrc hsc hb5 hjk HRA4 HRB4 HS4 HT4 HB4
    go_wp2_with fail
    refine (same_yes w5 aa ac (rowOf ds).length ca cc (fun k => ((sa.getD k 0 : Nat) : Int)) (by omega) HRA5.out HRC5.out).mono ?_
    rintro e w6 ⟨rfl, j, rfl⟩
    go_wp2_with fail
    refine (same_yes (w5.drewN j) ab ac (rowOf ds).length cb cc (fun k => ((sa.getD k 0 : Nat) : Int)) (by omega) (HRB5.out.drewN j) (HRC5.out.drewN j)).mono ?_
    rintro e w6 ⟨rfl, j2, hw6⟩
    have HRA6 : Hid (Row w6 aa (rowOf ds).length (natV sa)) := by rw [hw6]; exact (HRA5.out.drewN j).drewN j2
    have HS6 : Hid (Row w6 ax ds.length (strV ds)) := by rw [hw6]; exact (HS5.out.drewN j).drewN j2
    have HT6 : Hid (TextAt w6 bt x ds) := by rw [hw6]; exact (HT5.out.drewN j).drewN j2
    have HB6 : Hid (Below w.heap.size w w6) := by rw [hw6]; exact below_drewN (below_drewN HB5.out j) j2
    clear hw6 HRA5 HRB5 HRC5 HS5 HT5 HB5
    go_wp2_with fail
    refine (ok_yes w6 bt x ds HT6.out HFEW.out.ok aa ca sa HRA6.out HSA.out).mono ?_
    rintro e w7 ⟨rfl, hb7⟩
    have HRA7 := Lib.hid (HRA6.out.kept hb7)
    have HS7 := Lib.hid (HS6.out.kept hb7)
    have HT7 := Lib.hid (HT6.out.kept hb7)
    have HB7 : Hid (Below w.heap.size w w7) := below_next HB6.out hb7 HB6.out.size
    clear hb7 HRA6 HS6 HT6 HB6
    go_wp2_with fail
    refine (common_any w7 bt x ds HT7.out HFEW.out.ok aa ca sa HRA7.out HSA.out).mono ?_
    rintro e w8 ⟨ad, cd, F, rfl, hrF, hF, hb8⟩
    have HRF8 := Lib.hid hrF
    have HF8 := Lib.hid hF
    have HS8 := Lib.hid (HS7.out.kept hb8)
    have HB8 : Hid (Below w.heap.size w w8) := below_next HB7.out hb8 HB7.out.size
    clear hrF hF hb8 HRA7 HS7 HT7 HB7
    go_wp2_with fail
    refine (rows_any w8 ax cx ds HS8.out HFEW.out.byte (by omega)).mono ?_
    rintro e w9 ⟨ar, cr, rfl, hcr, hrr, hb9⟩
    have HRF9 := Lib.hid (HRF8.out.kept hb9)
    have HS9 := Lib.hid (HS8.out.kept hb9)
    have HRR := Lib.hid hrr
    have HB9 : Hid (Below w.heap.size w w9) := below_next HB8.out hb9 HB8.out.size
    clear hcr hrr hb9 HRF8 HS8 HB8
    go_wp2_with fail
    refine (refcommon_any w9 ax cx ds HS9.out HFEW.out.byte (by omega) ar cr HRR.out).mono ?_
    rintro e w10 ⟨ae, ce, G, rfl, hrG, hG, hb10⟩
    have HRF10 := Lib.hid (HRF9.out.kept hb10)
    have hse : sa = (rowsR ds).map (placeOf ds) := HSA.out.one (arrR_sa ds)
    rw [← hse] at hG
    have HRG : Hid (Row w10 ae (rowOf ds).length (fun k => .int .i64 ((F k : Nat) : Int))) := hrG.congr fun k hk => by rw [HF8.out.one hG k hk]
    have HB10 : Hid (Below w.heap.size w w10) := below_next HB9.out hb10 HB9.out.size
    clear hrG hG hb10 hse HRF9 HS9 HRR HB9
    go_wp2_with fail
    refine (same_yes w10 ad ae (rowOf ds).length cd ce (fun k => ((F k : Nat) : Int)) (by omega) HRF10.out HRG.out).mono ?_
    rintro e w11 ⟨rfl, j3, rfl⟩
    go_wp2_with fail
    refine (awake10_any _).mono ?_
    rintro e w12 ⟨rfl, hb12⟩
    have HB12 := Lib.hid hb12
    clear hb12
    go_wp2
    go_ret
    exact ⟨rfl, below_next (below_drewN HB10.out j3) HB12.out (below_drewN HB10.out j3).size⟩
end Go.Proofs.Ytddceidepmckiaa
