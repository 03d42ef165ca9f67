/-
  The statement DiskStops: its walk.
-/
import Derived.Test.YtelndbjjkhlacaaDkOneG
import Derived.Deep.CutBlock
namespace Go.Proofs.Ytelndbjjkhlacaa
open Go.RowKit Go.Maps

/-- what holds ahead of the k-th call, where n are let -/
structure StI (w : World) (fn n k : Nat) (S : DSt) (d : List Nat) (wr : World) : Prop where
  ok : DOk S
  dead : S.dead = decide (n ≤ k)
  stop : k < n → S.stop = (n : Int) - (k : Int)
  fail : S.fail = 0
  names : S.names = .map [(kl sF, enc fn)]
  files : S.files = [fn]
  quota : S.quota = 1048576
  calls : S.calls = 2 + (k : Int)
  last : LastF S fn
  fb : S.fb fn = d
  len : d.length ≤ 16 * k
  byte : ∀ x ∈ d, x < 256
  av : DiskAv w.heap.size wr (w.heap.size + 2) S (fun b => b < w.heap.size)
  below : Below w.heap.size w wr
theorem crash_nil {S : DSt} {fn : Nat} (hl : LastF S fn) :
    (crashS S [] []).names = .map [(kl sF, enc fn)] ∧ (crashS S [] []).fb = S.fb := by
  refine ⟨?_, truncL_none _ _ _⟩
  show nowD S.last S.turns [] = _
  rw [hl.turns, nowD_nil, hl.last]
theorem mask15 (x : Int) : ∃ L : Nat, bits .and .i64 x 15 = (L : Int) ∧ L < 16 := by
  have en : bits .and .i64 x 15 = x % 16 := i64_mask x 4 (by omega)
  exact ⟨(x % 16).toNat, by rw [en]; omega, by omega⟩
set_option maxRecDepth 100000 in
set_option maxHeartbeats 4000000 in
theorem dstops_walk (w : World) (x0 : Int) (_ : (Lit.int .i64 x0).wf = true) (a : Option Addr) (len cap : Nat) (f : Nat → Int) (hl : len ≤ maxLen) (hr : Row w a len (fun k => .int .i64 (f k)) ∧ ∀ k, k < len → (Lit.int .i64 (f k)).wf = true) :
    Calls Try.prog 4 #[.int .i64 x0, .slice a len cap] w fun e w' => e = .returned (.bool true) ∧ Below w.heap.size w w' := by
  obtain ⟨n, hn, hn2⟩ : ∃ n : Nat, bits .and .i64 x0 31 = (n : Int) ∧ n < 32 := by
    have en : bits .and .i64 x0 31 = x0 % 32 := i64_mask x0 5 (by omega)
    exact ⟨(x0 % 32).toNat, by rw [en]; omega, by omega⟩
  have hix := run_ix (P := Try.prog) 34 (by kernel_rfl) size_int4 a len cap hr.1.at_ .i64
  have HIX := Lib.hid hix
  have HR := Lib.hid hr.1
  unfold maxLen at hl
  obtain ⟨K, hK⟩ : ∃ K, K = min len 40 := ⟨_, rfl⟩
  have HK := Lib.hid hK
  clear hr hix hK
  have HN := Lib.hid (dnew_any w 1048576 (by omega))
  have HB1 := Lib.hid (newW_below w 1048576)
  have HA1 := Lib.hid (DiskAv.avB (new_at w 1048576))
  go_enter Try.func4, Try.ntmps4
  go_wp2_with fail
  refine HN.out.mono ?_
  rintro e w1 ⟨rfl, hw1⟩
  rw [← hw1] at HB1 HA1
  clear hw1 HN
  go_wp2_with fail
  refine (create_at w.heap.size w1 (w.heap.size + 2) (newS 1048576) _ HA1.out (fun b h => Nat.lt_of_lt_of_le h HB1.out.size) (newS_lv 1048576 (by omega)) HB1.out.size (by show (0 : Int) < 100000; omega) sF okN_f rfl (by show 0 < 64; omega)).mono ?_
  rintro e w3 ⟨fn, -, rfl, hlv, hav, hb3, -⟩
  have HB3 : Hid (Below w.heap.size w w3) := HB1.out.trans hb3
  have hbw := HB3.out.size
  have HSD := Lib.hid (syncdir_at w.heap.size w3 (w.heap.size + 2) _ (fun b => b < w.heap.size) hav (fun b h => by change b < w.heap.size at h; omega) hlv hbw (by show (0 : Int) + 1 < 100000; omega))
  clear hlv hav hb3 hbw HA1 HB1
  go_wp2_with fail
  refine HSD.out.mono ?_
  rintro e w4 ⟨rfl, hlv, hav, hb4, -⟩
  have HB4 : Hid (Below w.heap.size w w4) := HB3.out.trans hb4
  have HSP := Lib.hid (stop_any w.heap.size w4 (w.heap.size + 2) _ (fun b => b < w.heap.size) hav hlv.dead (n : Int) (by omega))
  have HLV := Lib.hid hlv
  clear hlv hav hb4 HSD HB3
  go_wp2_with fail
  refine HSP.out.mono ?_
  rintro e w5 ⟨rfl, hav, hb5⟩
  have HI0 : Hid (StI w fn n 0 (stopS (syncdirS (createS (newS 1048576) sF fn)) (n : Int)) [] w5) := by
    refine ⟨HLV.out.ok.turned _ _ _ _ (by show -1 ≤ max (n : Int) (-1) ∧ max (n : Int) (-1) ≤ 1000000 ∧ (0 : Int) ≤ 0 ∧ (0 : Int) ≤ 1000000; omega), ?_, ?_, rfl, rfl, rfl, rfl, rfl, ⟨rfl, rfl⟩, createS_fb (newS 1048576) sF fn, Nat.zero_le _, (by simp), hav, HB4.out.trans hb5⟩
    · show (false || decide ((n : Int) = 0)) = decide (n ≤ 0)
      rw [Bool.false_or]
      exact decide_eq_decide.2 (by omega)
    · intro h
      show max (n : Int) (-1) = (n : Int) - ((0 : Nat) : Int)
      omega
  clear hav hb5 HSP HLV HB4 hn
  go_upto_block 0 with fail
  go_cut [6] (fun s6 wx => ∃ (S : DSt) (d : List Nat), s6 = .string (sB d) ∧ StI w fn n K S d wx)
  case first =>
    go_wp2_with fail
    go_loopw [6, 7, 8, 9] (fun v6 v7 _ _ wr => ∃ (k : Nat) (S : DSt) (d : List Nat), k ≤ len ∧ k ≤ 40 ∧ v7 = .int .i64 (k : Int) ∧ v6 = .string (sB d) ∧ StI w fn n k S d wr) (fun _ v7 _ _ _ => 40 - (intOf v7).toNat)
    case atStart => exact ⟨0, _, _, Nat.zero_le _, Nat.zero_le _, rfl, by rw [sB_nil], HI0.out⟩
    case round =>
      obtain ⟨k, S, d, hk, hk40, rfl, rfl, hst⟩ := hrel
      have HST := Lib.hid hst
      clear hst HI0
      by_cases hlt : k < len ∧ k < 40
      · obtain ⟨hlt, hk2⟩ := hlt
        by_cases hkn : k < n
        · have t7 : (k : Int) < (n : Int) := by omega
          have y7 : IntKind.i64.wrap ((k : Int) + 1) = (k : Int) + 1 := IntWalk.i64_in _ (by omega)
          have hx := (HR.out.kept HST.out.below).cell k hlt
          have hxk := fun W => HIX.out W k hlt
          generalize hfx : f k = x at hx
          clear hfx
          obtain ⟨L, hL, hL2⟩ := mask15 x
          have t20 : (k : Int) < 40 := by omega
          have tln : (k : Int) < (len : Int) := by omega
          go_wp2_with fail
          refine (bytes4_any _ k L (by omega) (by omega)).mono ?_
          rintro e w2 ⟨rfl, hb2⟩
          have HPB := Lib.hid (bysL_byte k L)
          have HPL := Lib.hid (bysL_len k L)
          generalize bysL k L = p at *
          obtain ⟨cap', w4, hcv, -, hrow, hb4, -⟩ := str_bytes w2 p HPB.out
          have hbw := HST.out.below.size
          have hbd := HST.out.av.bd_lt
          have hs2 := hb2.size
          have hs4 := hb4.size
          have hcl := HST.out.calls
          have hfl := HST.out.len
          have hq := HST.out.quota
          have hfb := HST.out.fb
          have hfile : fileOf S.names sF = some fn := by rw [HST.out.names]; exact fileOf_one sF fn
          have hz1 : (sB d).size ≤ 640 := by rw [sB_size]; omega
          have hz2 : (sB p).size ≤ 16 := by rw [sB_size, HPL.out]; omega
          have HB4 : Hid (Below w.heap.size w w4) := (HST.out.below.trans (hb2.mono hbw)).trans (hb4.mono (by omega))
          have HAV4 : Hid (DiskAv w.heap.size w4 (w.heap.size + 2) S (fun b => b < w.heap.size)) := (HST.out.av.below hb2).below hb4
          have hdd : S.dead = false := by rw [HST.out.dead]; exact decide_eq_false (by omega)
          have hsp := HST.out.stop hkn
          have hu : usedS S = (S.fb fn).length := used_one S sF fn HST.out.names hdd
          have HAP := Lib.hid (app_stop w.heap.size w4 (w.heap.size + 2) S (fun b => b < w.heap.size) HAV4.out (fun b h => by change b < w.heap.size at h; omega) HST.out.ok (by omega) (by omega) sF okN_f fn hfile (some ⟨w2.heap.size, 0, none⟩) cap' p hrow (.inr (by show w2.heap.size ≠ _; omega)) hdd (by omega) (by rw [HST.out.fail]; exact Int.le_refl 0) HPB.out
            (by rw [hfb, HPL.out]; omega) (by rw [hu, hfb, hq, HPL.out]; omega))
          have hd1 : decide (S.stop - 1 = 0) = decide (n ≤ k + 1) := decide_eq_decide.2 (by omega)
          rw [hd1] at HAP
          have HSP := Lib.hid hsp
          clear hdd hsp hu hd1
          clear hL hb2 hrow hb4 hbw hbd hs2 hs4 hcl hq hx hxk t20 tln hfile
          go_wp2_with fail
          clear hcv
          refine HAP.out.mono ?_
          rintro e w5 ⟨rfl, hok, hav, hb5⟩
          have HOK := Lib.hid hok
          have HAV := Lib.hid hav
          have HB5 : Hid (Below w.heap.size w w5) := HB4.out.trans hb5
          have HFL := Lib.hid hfl
          have HFB := Lib.hid hfb
          have HDD := Lib.hid (dead_any w.heap.size w5 (w.heap.size + 2) _ hav.at)
          clear hok hav hb5 hfl hfb HAP HB4 HAV4
          change Hid (Calls _ _ _ _ fun e w' => e = .returned (.bool (decide (n ≤ k + 1))) ∧ w5 = w') at HDD
          have HI2 : Hid (StI w fn n (k + 1) (gS (appendS S fn p) (S.stop - 1) S.fail (decide (n ≤ k + 1))) (d ++ p) w5) := by
            refine ⟨HOK.out, rfl, fun h => ?_, HST.out.fail, HST.out.names, HST.out.files, HST.out.quota, ?_, ⟨HST.out.last.last, HST.out.last.turns⟩, ?_, ?_, fun x hx => ?_, HAV.out, HB5.out⟩
            · show S.stop - 1 = (n : Int) - ((k + 1 : Nat) : Int)
              have := HSP.out
              omega
            · show S.calls + 1 = _
              have := HST.out.calls
              omega
            · show (appendS S fn p).fb fn = _
              rw [appendS_fb, HFB.out]
            · rw [List.length_append, HPL.out]; have := HFL.out; omega
            · rcases List.mem_append.1 hx with h | h
              · exact HST.out.byte x h
              · exact HPB.out x h
          by_cases hkn2 : n ≤ k + 1
          · have e7 : decide (n ≤ k + 1) = true := by simpa using hkn2
            have t8 : decide ((k : Int) + 1 < (n : Int)) = false := by simp; omega
            have t9 : (n : Int) ≤ (k : Int) + 1 := by omega
            rw [e7] at HDD
            clear hkn2 e7 HSP
            go_wp2_with fail
            refine HDD.out.mono ?_
            rintro e w' ⟨rfl, rfl⟩
            go_wp2_with fail
            clear hz1 hz2 t7 t8 t9 y7
            go_roundw
            case rel => exact ⟨k + 1, _, d ++ p, by omega, by omega, by go_num, by rw [sB_app], HI2.out⟩
            case measure => simp [intOf]; omega
          · have e7 : decide (n ≤ k + 1) = false := by simpa using hkn2
            have t8 : (k : Int) + 1 < (n : Int) := by omega
            have t9 : decide ((n : Int) ≤ (k : Int) + 1) = false := by simp; omega
            rw [e7] at HDD
            clear hkn2 e7 HSP
            go_wp2_with fail
            refine HDD.out.mono ?_
            rintro e w' ⟨rfl, rfl⟩
            go_wp2_with fail
            clear hz1 hz2 t7 t8 t9 y7
            go_roundw
            case rel => exact ⟨k + 1, _, d ++ p, by omega, by omega, by go_num, by rw [sB_app], HI2.out⟩
            case measure => simp [intOf]; omega
        · have t7 : decide ((k : Int) < (n : Int)) = false := by simp; omega
          have y7 : IntKind.i64.wrap ((k : Int) + 1) = (k : Int) + 1 := IntWalk.i64_in _ (by omega)
          have t8 : decide ((k : Int) + 1 < (n : Int)) = false := by simp; omega
          have t9 : (n : Int) ≤ (k : Int) + 1 := by omega
          have hx := (HR.out.kept HST.out.below).cell k hlt
          have hxk := fun W => HIX.out W k hlt
          generalize hfx : f k = x at hx
          clear hfx
          obtain ⟨L, hL, hL2⟩ := mask15 x
          have t20 : (k : Int) < 40 := by omega
          have tln : (k : Int) < (len : Int) := by omega
          go_wp2_with fail
          refine (bytes4_any _ k L (by omega) (by omega)).mono ?_
          rintro e w2 ⟨rfl, hb2⟩
          have HPB := Lib.hid (bysL_byte k L)
          have HPL := Lib.hid (bysL_len k L)
          generalize bysL k L = p at *
          obtain ⟨cap', w4, hcv, -, hrow, hb4, -⟩ := str_bytes w2 p HPB.out
          have hbw := HST.out.below.size
          have hbd := HST.out.av.bd_lt
          have hs2 := hb2.size
          have hs4 := hb4.size
          have hcl := HST.out.calls
          have hfl := HST.out.len
          have hq := HST.out.quota
          have hfb := HST.out.fb
          have hfile : fileOf S.names sF = some fn := by rw [HST.out.names]; exact fileOf_one sF fn
          have hz1 : (sB d).size ≤ 640 := by rw [sB_size]; omega
          have hz2 : (sB p).size ≤ 16 := by rw [sB_size, HPL.out]; omega
          have HB4 : Hid (Below w.heap.size w w4) := (HST.out.below.trans (hb2.mono hbw)).trans (hb4.mono (by omega))
          have HAV4 : Hid (DiskAv w.heap.size w4 (w.heap.size + 2) S (fun b => b < w.heap.size)) := (HST.out.av.below hb2).below hb4
          have hdd : S.dead = true := by rw [HST.out.dead]; exact decide_eq_true (by omega)
          have HAP := Lib.hid (app_dead w.heap.size w4 (w.heap.size + 2) S (fun b => b < w.heap.size) HAV4.out (fun b h => by change b < w.heap.size at h; omega) HST.out.ok (by omega) (by omega) sF okN_f (some ⟨w2.heap.size, 0, none⟩) cap' p hrow (.inr (by show w2.heap.size ≠ _; omega)) hdd)
          have HDE := Lib.hid hdd
          clear hdd
          clear hL hb2 hrow hb4 hbw hbd hs2 hs4 hcl hq hx hxk t20 tln hfile
          go_wp2_with fail
          clear hcv
          refine HAP.out.mono ?_
          rintro e w5 ⟨rfl, hok, hav, hb5⟩
          have HOK := Lib.hid hok
          have HAV := Lib.hid hav
          have HB5 : Hid (Below w.heap.size w w5) := HB4.out.trans hb5
          have HFL := Lib.hid hfl
          have HFB := Lib.hid hfb
          have HDD := Lib.hid (dead_any w.heap.size w5 (w.heap.size + 2) _ hav.at)
          clear hok hav hb5 hfl hfb HAP HB4 HAV4
          have hd9 : (callS S).dead = true := HDE.out
          rw [hd9] at HDD
          clear hd9
          have HI2 : Hid (StI w fn n (k + 1) (callS S) d w5) := by
            refine ⟨HOK.out, ?_, fun h => ?_, HST.out.fail, HST.out.names, HST.out.files, HST.out.quota, ?_, ⟨HST.out.last.last, HST.out.last.turns⟩, HST.out.fb, ?_, HST.out.byte, HAV.out, HB5.out⟩
            · show S.dead = _
              rw [HDE.out]
              exact (decide_eq_true (by omega)).symm
            · omega
            · show S.calls + 1 = _
              have := HST.out.calls
              omega
            · have := HFL.out; omega
          go_wp2_with fail
          refine HDD.out.mono ?_
          rintro e w' ⟨rfl, rfl⟩
          go_wp2_with fail
          clear hz1 hz2 t7 t8 t9 y7
          go_roundw
          case rel => exact ⟨k + 1, _, d, by omega, by omega, by go_num, rfl, HI2.out⟩
          case measure => simp [intOf]; omega
      · by_cases h40 : k = 40
        · subst h40
          have HF : Hid (StI w fn n K S d wr) := by rw [HK.out, show min len 40 = 40 by omega]; exact HST.out
          by_cases hln : 40 < len
          · have t1 : decide ((40 : Int) < 40) = false := by decide
            have t2 : (40 : Int) < (len : Int) := by omega
            clear hlt hk hk40 HST
            go_wp2_with fail
            go_meet
            exact ⟨S, d, rfl, HF.out⟩
          · obtain rfl : len = 40 := by omega
            clear hlt hk hk40 HST
            go_wp2_with fail
            go_meet
            exact ⟨S, d, rfl, HF.out⟩
        · obtain rfl : k = len := by omega
          have HF : Hid (StI w fn n K S d wr) := by rw [HK.out, show min k 40 = k by omega]; exact HST.out
          have t1 : decide ((k : Int) < (k : Int)) = false := by simp
          clear hlt hk hk40 HST h40
          go_wp2_with fail
          go_meet
          exact ⟨S, d, rfl, HF.out⟩
  case rest =>
    obtain ⟨S, d, rfl, hst⟩ := hcut
    have HST := Lib.hid hst
    clear HI0
    have hbl := HST.out.below
    have hbw := hbl.size
    have hav := HST.out.av
    have HCL := Lib.hid (calls_any w.heap.size wc (w.heap.size + 2) S hav.at)
    rw [HST.out.calls] at HCL
    have HCR := Lib.hid (crash_any w.heap.size wc (w.heap.size + 2) S (fun b => b < w.heap.size) hav (fun b h => by change b < w.heap.size at h; omega) HST.out.ok (by rw [HST.out.files]; exact Nat.one_pos) hbw [] none 0 (Row.nil _ _ _) ⟨Nat.le_refl 0, trivial⟩ (.inl rfl) [] none 0 (Row.nil _ _ _) (by decide) (.inl rfl))
    have HTY := Lib.hid hav.tidy.2
    have HBL := Lib.hid hbl
    clear hst hbl hbw hav HIX HR
    go_wp2_with fail
    refine HCL.out.mono ?_
    rintro e w' ⟨rfl, rfl⟩
    go_wp2_with fail
    refine HCR.out.mono ?_
    rintro e w7 ⟨rfl, hav, hb7, -⟩
    have hok : DOk (crashS S [] []) := crash_ok HST.out.ok [] [] HTY.out hav.canon.1
    obtain ⟨k1, k2⟩ := crash_nil HST.out.last
    have hrd := read_any w.heap.size w7 (w.heap.size + 2) _ hav.at hok sF (by decide) 0 10000 (by omega)
    have hlen : d.length ≤ 10000 := by have := HST.out.len; have := HK.out; omega
    unfold ReadPost at hrd
    rw [readF_yes okN_f rfl (by rw [k1]; exact fileOf_one sF fn), if_neg (by omega), k2, HST.out.fb, show pieceL d (0 : Int).toNat (10000 : Int).toNat = d from pieceL_all _ _ hlen] at hrd
    have HRD := Lib.hid hrd
    have HAV := Lib.hid hav
    have HB7 : Hid (Below w.heap.size w w7) := HBL.out.trans hb7
    clear hav hb7 hok k1 k2 hrd hlen HCR HTY HST HBL HCL
    go_wp2_with fail
    refine HRD.out.mono ?_
    rintro e w8 ⟨ax, cx, rfl, hrx, hb8⟩
    have hcv8 := conv_str w8 ax d cx hrx
    have HB8 : Hid (Below w.heap.size w w8) := HB7.out.trans (hb8.mono HB7.out.size)
    have HD8 := Lib.hid (dead_any w.heap.size w8 (w.heap.size + 2) _ (HAV.out.below hb8).at)
    change Hid (Calls _ _ _ _ fun e w' => e = .returned (.bool false) ∧ w8 = w') at HD8
    clear hrx hb8 HRD HB7 HAV
    generalize d.length = D at *
    generalize sB d = sd at *
    go_wp2_with fail
    refine HD8.out.mono ?_
    rintro e w' ⟨rfl, rfl⟩
    clear hcv8
    have em : min (len : Int) 40 = (K : Int) := by have := HK.out; omega
    have y8 : IntKind.i64.wrap (2 + (K : Int)) = 2 + (K : Int) := IntWalk.i64_in _ (by have := HK.out; omega)
    clear HK
    go_wp2_with fail
    refine (awake4_any _).mono ?_
    rintro e w9 ⟨rfl, hb9⟩
    have HB9 : Hid (Below w.heap.size w w9) := HB8.out.trans (hb9.mono HB8.out.size)
    clear hb9
    go_wp2
    go_ret
    exact ⟨rfl, HB9.out⟩
end Go.Proofs.Ytelndbjjkhlacaa
