/-
  The statement DiskFails: its walk.
-/
import Derived.Test.YtelndbjjkhlacaaDiskStops
namespace Go.Proofs.Ytelndbjjkhlacaa
open Go.RowKit Go.Maps

/-- what holds ahead of the i-th append, where the n-th is to fail -/
structure FaI (w : World) (fn n i : Nat) (want : Int) (S : DSt) (d : List Nat) (wr : World) : Prop where
  ok : DOk S
  dead : S.dead = false
  stop : S.stop = -1
  fail : S.fail = ((n + 1 - i : Nat) : Int)
  failE : S.failE = want
  names : S.names = .map [(kl sF, enc fn)]
  quota : S.quota = 1048576
  calls : S.calls = (i : Int)
  fb : S.fb fn = d
  len : d.length ≤ 16 * i
  byte : ∀ x ∈ d, x < 256
  av : DiskAv w.heap.size wr (w.heap.size + 2) S (fun b => b < w.heap.size)
  below : Below w.heap.size w wr
set_option maxRecDepth 100000 in
set_option maxHeartbeats 4000000 in
theorem dfails_io (w : World) (x0 : Int) (a : Option Addr) (len cap : Nat) (f : Nat → Int) (hl : len ≤ maxLen) (hr : Row w a len (fun k => .int .i64 (f k)) ∧ ∀ k, k < len → (Lit.int .i64 (f k)).wf = true) :
    Calls Try.prog 6 #[.int .i64 x0, .bool false, .slice a len cap] w fun e w' => e = .returned (.bool true) ∧ Below w.heap.size w w' := by
  obtain ⟨m, hm, hm2⟩ : ∃ n : Nat, bits .and .i64 x0 15 = (n : Int) ∧ n < 16 := mask15 x0
  obtain ⟨n, hn⟩ : ∃ n, n = m + 1 := ⟨_, rfl⟩
  have yn : IntKind.i64.wrap ((m : Int) + 1) = (n : Int) := by rw [show (m : Int) + 1 = (n : Int) by omega]; exact IntWalk.i64_in _ (by omega)
  have hn2 : 1 ≤ n ∧ n ≤ 16 := by omega
  have hix := run_ix (P := Try.prog) 34 (by kernel_rfl) size_int4 a len cap hr.1.at_ .i64
  have HIX := Lib.hid hix
  have HR := Lib.hid hr.1
  unfold maxLen at hl
  obtain ⟨K, hK⟩ : ∃ K, K = min len 30 := ⟨_, rfl⟩
  have HK := Lib.hid hK
  clear hr hix hK hn hm2
  have HN := Lib.hid (dnew_any w 1048576 (by omega))
  have HB1 := Lib.hid (newW_below w 1048576)
  have HA1 := Lib.hid (DiskAv.avB (new_at w 1048576))
  go_enter Try.func6, Try.ntmps6
  go_wp2_with fail
  refine HN.out.mono ?_
  rintro e w1 ⟨rfl, hw1⟩
  rw [← hw1] at HB1 HA1
  clear hw1 HN
  go_wp2_with fail
  refine (create_at w.heap.size w1 (w.heap.size + 2) (newS 1048576) _ HA1.out (fun b h => Nat.lt_of_lt_of_le h HB1.out.size) (newS_lv 1048576 (by omega)) HB1.out.size (by show (0 : Int) < 100000; omega) sF okN_f rfl (by show 0 < 64; omega)).mono ?_
  rintro e w3 ⟨fn, -, rfl, hlv, hav, hb3, -⟩
  have HB3 : Hid (Below w.heap.size w w3) := HB1.out.trans hb3
  have HSP := Lib.hid (fail_any w.heap.size w3 (w.heap.size + 2) _ (fun b => b < w.heap.size) hav (n : Int) (by omega) 51 (by decide))
  have HLV := Lib.hid hlv
  clear hlv hav hb3 HA1 HB1
  go_wp2_with fail
  refine HSP.out.mono ?_
  rintro e w5 ⟨rfl, hav, hb5⟩
  have HI0 : Hid (FaI w fn n 1 51 (failS (createS (newS 1048576) sF fn) (n : Int) 51) [] w5) := by
    refine ⟨HLV.out.ok.turned _ _ _ _ (by show -1 ≤ (-1 : Int) ∧ (-1 : Int) ≤ 1000000 ∧ (0 : Int) ≤ (n : Int) ∧ (n : Int) ≤ 1000000; omega), rfl, rfl, ?_, rfl, rfl, rfl, rfl, createS_fb (newS 1048576) sF fn, Nat.zero_le _, (by simp), hav, HB3.out.trans hb5⟩
    show (n : Int) = ((n + 1 - 1 : Nat) : Int)
    omega
  clear hav hb5 HSP HLV HB3 hm yn
  go_upto_block 0 with fail
  go_cut [9] (fun s9 wx => ∃ (S : DSt) (d : List Nat), s9 = .string (sB d) ∧ FaI w fn n (K + 1) 51 S d wx)
  case first =>
    go_wp2_with fail
    go_loopw [9, 10, 11, 12] (fun v9 v10 _ _ wr => ∃ (i : Nat) (S : DSt) (d : List Nat), 1 ≤ i ∧ i ≤ len + 1 ∧ i ≤ 31 ∧ v10 = .int .i64 (i : Int) ∧ v9 = .string (sB d) ∧ FaI w fn n i 51 S d wr) (fun _ v10 _ _ _ => 40 - (intOf v10).toNat)
    case atStart => exact ⟨1, _, _, Nat.le_refl _, by omega, by omega, rfl, by rw [sB_nil], HI0.out⟩
    case round =>
      obtain ⟨i, S, d, hi1, hi, hi40, rfl, rfl, hst⟩ := hrel
      have HST := Lib.hid hst
      clear hst HI0
      by_cases hlt : i ≤ len ∧ i ≤ 30
      · obtain ⟨hlt1, hi2⟩ := hlt
        obtain ⟨j, hj⟩ : ∃ j, j = i - 1 := ⟨_, rfl⟩
        have hlt : j < len := by omega
        have HJ : Hid (j + 1 = i) := by show j + 1 = i; omega
        clear hj
        by_cases hin : i = n
        · subst hin
          have hx := (HR.out.kept HST.out.below).cell j hlt
          have hxk := fun W => HIX.out W j hlt
          generalize hfx : f j = x at hx
          clear hfx
          obtain ⟨L, hL, hL2⟩ := mask15 x
          have t20 : (i : Int) ≤ 30 := by omega
          have tln : (i : Int) ≤ (len : Int) := by omega
          have y6 : IntKind.i64.wrap ((i : Int) - 1) = (j : Int) := by rw [show (i : Int) - 1 = (j : Int) by have := HJ.out; omega]; exact IntWalk.i64_in _ (by omega)
          go_wp2_with fail
          refine (bytes4_any _ i L (by omega) (by omega)).mono ?_
          rintro e w2 ⟨rfl, hb2⟩
          have HPB := Lib.hid (bysL_byte i L)
          have HPL := Lib.hid (bysL_len i L)
          generalize bysL i L = p at *
          obtain ⟨cap', w4, hcv, -, hrow, hb4, -⟩ := str_bytes w2 p HPB.out
          have hbw := HST.out.below.size
          have hbd := HST.out.av.bd_lt
          have hs2 := hb2.size
          have hs4 := hb4.size
          have hcl := HST.out.calls
          have hfl := HST.out.len
          have hq := HST.out.quota
          have hfb := HST.out.fb
          have hdd := HST.out.dead
          have hsp := HST.out.stop
          have hfa := HST.out.fail
          have hu : usedS S = (S.fb fn).length := used_one S sF fn HST.out.names hdd
          have hfile : fileOf S.names sF = some fn := by rw [HST.out.names]; exact fileOf_one sF fn
          have hz1 : (sB d).size ≤ 640 := by rw [sB_size]; omega
          have hz2 : (sB p).size ≤ 16 := by rw [sB_size, HPL.out]; omega
          have HB4 : Hid (Below w.heap.size w w4) := (HST.out.below.trans (hb2.mono hbw)).trans (hb4.mono (by omega))
          have HAV4 : Hid (DiskAv w.heap.size w4 (w.heap.size + 2) S (fun b => b < w.heap.size)) := (HST.out.av.below hb2).below hb4
          have HAP := Lib.hid (app_fail1 w.heap.size w4 (w.heap.size + 2) S (fun b => b < w.heap.size) HAV4.out (fun b h => by change b < w.heap.size at h; omega) HST.out.ok (by omega) (by omega) sF okN_f (some ⟨w2.heap.size, 0, none⟩) cap' p hrow (.inr (by show w2.heap.size ≠ _; omega)) hdd (by omega) (by omega))
          rw [HST.out.failE] at HAP
          clear y6 HJ hlt
          have HFL := Lib.hid hfl
          have HFB := Lib.hid hfb
          have HSP := Lib.hid hsp
          have HFA := Lib.hid hfa
          have HDD := Lib.hid hdd
          clear hL hb2 hrow hb4 hbw hbd hs2 hs4 hcl hq hx hxk t20 tln hfile hu hdd hsp hfa hfl hfb
          go_wp2_with fail
          clear hcv
          refine HAP.out.mono ?_
          rintro e w5 ⟨rfl, hok, hav, hb5⟩
          have HI2 : Hid (FaI w fn i (i + 1) 51 (gS (callS S) S.stop 0 S.dead) d w5) := by
            refine ⟨hok, HDD.out, HSP.out, ?_, HST.out.failE, HST.out.names, HST.out.quota, ?_, HST.out.fb, ?_, HST.out.byte, hav, HB4.out.trans hb5⟩
            · show (0 : Int) = ((i + 1 - (i + 1) : Nat) : Int)
              omega
            · show S.calls + 1 = _
              have := HST.out.calls
              omega
            · have := HFL.out; omega
          clear hok hav hb5 HAP HB4 HAV4
          go_wp2_with fail
          clear hz1 hz2
          go_roundw
          case rel => exact ⟨i + 1, _, d, by omega, by omega, by omega, by go_num, rfl, HI2.out⟩
          case measure => simp [intOf]; omega
        · have t7 : decide ((i : Int) = (n : Int)) = false := by simp; omega
          have t8 : ((i : Int) == (n : Int)) = false := by simp; omega
          have t9 : decide (i = n) = false := by simp; omega
          have t10 : ¬ (i : Int) = (n : Int) := by omega
          by_cases hlo : i < n
          · have hx := (HR.out.kept HST.out.below).cell j hlt
            have hxk := fun W => HIX.out W j hlt
            generalize hfx : f j = x at hx
            clear hfx
            obtain ⟨L, hL, hL2⟩ := mask15 x
            have t20 : (i : Int) ≤ 30 := by omega
            have tln : (i : Int) ≤ (len : Int) := by omega
            have y6 : IntKind.i64.wrap ((i : Int) - 1) = (j : Int) := by rw [show (i : Int) - 1 = (j : Int) by have := HJ.out; omega]; exact IntWalk.i64_in _ (by omega)
            go_wp2_with fail
            refine (bytes4_any _ i L (by omega) (by omega)).mono ?_
            rintro e w2 ⟨rfl, hb2⟩
            have HPB := Lib.hid (bysL_byte i L)
            have HPL := Lib.hid (bysL_len i L)
            generalize bysL i L = p at *
            obtain ⟨cap', w4, hcv, -, hrow, hb4, -⟩ := str_bytes w2 p HPB.out
            have hbw := HST.out.below.size
            have hbd := HST.out.av.bd_lt
            have hs2 := hb2.size
            have hs4 := hb4.size
            have hcl := HST.out.calls
            have hfl := HST.out.len
            have hq := HST.out.quota
            have hfb := HST.out.fb
            have hdd := HST.out.dead
            have hsp := HST.out.stop
            have hfa := HST.out.fail
            have hu : usedS S = (S.fb fn).length := used_one S sF fn HST.out.names hdd
            have hfile : fileOf S.names sF = some fn := by rw [HST.out.names]; exact fileOf_one sF fn
            have hz1 : (sB d).size ≤ 640 := by rw [sB_size]; omega
            have hz2 : (sB p).size ≤ 16 := by rw [sB_size, HPL.out]; omega
            have HB4 : Hid (Below w.heap.size w w4) := (HST.out.below.trans (hb2.mono hbw)).trans (hb4.mono (by omega))
            have HAV4 : Hid (DiskAv w.heap.size w4 (w.heap.size + 2) S (fun b => b < w.heap.size)) := (HST.out.av.below hb2).below hb4
            have HAP := Lib.hid (app_fail w.heap.size w4 (w.heap.size + 2) S (fun b => b < w.heap.size) HAV4.out (fun b h => by change b < w.heap.size at h; omega) HST.out.ok (by omega) (by omega) sF okN_f fn hfile (some ⟨w2.heap.size, 0, none⟩) cap' p hrow (.inr (by show w2.heap.size ≠ _; omega)) hdd (by omega) (by omega) HPB.out
              (by rw [hfb, HPL.out]; omega) (by rw [hu, hfb, hq, HPL.out]; omega))
            clear y6 HJ hlt
            have HFL := Lib.hid hfl
            have HFB := Lib.hid hfb
            have HSP := Lib.hid hsp
            have HFA := Lib.hid hfa
            have HDD := Lib.hid hdd
            clear hL hb2 hrow hb4 hbw hbd hs2 hs4 hcl hq hx hxk t20 tln hfile hu hdd hsp hfa hfl hfb
            go_wp2_with fail
            clear hcv
            refine HAP.out.mono ?_
            rintro e w5 ⟨rfl, hok, hav, hb5⟩
            have HI2 : Hid (FaI w fn n (i + 1) 51 (gS (appendS S fn p) S.stop (S.fail - 1) S.dead) (d ++ p) w5) := by
              refine ⟨hok, HDD.out, HSP.out, ?_, HST.out.failE, HST.out.names, HST.out.quota, ?_, ?_, ?_, fun x hx => ?_, hav, HB4.out.trans hb5⟩
              · show S.fail - 1 = ((n + 1 - (i + 1) : Nat) : Int)
                have := HFA.out
                omega
              · show S.calls + 1 = _
                have := HST.out.calls
                omega
              · show (appendS S fn p).fb fn = _
                rw [appendS_fb, HFB.out]
              · rw [List.length_append, HPL.out]; have := HFL.out; omega
              · rcases List.mem_append.1 hx with h | h
                · exact HST.out.byte x h
                · exact HPB.out x h
            clear hok hav hb5 HAP HB4 HAV4 hin
            go_wp2_with fail
            clear hz1 hz2
            go_roundw
            case rel => exact ⟨i + 1, _, d ++ p, by omega, by omega, by omega, by go_num, by rw [sB_app], HI2.out⟩
            case measure => simp [intOf]; omega
          · have hx := (HR.out.kept HST.out.below).cell j hlt
            have hxk := fun W => HIX.out W j hlt
            generalize hfx : f j = x at hx
            clear hfx
            obtain ⟨L, hL, hL2⟩ := mask15 x
            have t20 : (i : Int) ≤ 30 := by omega
            have tln : (i : Int) ≤ (len : Int) := by omega
            have y6 : IntKind.i64.wrap ((i : Int) - 1) = (j : Int) := by rw [show (i : Int) - 1 = (j : Int) by have := HJ.out; omega]; exact IntWalk.i64_in _ (by omega)
            go_wp2_with fail
            refine (bytes4_any _ i L (by omega) (by omega)).mono ?_
            rintro e w2 ⟨rfl, hb2⟩
            have HPB := Lib.hid (bysL_byte i L)
            have HPL := Lib.hid (bysL_len i L)
            generalize bysL i L = p at *
            obtain ⟨cap', w4, hcv, -, hrow, hb4, -⟩ := str_bytes w2 p HPB.out
            have hbw := HST.out.below.size
            have hbd := HST.out.av.bd_lt
            have hs2 := hb2.size
            have hs4 := hb4.size
            have hcl := HST.out.calls
            have hfl := HST.out.len
            have hq := HST.out.quota
            have hfb := HST.out.fb
            have hdd := HST.out.dead
            have hsp := HST.out.stop
            have hfa := HST.out.fail
            have hu : usedS S = (S.fb fn).length := used_one S sF fn HST.out.names hdd
            have hfile : fileOf S.names sF = some fn := by rw [HST.out.names]; exact fileOf_one sF fn
            have hz1 : (sB d).size ≤ 640 := by rw [sB_size]; omega
            have hz2 : (sB p).size ≤ 16 := by rw [sB_size, HPL.out]; omega
            have HB4 : Hid (Below w.heap.size w w4) := (HST.out.below.trans (hb2.mono hbw)).trans (hb4.mono (by omega))
            have HAV4 : Hid (DiskAv w.heap.size w4 (w.heap.size + 2) S (fun b => b < w.heap.size)) := (HST.out.av.below hb2).below hb4
            have hlv : Lv S := ⟨HST.out.ok, hdd, by omega, by omega⟩
            have HAP := Lib.hid (append_at w.heap.size w4 (w.heap.size + 2) S (fun b => b < w.heap.size) HAV4.out (fun b h => by change b < w.heap.size at h; omega) hlv (by omega) (by omega) sF okN_f fn hfile (some ⟨w2.heap.size, 0, none⟩) cap' p hrow (.inr (by show w2.heap.size ≠ _; omega)) HPB.out
              (by rw [hfb, HPL.out]; omega) (by rw [hu, hfb, hq, HPL.out]; omega))
            clear y6 HJ hlt hlv
            have HFL := Lib.hid hfl
            have HFB := Lib.hid hfb
            have HSP := Lib.hid hsp
            have HFA := Lib.hid hfa
            have HDD := Lib.hid hdd
            clear hL hb2 hrow hb4 hbw hbd hs2 hs4 hcl hq hx hxk t20 tln hfile hu hdd hsp hfa hfl hfb
            go_wp2_with fail
            clear hcv
            refine HAP.out.mono ?_
            rintro e w5 ⟨rfl, hlv, hav, hb5, -⟩
            have HI2 : Hid (FaI w fn n (i + 1) 51 (appendS S fn p) (d ++ p) w5) := by
              refine ⟨hlv.ok, HDD.out, HSP.out, ?_, HST.out.failE, HST.out.names, HST.out.quota, ?_, ?_, ?_, fun x hx => ?_, hav, HB4.out.trans hb5⟩
              · show S.fail = ((n + 1 - (i + 1) : Nat) : Int)
                have := HFA.out
                omega
              · show S.calls + 1 = _
                have := HST.out.calls
                omega
              · show (appendS S fn p).fb fn = _
                rw [appendS_fb, HFB.out]
              · rw [List.length_append, HPL.out]; have := HFL.out; omega
              · rcases List.mem_append.1 hx with h | h
                · exact HST.out.byte x h
                · exact HPB.out x h
            clear hlv hav hb5 HAP HB4 HAV4 hin
            go_wp2_with fail
            clear hz1 hz2
            go_roundw
            case rel => exact ⟨i + 1, _, d ++ p, by omega, by omega, by omega, by go_num, by rw [sB_app], HI2.out⟩
            case measure => simp [intOf]; omega
      · by_cases h40 : i = 31
        · subst h40
          by_cases hln : 31 ≤ len
          · have HF : Hid (FaI w fn n (K + 1) 51 S d wr) := by rw [HK.out, show min len 30 + 1 = 31 by omega]; exact HST.out
            have t1 : decide ((31 : Int) ≤ 30) = false := by decide
            have t2 : (31 : Int) ≤ (len : Int) := by omega
            clear hlt hi hi40 HST
            go_wp2_with fail
            go_meet
            exact ⟨S, d, rfl, HF.out⟩
          · obtain rfl : len = 30 := by omega
            have HF : Hid (FaI w fn n (K + 1) 51 S d wr) := by rw [HK.out]; exact HST.out
            clear hlt hi hi40 HST
            go_wp2_with fail
            go_meet
            exact ⟨S, d, rfl, HF.out⟩
        · have hil : i = len + 1 := by omega
          have HF : Hid (FaI w fn n (K + 1) 51 S d wr) := by rw [HK.out, show min len 30 + 1 = i by omega]; exact HST.out
          have t1 : decide ((i : Int) ≤ (len : Int)) = false := by simp; omega
          have t2 : decide (i ≤ len) = false := by simp; omega
          clear hlt hi hi40 HST h40 hil
          go_wp2_with fail
          go_meet
          exact ⟨S, d, rfl, HF.out⟩
  case rest =>
    obtain ⟨S, d, rfl, hst⟩ := hcut
    have HST := Lib.hid hst
    clear HI0
    have hbl := HST.out.below
    have hav := HST.out.av
    have hc : S.calls = 1 + (K : Int) := by have := HST.out.calls; omega
    have HCL := Lib.hid (fun W hW => calls_any w.heap.size W (w.heap.size + 2) S (hav.below (w' := W) hW).at)
    rw [hc] at HCL
    have hrd := read_any w.heap.size wc (w.heap.size + 2) _ hav.at HST.out.ok sF (by decide) 0 10000 (by omega)
    have hlen : d.length ≤ 10000 := by have := HST.out.len; have := HK.out; omega
    unfold ReadPost at hrd
    rw [readF_yes okN_f HST.out.dead (by rw [HST.out.names]; exact fileOf_one sF fn), if_neg (by omega), HST.out.fb, show pieceL d (0 : Int).toNat (10000 : Int).toNat = d from pieceL_all _ _ hlen] at hrd
    have HRD := Lib.hid hrd
    have HB7 := Lib.hid hbl
    clear hst hbl hav HIX HR hrd hlen hc
    go_wp2_with fail
    refine HRD.out.mono ?_
    rintro e w8 ⟨ax, cx, rfl, hrx, hb8⟩
    have hcv8 := conv_str w8 ax d cx hrx
    have HB8 : Hid (Below w.heap.size w w8) := HB7.out.trans (hb8.mono HB7.out.size)
    have HC8 := Lib.hid (HCL.out w8 hb8)
    clear hrx hb8 HRD HB7 HST HCL
    generalize d.length = D at *
    generalize sB d = sd at *
    go_wp2_with fail
    refine HC8.out.mono ?_
    rintro e w' ⟨rfl, rfl⟩
    clear hcv8
    have em : min (len : Int) 30 = (K : Int) := by have := HK.out; omega
    have y8 : IntKind.i64.wrap (1 + (K : Int)) = 1 + (K : Int) := IntWalk.i64_in _ (by have := HK.out; omega)
    clear HK
    go_wp2_with fail
    refine (awake4_any _).mono ?_
    rintro e w9 ⟨rfl, hb9⟩
    have HB9 : Hid (Below w.heap.size w w9) := HB8.out.trans (hb9.mono HB8.out.size)
    clear hb9
    go_wp2
    go_ret
    exact ⟨rfl, HB9.out⟩
set_option maxRecDepth 100000 in
set_option maxHeartbeats 4000000 in
theorem dfails_full (w : World) (x0 : Int) (a : Option Addr) (len cap : Nat) (f : Nat → Int) (hl : len ≤ maxLen) (hr : Row w a len (fun k => .int .i64 (f k)) ∧ ∀ k, k < len → (Lit.int .i64 (f k)).wf = true) :
    Calls Try.prog 6 #[.int .i64 x0, .bool true, .slice a len cap] w fun e w' => e = .returned (.bool true) ∧ Below w.heap.size w w' := by
  obtain ⟨m, hm, hm2⟩ : ∃ n : Nat, bits .and .i64 x0 15 = (n : Int) ∧ n < 16 := mask15 x0
  obtain ⟨n, hn⟩ : ∃ n, n = m + 1 := ⟨_, rfl⟩
  have yn : IntKind.i64.wrap ((m : Int) + 1) = (n : Int) := by rw [show (m : Int) + 1 = (n : Int) by omega]; exact IntWalk.i64_in _ (by omega)
  have hn2 : 1 ≤ n ∧ n ≤ 16 := by omega
  have hix := run_ix (P := Try.prog) 34 (by kernel_rfl) size_int4 a len cap hr.1.at_ .i64
  have HIX := Lib.hid hix
  have HR := Lib.hid hr.1
  unfold maxLen at hl
  obtain ⟨K, hK⟩ : ∃ K, K = min len 30 := ⟨_, rfl⟩
  have HK := Lib.hid hK
  clear hr hix hK hn hm2
  have HN := Lib.hid (dnew_any w 1048576 (by omega))
  have HB1 := Lib.hid (newW_below w 1048576)
  have HA1 := Lib.hid (DiskAv.avB (new_at w 1048576))
  go_enter Try.func6, Try.ntmps6
  go_wp2_with fail
  refine HN.out.mono ?_
  rintro e w1 ⟨rfl, hw1⟩
  rw [← hw1] at HB1 HA1
  clear hw1 HN
  go_wp2_with fail
  refine (create_at w.heap.size w1 (w.heap.size + 2) (newS 1048576) _ HA1.out (fun b h => Nat.lt_of_lt_of_le h HB1.out.size) (newS_lv 1048576 (by omega)) HB1.out.size (by show (0 : Int) < 100000; omega) sF okN_f rfl (by show 0 < 64; omega)).mono ?_
  rintro e w3 ⟨fn, -, rfl, hlv, hav, hb3, -⟩
  have HB3 : Hid (Below w.heap.size w w3) := HB1.out.trans hb3
  have HSP := Lib.hid (fail_any w.heap.size w3 (w.heap.size + 2) _ (fun b => b < w.heap.size) hav (n : Int) (by omega) 15 (by decide))
  have HLV := Lib.hid hlv
  clear hlv hav hb3 HA1 HB1
  go_wp2_with fail
  refine HSP.out.mono ?_
  rintro e w5 ⟨rfl, hav, hb5⟩
  have HI0 : Hid (FaI w fn n 1 15 (failS (createS (newS 1048576) sF fn) (n : Int) 15) [] w5) := by
    refine ⟨HLV.out.ok.turned _ _ _ _ (by show -1 ≤ (-1 : Int) ∧ (-1 : Int) ≤ 1000000 ∧ (0 : Int) ≤ (n : Int) ∧ (n : Int) ≤ 1000000; omega), rfl, rfl, ?_, rfl, rfl, rfl, rfl, createS_fb (newS 1048576) sF fn, Nat.zero_le _, (by simp), hav, HB3.out.trans hb5⟩
    show (n : Int) = ((n + 1 - 1 : Nat) : Int)
    omega
  clear hav hb5 HSP HLV HB3 hm yn
  go_upto_block 0 with fail
  go_cut [9] (fun s9 wx => ∃ (S : DSt) (d : List Nat), s9 = .string (sB d) ∧ FaI w fn n (K + 1) 15 S d wx)
  case first =>
    go_wp2_with fail
    go_loopw [9, 10, 11, 12] (fun v9 v10 _ _ wr => ∃ (i : Nat) (S : DSt) (d : List Nat), 1 ≤ i ∧ i ≤ len + 1 ∧ i ≤ 31 ∧ v10 = .int .i64 (i : Int) ∧ v9 = .string (sB d) ∧ FaI w fn n i 15 S d wr) (fun _ v10 _ _ _ => 40 - (intOf v10).toNat)
    case atStart => exact ⟨1, _, _, Nat.le_refl _, by omega, by omega, rfl, by rw [sB_nil], HI0.out⟩
    case round =>
      obtain ⟨i, S, d, hi1, hi, hi40, rfl, rfl, hst⟩ := hrel
      have HST := Lib.hid hst
      clear hst HI0
      by_cases hlt : i ≤ len ∧ i ≤ 30
      · obtain ⟨hlt1, hi2⟩ := hlt
        obtain ⟨j, hj⟩ : ∃ j, j = i - 1 := ⟨_, rfl⟩
        have hlt : j < len := by omega
        have HJ : Hid (j + 1 = i) := by show j + 1 = i; omega
        clear hj
        by_cases hin : i = n
        · subst hin
          have hx := (HR.out.kept HST.out.below).cell j hlt
          have hxk := fun W => HIX.out W j hlt
          generalize hfx : f j = x at hx
          clear hfx
          obtain ⟨L, hL, hL2⟩ := mask15 x
          have t20 : (i : Int) ≤ 30 := by omega
          have tln : (i : Int) ≤ (len : Int) := by omega
          have y6 : IntKind.i64.wrap ((i : Int) - 1) = (j : Int) := by rw [show (i : Int) - 1 = (j : Int) by have := HJ.out; omega]; exact IntWalk.i64_in _ (by omega)
          go_wp2_with fail
          refine (bytes4_any _ i L (by omega) (by omega)).mono ?_
          rintro e w2 ⟨rfl, hb2⟩
          have HPB := Lib.hid (bysL_byte i L)
          have HPL := Lib.hid (bysL_len i L)
          generalize bysL i L = p at *
          obtain ⟨cap', w4, hcv, -, hrow, hb4, -⟩ := str_bytes w2 p HPB.out
          have hbw := HST.out.below.size
          have hbd := HST.out.av.bd_lt
          have hs2 := hb2.size
          have hs4 := hb4.size
          have hcl := HST.out.calls
          have hfl := HST.out.len
          have hq := HST.out.quota
          have hfb := HST.out.fb
          have hdd := HST.out.dead
          have hsp := HST.out.stop
          have hfa := HST.out.fail
          have hu : usedS S = (S.fb fn).length := used_one S sF fn HST.out.names hdd
          have hfile : fileOf S.names sF = some fn := by rw [HST.out.names]; exact fileOf_one sF fn
          have hz1 : (sB d).size ≤ 640 := by rw [sB_size]; omega
          have hz2 : (sB p).size ≤ 16 := by rw [sB_size, HPL.out]; omega
          have HB4 : Hid (Below w.heap.size w w4) := (HST.out.below.trans (hb2.mono hbw)).trans (hb4.mono (by omega))
          have HAV4 : Hid (DiskAv w.heap.size w4 (w.heap.size + 2) S (fun b => b < w.heap.size)) := (HST.out.av.below hb2).below hb4
          have HAP := Lib.hid (app_fail1 w.heap.size w4 (w.heap.size + 2) S (fun b => b < w.heap.size) HAV4.out (fun b h => by change b < w.heap.size at h; omega) HST.out.ok (by omega) (by omega) sF okN_f (some ⟨w2.heap.size, 0, none⟩) cap' p hrow (.inr (by show w2.heap.size ≠ _; omega)) hdd (by omega) (by omega))
          rw [HST.out.failE] at HAP
          clear y6 HJ hlt
          have HFL := Lib.hid hfl
          have HFB := Lib.hid hfb
          have HSP := Lib.hid hsp
          have HFA := Lib.hid hfa
          have HDD := Lib.hid hdd
          clear hL hb2 hrow hb4 hbw hbd hs2 hs4 hcl hq hx hxk t20 tln hfile hu hdd hsp hfa hfl hfb
          go_wp2_with fail
          clear hcv
          refine HAP.out.mono ?_
          rintro e w5 ⟨rfl, hok, hav, hb5⟩
          have HI2 : Hid (FaI w fn i (i + 1) 15 (gS (callS S) S.stop 0 S.dead) d w5) := by
            refine ⟨hok, HDD.out, HSP.out, ?_, HST.out.failE, HST.out.names, HST.out.quota, ?_, HST.out.fb, ?_, HST.out.byte, hav, HB4.out.trans hb5⟩
            · show (0 : Int) = ((i + 1 - (i + 1) : Nat) : Int)
              omega
            · show S.calls + 1 = _
              have := HST.out.calls
              omega
            · have := HFL.out; omega
          clear hok hav hb5 HAP HB4 HAV4
          go_wp2_with fail
          clear hz1 hz2
          go_roundw
          case rel => exact ⟨i + 1, _, d, by omega, by omega, by omega, by go_num, rfl, HI2.out⟩
          case measure => simp [intOf]; omega
        · have t7 : decide ((i : Int) = (n : Int)) = false := by simp; omega
          have t8 : ((i : Int) == (n : Int)) = false := by simp; omega
          have t9 : decide (i = n) = false := by simp; omega
          have t10 : ¬ (i : Int) = (n : Int) := by omega
          by_cases hlo : i < n
          · have hx := (HR.out.kept HST.out.below).cell j hlt
            have hxk := fun W => HIX.out W j hlt
            generalize hfx : f j = x at hx
            clear hfx
            obtain ⟨L, hL, hL2⟩ := mask15 x
            have t20 : (i : Int) ≤ 30 := by omega
            have tln : (i : Int) ≤ (len : Int) := by omega
            have y6 : IntKind.i64.wrap ((i : Int) - 1) = (j : Int) := by rw [show (i : Int) - 1 = (j : Int) by have := HJ.out; omega]; exact IntWalk.i64_in _ (by omega)
            go_wp2_with fail
            refine (bytes4_any _ i L (by omega) (by omega)).mono ?_
            rintro e w2 ⟨rfl, hb2⟩
            have HPB := Lib.hid (bysL_byte i L)
            have HPL := Lib.hid (bysL_len i L)
            generalize bysL i L = p at *
            obtain ⟨cap', w4, hcv, -, hrow, hb4, -⟩ := str_bytes w2 p HPB.out
            have hbw := HST.out.below.size
            have hbd := HST.out.av.bd_lt
            have hs2 := hb2.size
            have hs4 := hb4.size
            have hcl := HST.out.calls
            have hfl := HST.out.len
            have hq := HST.out.quota
            have hfb := HST.out.fb
            have hdd := HST.out.dead
            have hsp := HST.out.stop
            have hfa := HST.out.fail
            have hu : usedS S = (S.fb fn).length := used_one S sF fn HST.out.names hdd
            have hfile : fileOf S.names sF = some fn := by rw [HST.out.names]; exact fileOf_one sF fn
            have hz1 : (sB d).size ≤ 640 := by rw [sB_size]; omega
            have hz2 : (sB p).size ≤ 16 := by rw [sB_size, HPL.out]; omega
            have HB4 : Hid (Below w.heap.size w w4) := (HST.out.below.trans (hb2.mono hbw)).trans (hb4.mono (by omega))
            have HAV4 : Hid (DiskAv w.heap.size w4 (w.heap.size + 2) S (fun b => b < w.heap.size)) := (HST.out.av.below hb2).below hb4
            have HAP := Lib.hid (app_fail w.heap.size w4 (w.heap.size + 2) S (fun b => b < w.heap.size) HAV4.out (fun b h => by change b < w.heap.size at h; omega) HST.out.ok (by omega) (by omega) sF okN_f fn hfile (some ⟨w2.heap.size, 0, none⟩) cap' p hrow (.inr (by show w2.heap.size ≠ _; omega)) hdd (by omega) (by omega) HPB.out
              (by rw [hfb, HPL.out]; omega) (by rw [hu, hfb, hq, HPL.out]; omega))
            clear y6 HJ hlt
            have HFL := Lib.hid hfl
            have HFB := Lib.hid hfb
            have HSP := Lib.hid hsp
            have HFA := Lib.hid hfa
            have HDD := Lib.hid hdd
            clear hL hb2 hrow hb4 hbw hbd hs2 hs4 hcl hq hx hxk t20 tln hfile hu hdd hsp hfa hfl hfb
            go_wp2_with fail
            clear hcv
            refine HAP.out.mono ?_
            rintro e w5 ⟨rfl, hok, hav, hb5⟩
            have HI2 : Hid (FaI w fn n (i + 1) 15 (gS (appendS S fn p) S.stop (S.fail - 1) S.dead) (d ++ p) w5) := by
              refine ⟨hok, HDD.out, HSP.out, ?_, HST.out.failE, HST.out.names, HST.out.quota, ?_, ?_, ?_, fun x hx => ?_, hav, HB4.out.trans hb5⟩
              · show S.fail - 1 = ((n + 1 - (i + 1) : Nat) : Int)
                have := HFA.out
                omega
              · show S.calls + 1 = _
                have := HST.out.calls
                omega
              · show (appendS S fn p).fb fn = _
                rw [appendS_fb, HFB.out]
              · rw [List.length_append, HPL.out]; have := HFL.out; omega
              · rcases List.mem_append.1 hx with h | h
                · exact HST.out.byte x h
                · exact HPB.out x h
            clear hok hav hb5 HAP HB4 HAV4 hin
            go_wp2_with fail
            clear hz1 hz2
            go_roundw
            case rel => exact ⟨i + 1, _, d ++ p, by omega, by omega, by omega, by go_num, by rw [sB_app], HI2.out⟩
            case measure => simp [intOf]; omega
          · have hx := (HR.out.kept HST.out.below).cell j hlt
            have hxk := fun W => HIX.out W j hlt
            generalize hfx : f j = x at hx
            clear hfx
            obtain ⟨L, hL, hL2⟩ := mask15 x
            have t20 : (i : Int) ≤ 30 := by omega
            have tln : (i : Int) ≤ (len : Int) := by omega
            have y6 : IntKind.i64.wrap ((i : Int) - 1) = (j : Int) := by rw [show (i : Int) - 1 = (j : Int) by have := HJ.out; omega]; exact IntWalk.i64_in _ (by omega)
            go_wp2_with fail
            refine (bytes4_any _ i L (by omega) (by omega)).mono ?_
            rintro e w2 ⟨rfl, hb2⟩
            have HPB := Lib.hid (bysL_byte i L)
            have HPL := Lib.hid (bysL_len i L)
            generalize bysL i L = p at *
            obtain ⟨cap', w4, hcv, -, hrow, hb4, -⟩ := str_bytes w2 p HPB.out
            have hbw := HST.out.below.size
            have hbd := HST.out.av.bd_lt
            have hs2 := hb2.size
            have hs4 := hb4.size
            have hcl := HST.out.calls
            have hfl := HST.out.len
            have hq := HST.out.quota
            have hfb := HST.out.fb
            have hdd := HST.out.dead
            have hsp := HST.out.stop
            have hfa := HST.out.fail
            have hu : usedS S = (S.fb fn).length := used_one S sF fn HST.out.names hdd
            have hfile : fileOf S.names sF = some fn := by rw [HST.out.names]; exact fileOf_one sF fn
            have hz1 : (sB d).size ≤ 640 := by rw [sB_size]; omega
            have hz2 : (sB p).size ≤ 16 := by rw [sB_size, HPL.out]; omega
            have HB4 : Hid (Below w.heap.size w w4) := (HST.out.below.trans (hb2.mono hbw)).trans (hb4.mono (by omega))
            have HAV4 : Hid (DiskAv w.heap.size w4 (w.heap.size + 2) S (fun b => b < w.heap.size)) := (HST.out.av.below hb2).below hb4
            have hlv : Lv S := ⟨HST.out.ok, hdd, by omega, by omega⟩
            have HAP := Lib.hid (append_at w.heap.size w4 (w.heap.size + 2) S (fun b => b < w.heap.size) HAV4.out (fun b h => by change b < w.heap.size at h; omega) hlv (by omega) (by omega) sF okN_f fn hfile (some ⟨w2.heap.size, 0, none⟩) cap' p hrow (.inr (by show w2.heap.size ≠ _; omega)) HPB.out
              (by rw [hfb, HPL.out]; omega) (by rw [hu, hfb, hq, HPL.out]; omega))
            clear y6 HJ hlt hlv
            have HFL := Lib.hid hfl
            have HFB := Lib.hid hfb
            have HSP := Lib.hid hsp
            have HFA := Lib.hid hfa
            have HDD := Lib.hid hdd
            clear hL hb2 hrow hb4 hbw hbd hs2 hs4 hcl hq hx hxk t20 tln hfile hu hdd hsp hfa hfl hfb
            go_wp2_with fail
            clear hcv
            refine HAP.out.mono ?_
            rintro e w5 ⟨rfl, hlv, hav, hb5, -⟩
            have HI2 : Hid (FaI w fn n (i + 1) 15 (appendS S fn p) (d ++ p) w5) := by
              refine ⟨hlv.ok, HDD.out, HSP.out, ?_, HST.out.failE, HST.out.names, HST.out.quota, ?_, ?_, ?_, fun x hx => ?_, hav, HB4.out.trans hb5⟩
              · show S.fail = ((n + 1 - (i + 1) : Nat) : Int)
                have := HFA.out
                omega
              · show S.calls + 1 = _
                have := HST.out.calls
                omega
              · show (appendS S fn p).fb fn = _
                rw [appendS_fb, HFB.out]
              · rw [List.length_append, HPL.out]; have := HFL.out; omega
              · rcases List.mem_append.1 hx with h | h
                · exact HST.out.byte x h
                · exact HPB.out x h
            clear hlv hav hb5 HAP HB4 HAV4 hin
            go_wp2_with fail
            clear hz1 hz2
            go_roundw
            case rel => exact ⟨i + 1, _, d ++ p, by omega, by omega, by omega, by go_num, by rw [sB_app], HI2.out⟩
            case measure => simp [intOf]; omega
      · by_cases h40 : i = 31
        · subst h40
          by_cases hln : 31 ≤ len
          · have HF : Hid (FaI w fn n (K + 1) 15 S d wr) := by rw [HK.out, show min len 30 + 1 = 31 by omega]; exact HST.out
            have t1 : decide ((31 : Int) ≤ 30) = false := by decide
            have t2 : (31 : Int) ≤ (len : Int) := by omega
            clear hlt hi hi40 HST
            go_wp2_with fail
            go_meet
            exact ⟨S, d, rfl, HF.out⟩
          · obtain rfl : len = 30 := by omega
            have HF : Hid (FaI w fn n (K + 1) 15 S d wr) := by rw [HK.out]; exact HST.out
            clear hlt hi hi40 HST
            go_wp2_with fail
            go_meet
            exact ⟨S, d, rfl, HF.out⟩
        · have hil : i = len + 1 := by omega
          have HF : Hid (FaI w fn n (K + 1) 15 S d wr) := by rw [HK.out, show min len 30 + 1 = i by omega]; exact HST.out
          have t1 : decide ((i : Int) ≤ (len : Int)) = false := by simp; omega
          have t2 : decide (i ≤ len) = false := by simp; omega
          clear hlt hi hi40 HST h40 hil
          go_wp2_with fail
          go_meet
          exact ⟨S, d, rfl, HF.out⟩
  case rest =>
    obtain ⟨S, d, rfl, hst⟩ := hcut
    have HST := Lib.hid hst
    clear HI0
    have hbl := HST.out.below
    have hav := HST.out.av
    have hc : S.calls = 1 + (K : Int) := by have := HST.out.calls; omega
    have HCL := Lib.hid (fun W hW => calls_any w.heap.size W (w.heap.size + 2) S (hav.below (w' := W) hW).at)
    rw [hc] at HCL
    have hrd := read_any w.heap.size wc (w.heap.size + 2) _ hav.at HST.out.ok sF (by decide) 0 10000 (by omega)
    have hlen : d.length ≤ 10000 := by have := HST.out.len; have := HK.out; omega
    unfold ReadPost at hrd
    rw [readF_yes okN_f HST.out.dead (by rw [HST.out.names]; exact fileOf_one sF fn), if_neg (by omega), HST.out.fb, show pieceL d (0 : Int).toNat (10000 : Int).toNat = d from pieceL_all _ _ hlen] at hrd
    have HRD := Lib.hid hrd
    have HB7 := Lib.hid hbl
    clear hst hbl hav HIX HR hrd hlen hc
    go_wp2_with fail
    refine HRD.out.mono ?_
    rintro e w8 ⟨ax, cx, rfl, hrx, hb8⟩
    have hcv8 := conv_str w8 ax d cx hrx
    have HB8 : Hid (Below w.heap.size w w8) := HB7.out.trans (hb8.mono HB7.out.size)
    have HC8 := Lib.hid (HCL.out w8 hb8)
    clear hrx hb8 HRD HB7 HST HCL
    generalize d.length = D at *
    generalize sB d = sd at *
    go_wp2_with fail
    refine HC8.out.mono ?_
    rintro e w' ⟨rfl, rfl⟩
    clear hcv8
    have em : min (len : Int) 30 = (K : Int) := by have := HK.out; omega
    have y8 : IntKind.i64.wrap (1 + (K : Int)) = 1 + (K : Int) := IntWalk.i64_in _ (by have := HK.out; omega)
    clear HK
    go_wp2_with fail
    refine (awake4_any _).mono ?_
    rintro e w9 ⟨rfl, hb9⟩
    have HB9 : Hid (Below w.heap.size w w9) := HB8.out.trans (hb9.mono HB8.out.size)
    clear hb9
    go_wp2
    go_ret
    exact ⟨rfl, HB9.out⟩
theorem dfails_walk (w : World) (x0 : Int) (_ : (Lit.int .i64 x0).wf = true) (b : Bool) (a : Option Addr) (len cap : Nat) (f : Nat → Int) (hl : len ≤ maxLen) (hr : Row w a len (fun k => .int .i64 (f k)) ∧ ∀ k, k < len → (Lit.int .i64 (f k)).wf = true) :
    Calls Try.prog 6 #[.int .i64 x0, .bool b, .slice a len cap] w fun e w' => e = .returned (.bool true) ∧ Below w.heap.size w w' := by
  cases b with
  | false => exact dfails_io w x0 a len cap f hl hr
  | true => exact dfails_full w x0 a len cap f hl hr
end Go.Proofs.Ytelndbjjkhlacaa
