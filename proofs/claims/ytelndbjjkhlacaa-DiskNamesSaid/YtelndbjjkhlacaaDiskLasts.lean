/-
  The statement DiskLasts: its walk.
-/
import Derived.Test.YtelndbjjkhlacaaDkOne
import Derived.Deep.CutBlock
namespace Go.Proofs.Ytelndbjjkhlacaa
open Go.RowKit Go.Maps

def lsI (len : Nat) (f : Nat → Int) : List Int := (List.range len).map f
theorem lsI_len (len : Nat) (f : Nat → Int) : (lsI len f).length = len := by simp [lsI]
theorem lsI_row {w : World} {a : Option Addr} {len : Nat} {f : Nat → Int} (h : Row w a len (fun k => .int .i64 (f k))) : Row w a (lsI len f).length (intA (lsI len f)) := by
  rw [lsI_len]
  exact h.congr fun k hk => by unfold intA lsI; simp [List.getD_eq_getElem?_getD, hk]
def lsB (len : Nat) (f : Nat → Bool) : List Bool := (List.range len).map f
theorem lsB_len (len : Nat) (f : Nat → Bool) : (lsB len f).length = len := by simp [lsB]
theorem lsB_row {w : World} {a : Option Addr} {len : Nat} {f : Nat → Bool} (h : Row w a len (fun k => .bool (f k))) : Row w a (lsB len f).length (boolA (lsB len f)) := by
  rw [lsB_len]
  exact h.congr fun k hk => by unfold boolA lsB; simp [List.getD_eq_getElem?_getD, hk]
/-- what holds while pieces are put behind each other -/
structure LsI (w : World) (fn : Nat) (c : Int) (S : DSt) (d : List Nat) (n : Nat) (wr : World) : Prop where
  one : OneF S fn 1048576 c
  fb : S.fb fn = d
  len : d.length ≤ n
  byte : ∀ x ∈ d, x < 256
  av : DiskAv w.heap.size wr (w.heap.size + 2) S (fun b => b < w.heap.size)
  below : Below w.heap.size w wr
/-- .. and names last -/
structure LtI (w : World) (fn : Nat) (c : Int) (S : DSt) (s t : List Nat) (n : Nat) (wr : World) : Prop where
  ls : LsI w fn c S (s ++ t) n wr
  last : LastF S fn
  fl : s.length ≤ S.fl fn
theorem mask63 (x : Int) : ∃ L : Nat, bits .and .i64 x 63 = (L : Int) ∧ L < 64 := by
  have en : bits .and .i64 x 63 = x % 64 := i64_mask x 6 (by omega)
  exact ⟨(x % 64).toNat, by rw [en]; omega, by omega⟩
set_option maxRecDepth 100000 in
set_option maxHeartbeats 4000000 in
theorem dlasts_walk (w : World) (a : Option Addr) (len cap : Nat) (f : Nat → Int) (hl : len ≤ maxLen) (hr : Row w a len (fun k => .int .i64 (f k)) ∧ ∀ k, k < len → (Lit.int .i64 (f k)).wf = true)
    (a1 : Option Addr) (len1 cap1 : Nat) (f1 : Nat → Int) (hl1 : len1 ≤ maxLen) (hr1 : Row w a1 len1 (fun k => .int .i64 (f1 k)) ∧ ∀ k, k < len1 → (Lit.int .i64 (f1 k)).wf = true)
    (a2 : Option Addr) (len2 cap2 : Nat) (f2 : Nat → Int) (hl2 : len2 ≤ maxLen) (hc2 : len2 ≤ cap2) (hr2 : Row w a2 len2 (fun k => .int .i64 (f2 k)) ∧ ∀ k, k < len2 → (Lit.int .i64 (f2 k)).wf = true)
    (a3 : Option Addr) (len3 cap3 : Nat) (f3 : Nat → Bool) (hl3 : len3 ≤ maxLen) (hr3 : Row w a3 len3 (fun k => .bool (f3 k))) :
    Calls Try.prog 5 #[.slice a len cap, .slice a1 len1 cap1, .slice a2 len2 cap2, .slice a3 len3 cap3] w fun e w' => e = .returned (.bool true) ∧ Below w.heap.size w w' := by
  have hix := run_ix (P := Try.prog) 34 (by kernel_rfl) size_int4 a len cap hr.1.at_ .i64
  have hix1 := run_ix (P := Try.prog) 34 (by kernel_rfl) size_int4 a1 len1 cap1 hr1.1.at_ .i64
  have HIX := Lib.hid hix
  have HIX1 := Lib.hid hix1
  have HR := Lib.hid hr.1
  have HR1 := Lib.hid hr1.1
  have HR2 := Lib.hid (lsI_row hr2.1)
  have HR3 := Lib.hid (lsB_row hr3)
  have HC2 : Hid ((lsI len2 f2).length ≤ cap2) := by show _ ≤ _; rw [lsI_len]; exact hc2
  have HC3 : Hid ((lsB len3 f3).length ≤ maxLen) := by show _ ≤ _; rw [lsB_len]; exact hl3
  have HE2 := Lib.hid (lsI_len len2 f2)
  have HE3 := Lib.hid (lsB_len len3 f3)
  generalize lsI len2 f2 = fs at *
  generalize lsB len3 f3 = bs at *
  have he2 := HE2.out
  have he3 := HE3.out
  subst he2 he3
  clear HE2 HE3
  unfold maxLen at hl hl1
  clear hr hr1 hr2 hr3 hix hix1 hc2 hl2 hl3
  have HN := Lib.hid (dnew_any w 1048576 (by omega))
  have HB1 := Lib.hid (newW_below w 1048576)
  have HA1 := Lib.hid (DiskAv.avB (new_at w 1048576))
  go_enter Try.func5, Try.ntmps5
  go_wp2_with fail
  refine HN.out.mono ?_
  rintro e w1 ⟨rfl, hw1⟩
  rw [← hw1] at HB1 HA1
  clear hw1 HN
  go_wp2_with fail
  refine (create_at w.heap.size w1 (w.heap.size + 2) (newS 1048576) _ HA1.out (fun b h => Nat.lt_of_lt_of_le h HB1.out.size) (newS_lv 1048576 (by omega)) HB1.out.size (by show (0 : Int) < 100000; omega) sF okN_f rfl (by show 0 < 64; omega)).mono ?_
  rintro e w3 ⟨fn, -, rfl, hlv, hav, hb3, -⟩
  have HI0 : Hid (LsI w fn (1 + ((0 : Nat) : Int)) (createS (newS 1048576) sF fn) [] (64 * 0) w3) := ⟨OneF.create hlv, createS_fb _ _ _, Nat.le_refl 0, by simp, hav, HB1.out.trans hb3⟩
  clear hlv hav hb3 HA1 HB1
  go_upto_block 0 with fail
  go_cut [10] (fun s10 wx => ∃ (S : DSt) (d : List Nat), s10 = .string (sB d) ∧ LsI w fn 21 S d 1280 wx)
  case first =>
    go_wp2_with fail
    go_loopw [10, 12, 13] (fun v10 v12 _ wr => ∃ (k : Nat) (S : DSt) (d : List Nat), k ≤ len ∧ k ≤ 20 ∧ v12 = .int .i64 (k : Int) ∧ v10 = .string (sB d) ∧ LsI w fn (1 + (k : Int)) S d (64 * k) wr) (fun _ v12 _ _ => 20 - (intOf v12).toNat)
    case atStart => exact ⟨0, _, _, Nat.zero_le _, Nat.zero_le _, rfl, by rw [sB_nil], HI0.out⟩
    case round =>
      obtain ⟨k, S, d, hk, hk20, rfl, rfl, hls⟩ := hrel
      have HLS := Lib.hid hls
      clear hls HI0
      by_cases hlt : k < len ∧ k < 20
      · obtain ⟨hlt, hk2⟩ := hlt
        have HRX := HR
        have HIXX := HIX
        obtain ⟨ff, hff⟩ : ∃ ff, ff = f := ⟨_, rfl⟩
        subst hff
        obtain ⟨ln, hln⟩ : ∃ ln, ln = len := ⟨_, rfl⟩
        subst hln
        have hx := (HRX.out.kept HLS.out.below).cell k hlt
        have hxk := fun W => HIXX.out W k hlt
        generalize hfx : ff k = x at hx
        clear hfx
        obtain ⟨L, hL, hL2⟩ := mask63 x
        have t20 : (k : Int) < 20 := by omega
        have tln : (k : Int) < (ln : Int) := by omega
        go_wp2_with fail
        refine (bytes4_any _ k L (by omega) (by omega)).mono ?_
        rintro e w2 ⟨rfl, hb2⟩
        have HPB := Lib.hid (bysL_byte k L)
        have HPL := Lib.hid (bysL_len k L)
        generalize bysL k L = p at *
        obtain ⟨cap', w4, hcv, -, hrow, hb4, -⟩ := str_bytes w2 p HPB.out
        have hbw := HLS.out.below.size
        have hbd := HLS.out.av.bd_lt
        have hs2 := hb2.size
        have hs4 := hb4.size
        have hcl := HLS.out.one.calls
        have hfl := HLS.out.len
        have hq := HLS.out.one.quota
        have hfb := HLS.out.fb
        have hu := HLS.out.one.used
        have HAP := Lib.hid (append_at w.heap.size w4 (w.heap.size + 2) S (fun b => b < w.heap.size) ((HLS.out.av.below hb2).below hb4) (fun b h => by change b < w.heap.size at h; omega) HLS.out.one.lv (by omega) (by omega) sF okN_f fn HLS.out.one.file (some ⟨w2.heap.size, 0, none⟩) cap' p hrow (.inr (by show w2.heap.size ≠ _; omega)) HPB.out
          (by rw [hfb, HPL.out]; omega) (by rw [hu, hfb, hq, HPL.out]; omega))
        have HB4 : Hid (Below w.heap.size w w4) := (HLS.out.below.trans (hb2.mono hbw)).trans (hb4.mono (by omega))
        have hz1 : (sB d).size ≤ 2560 := by rw [sB_size]; exact (by have := HLS.out.len; omega)
        have hz2 : (sB p).size ≤ 64 := by rw [sB_size, HPL.out]; omega
        clear hL hb2 hrow hb4 hbw hbd hs2 hs4 hcl hq hu hx hxk t20 tln
        go_wp2_with fail
        clear hcv
        refine HAP.out.mono ?_
        rintro e w5 ⟨rfl, hlv, hav, hb5, -⟩
        have HLV := Lib.hid hlv
        have HAV := Lib.hid hav
        have HB5 : Hid (Below w.heap.size w w5) := HB4.out.trans hb5
        have HFL := Lib.hid hfl
        have HFB := Lib.hid hfb
        clear hlv hav hb5 hfl hfb HAP HB4
        go_wp2_with fail
        have HI2 : Hid (LsI w fn (1 + ((k + 1 : Nat) : Int)) (appendS S fn p) (d ++ p) (64 * (k + 1)) w5) := by
          have h1 := HLS.out.one.append HLV.out
          refine ⟨⟨h1.lv, h1.names, h1.files, h1.quota, by have := h1.calls; omega⟩, by rw [appendS_fb, HFB.out], by rw [List.length_append, HPL.out]; have := HFL.out; omega, fun x hx => ?_, HAV.out, HB5.out⟩
          rcases List.mem_append.1 hx with h | h
          · exact HLS.out.byte x h
          · exact HPB.out x h
        clear hz1 hz2
        go_roundw
        case rel => exact ⟨k + 1, appendS S fn p, d ++ p, by omega, by omega, by go_num, by rw [sB_app], HI2.out⟩
        case measure => simp [intOf]; omega
      · have HF : Hid (LsI w fn 21 S d 1280 wr) := by
          have h1 := HLS.out
          exact ⟨⟨h1.one.lv, h1.one.names, h1.one.files, h1.one.quota, by have := h1.one.calls; omega⟩, h1.fb, by have := h1.len; omega, h1.byte, h1.av, h1.below⟩
        by_cases h20 : k = 20
        · subst h20
          by_cases hln : 20 < len
          · have t1 : decide ((20 : Int) < 20) = false := by decide
            have t2 : (20 : Int) < (len : Int) := by omega
            clear hlt hk hk20 HLS
            go_wp2_with fail
            go_meet
            exact ⟨S, d, rfl, HF.out⟩
          · obtain rfl : len = 20 := by omega
            clear hlt hk hk20 HLS
            go_wp2_with fail
            go_meet
            exact ⟨S, d, rfl, HF.out⟩
        · obtain rfl : k = len := by omega
          have t1 : decide ((k : Int) < (k : Int)) = false := by simp
          clear hlt hk hk20 HLS h20
          go_wp2_with fail
          go_meet
          exact ⟨S, d, rfl, HF.out⟩
  case rest =>
    obtain ⟨S, d, rfl, hls⟩ := hcut
    have HLS := Lib.hid hls
    clear hls HI0
    have hbw := HLS.out.below.size
    have hcl := HLS.out.one.calls
    have HSY := Lib.hid (sync_at w.heap.size wc (w.heap.size + 2) S (fun b => b < w.heap.size) HLS.out.av (fun b h => by change b < w.heap.size at h; omega) HLS.out.one.lv hbw (by omega) sF okN_f fn HLS.out.one.file)
    clear hbw hcl
    go_wp2_with fail
    refine HSY.out.mono ?_
    rintro e w5 ⟨rfl, hlv, hav, hb5, -⟩
    have HB5 : Hid (Below w.heap.size w w5) := HLS.out.below.trans hb5
    have hbw := HB5.out.size
    have h1 := HLS.out.one.sync hlv
    have hcl := h1.calls
    have HSD := Lib.hid (syncdir_at w.heap.size w5 (w.heap.size + 2) _ (fun b => b < w.heap.size) hav (fun b h => by change b < w.heap.size at h; omega) hlv hbw (by omega))
    have HO1 := Lib.hid h1
    clear hlv hav hb5 HSY hbw h1 hcl
    go_wp2_with fail
    refine HSD.out.mono ?_
    rintro e w6 ⟨rfl, hlv, hav, hb6, -⟩
    have HI0 : Hid (LtI w fn (23 + ((0 : Nat) : Int)) (syncdirS (syncS S fn)) d [] (1280 + 64 * 0) w6) := by
      have h1 := HO1.out.syncdir hlv
      refine ⟨⟨⟨h1.lv, h1.names, h1.files, h1.quota, by have := h1.calls; omega⟩, ?_, ?_, ?_, hav, HB5.out.trans hb6⟩, ⟨HO1.out.names, rfl⟩, ?_⟩
      · rw [List.append_nil]; exact HLS.out.fb
      · rw [List.append_nil]; have := HLS.out.len; omega
      · rw [List.append_nil]; exact HLS.out.byte
      · show d.length ≤ updN S.fl fn (S.fb fn).length fn
        rw [updN_same, HLS.out.fb]
        exact Nat.le_refl _
    have HDB := Lib.hid HLS.out.byte
    have HDN := Lib.hid HLS.out.len
    clear hlv hav hb6 HSD HO1 HB5 HLS
    go_upto_block 2 with fail
    go_cut [11] (fun s11 wx => ∃ (S : DSt) (t : List Nat), s11 = .string (sB t) ∧ LtI w fn 43 S d t 2560 wx)
    case first =>
      go_wp2_with fail
      go_loopw [11, 14, 15] (fun v11 v14 _ wr => ∃ (k : Nat) (S : DSt) (t : List Nat), k ≤ len1 ∧ k ≤ 20 ∧ v14 = .int .i64 (k : Int) ∧ v11 = .string (sB t) ∧ LtI w fn (23 + (k : Int)) S d t (1280 + 64 * k) wr) (fun _ v14 _ _ => 20 - (intOf v14).toNat)
      case atStart => exact ⟨0, _, _, Nat.zero_le _, Nat.zero_le _, rfl, by rw [sB_nil], HI0.out⟩
      case round =>
        obtain ⟨k, S, t, hk, hk20, rfl, rfl, hlt9⟩ := hrel
        have HLT := Lib.hid hlt9
        clear hlt9 HI0
        by_cases hlt : k < len1 ∧ k < 20
        · obtain ⟨hlt, hk2⟩ := hlt
          have HRX := HR1
          have HIXX := HIX1
          have HLS := Lib.hid HLT.out.ls
          obtain ⟨ff, hff⟩ : ∃ ff, ff = f1 := ⟨_, rfl⟩
          subst hff
          obtain ⟨ln, hln⟩ : ∃ ln, ln = len1 := ⟨_, rfl⟩
          subst hln
          obtain ⟨kk, hkk⟩ : ∃ kk, kk = 100 + k := ⟨_, rfl⟩
          have y1 : IntKind.i64.wrap (100 + (k : Int)) = (kk : Int) := by rw [show (100 : Int) + (k : Int) = (kk : Int) by omega]; exact IntWalk.i64_in _ (by omega)
          have hkb : kk ≤ 1000 := by omega
          clear hkk
          have hx := (HRX.out.kept HLS.out.below).cell k hlt
          have hxk := fun W => HIXX.out W k hlt
          generalize hfx : ff k = x at hx
          clear hfx
          obtain ⟨L, hL, hL2⟩ := mask63 x
          have t20 : (k : Int) < 20 := by omega
          have tln : (k : Int) < (ln : Int) := by omega
          go_wp2_with fail
          refine (bytes4_any _ kk L (by omega) (by omega)).mono ?_
          rintro e w2 ⟨rfl, hb2⟩
          have HPB := Lib.hid (bysL_byte kk L)
          have HPL := Lib.hid (bysL_len kk L)
          generalize bysL kk L = p at *
          obtain ⟨cap', w4, hcv, -, hrow, hb4, -⟩ := str_bytes w2 p HPB.out
          have hbw := HLS.out.below.size
          have hbd := HLS.out.av.bd_lt
          have hs2 := hb2.size
          have hs4 := hb4.size
          have hcl := HLS.out.one.calls
          have hfl := HLS.out.len
          have hq := HLS.out.one.quota
          have hfb := HLS.out.fb
          have hu := HLS.out.one.used
          have HAP := Lib.hid (append_at w.heap.size w4 (w.heap.size + 2) S (fun b => b < w.heap.size) ((HLS.out.av.below hb2).below hb4) (fun b h => by change b < w.heap.size at h; omega) HLS.out.one.lv (by omega) (by omega) sF okN_f fn HLS.out.one.file (some ⟨w2.heap.size, 0, none⟩) cap' p hrow (.inr (by show w2.heap.size ≠ _; omega)) HPB.out
            (by rw [hfb, HPL.out]; omega) (by rw [hu, hfb, hq, HPL.out]; omega))
          have HB4 : Hid (Below w.heap.size w w4) := (HLS.out.below.trans (hb2.mono hbw)).trans (hb4.mono (by omega))
          have hz1 : (sB t).size ≤ 2560 := by rw [sB_size]; exact (by have := HLS.out.len; rw [List.length_append] at this; omega)
          have hz2 : (sB p).size ≤ 64 := by rw [sB_size, HPL.out]; omega
          clear hL hb2 hrow hb4 hbw hbd hs2 hs4 hcl hq hu hx hxk t20 tln
          go_wp2_with fail
          clear hcv
          refine HAP.out.mono ?_
          rintro e w5 ⟨rfl, hlv, hav, hb5, -⟩
          have HLV := Lib.hid hlv
          have HAV := Lib.hid hav
          have HB5 : Hid (Below w.heap.size w w5) := HB4.out.trans hb5
          have HFL := Lib.hid hfl
          have HFB := Lib.hid hfb
          clear hlv hav hb5 hfl hfb HAP HB4
          go_wp2_with fail
          have HI2 : Hid (LtI w fn (23 + ((k + 1 : Nat) : Int)) (appendS S fn p) d (t ++ p) (1280 + 64 * (k + 1)) w5) := by
            have h1 := HLS.out.one.append HLV.out
            refine ⟨⟨⟨h1.lv, h1.names, h1.files, h1.quota, by have := h1.calls; omega⟩, by rw [appendS_fb, HFB.out, List.append_assoc], by rw [← List.append_assoc, List.length_append, HPL.out]; have := HFL.out; omega, fun x hx => ?_, HAV.out, HB5.out⟩, ⟨HLT.out.last.last, HLT.out.last.turns⟩, HLT.out.fl⟩
            rw [← List.append_assoc] at hx
            rcases List.mem_append.1 hx with h | h
            · exact HLS.out.byte x h
            · exact HPB.out x h
          clear hz1 hz2 y1 hkb
          go_roundw
          case rel => exact ⟨k + 1, appendS S fn p, t ++ p, by omega, by omega, by go_num, by rw [sB_app], HI2.out⟩
          case measure => simp [intOf]; omega
        · have HF : Hid (LtI w fn 43 S d t 2560 wr) := by
            have h1 := HLT.out.ls
            exact ⟨⟨⟨h1.one.lv, h1.one.names, h1.one.files, h1.one.quota, by have := h1.one.calls; omega⟩, h1.fb, by have := h1.len; omega, h1.byte, h1.av, h1.below⟩, HLT.out.last, HLT.out.fl⟩
          by_cases h20 : k = 20
          · subst h20
            by_cases hln : 20 < len1
            · have t1 : decide ((20 : Int) < 20) = false := by decide
              have t2 : (20 : Int) < (len1 : Int) := by omega
              clear hlt hk hk20 HLT
              go_wp2_with fail
              go_meet
              exact ⟨S, t, rfl, HF.out⟩
            · obtain rfl : len1 = 20 := by omega
              clear hlt hk hk20 HLT
              go_wp2_with fail
              go_meet
              exact ⟨S, t, rfl, HF.out⟩
          · obtain rfl : k = len1 := by omega
            have t1 : decide ((k : Int) < (k : Int)) = false := by simp
            clear hlt hk hk20 HLT h20
            go_wp2_with fail
            go_meet
            exact ⟨S, t, rfl, HF.out⟩
    case rest =>
      obtain ⟨S, t, rfl, hls⟩ := hcut
      have HLT := Lib.hid hls
      clear hls HI0
      have HFA : Hid (fs.length = 0 ∨ bOf a2 < w.heap.size) := by
        rcases Nat.eq_zero_or_pos fs.length with h | h
        · exact .inl h
        · exact .inr (HR2.out.lt h)
      have HFB2 : Hid (bs.length = 0 ∨ bOf a3 < w.heap.size) := by
        rcases Nat.eq_zero_or_pos bs.length with h | h
        · exact .inl h
        · exact .inr (HR3.out.lt h)
      clear HIX HIX1 HR HR1
      go_wp2_with fail
      go_loopw [11, 16, 17, 18] (fun v11 v16 _ _ wr => ∃ (k : Nat) (S : DSt) (t : List Nat), k ≤ 3 ∧ v16 = .int .i64 (k : Int) ∧ v11 = .string (sB t) ∧ LtI w fn 43 S d t 2560 wr) (fun _ v16 _ _ _ => 3 - (intOf v16).toNat)
      case atStart => exact ⟨0, S, t, Nat.zero_le _, rfl, rfl, HLT.out⟩
      case round =>
        clear HLT S t
        obtain ⟨k, S, t, hk, rfl, rfl, hlt9⟩ := hrel
        have HLT := Lib.hid hlt9
        clear hlt9
        by_cases hlt : k < 3
        · have t3 : (k : Int) < 3 := by omega
          have hav := HLT.out.ls.av
          have hbl := HLT.out.ls.below
          have hbw := hbl.size
          have HCR := Lib.hid (crash_any w.heap.size wr (w.heap.size + 2) S (fun b => b < w.heap.size) hav (fun b h => by change b < w.heap.size at h; omega) HLT.out.ls.one.lv.ok (by rw [HLT.out.ls.one.files]; exact Nat.one_pos) hbw fs a2 cap2 (HR2.out.kept hbl) ⟨HC2.out, trivial⟩ HFA.out bs a3 cap3 (HR3.out.kept hbl) HC3.out HFB2.out)
          have HTY := Lib.hid hav.tidy.2
          clear hav hbl hbw
          go_wp2_with fail
          refine HCR.out.mono ?_
          rintro e w7 ⟨rfl, hav, hb7, -⟩
          have hlv := crash_lv HLT.out.ls.one.lv fs bs HTY.out hav.canon.1
          obtain ⟨h1, h2, h3, j, j1, j2, j3⟩ := crash_one HLT.out.ls.one HLT.out.last fs bs hlv
          have hfl := HLT.out.fl
          rw [HLT.out.ls.fb] at j2 j3
          have hdl : d.length ≤ j := by omega
          have hfb : (crashS S fs bs).fb fn = d ++ t.take (j - d.length) := by
            rw [j3, List.take_append, List.take_of_length_le hdl]
          have hjt : j - d.length ≤ t.length := by rw [List.length_append] at j2; omega
          have htk : (t.take (j - d.length)).length = j - d.length := by rw [List.length_take]; omega
          have htn := HLT.out.ls.len
          rw [List.length_append] at htn
          have HTS : Hid (sB (d ++ t.take (j - d.length)) = (sB d ++ sB t).extract 0 j) := by
            show _ = _
            rw [sB_app, sB_take, List.take_append, List.take_of_length_le hdl]
          have HTT : Hid ((sB t).extract 0 (j - d.length) = sB (t.take (j - d.length))) := by show _ = _; rw [sB_take]
          have HBT : Hid (∀ x ∈ d ++ t, x < 256) := HLT.out.ls.byte
          have HSZ : Hid ((sB t).size = t.length ∧ (sB d).size = d.length) := ⟨sB_size t, sB_size d⟩
          obtain ⟨m, hm⟩ : ∃ m, m = j - d.length := ⟨_, rfl⟩
          rw [← hm] at hfb hjt htk HTS HTT
          have hjm : j = d.length + m := by omega
          rw [hjm] at HTS
          have HTT2 : Hid (LtI w fn 43 (crashS S fs bs) d (t.take m) 2560 w7) :=
            ⟨⟨h1, hfb, by rw [List.length_append, htk]; omega, fun x hx => HBT.out x (by
              rcases List.mem_append.1 hx with h | h
              · exact List.mem_append_left _ h
              · exact List.mem_append_right _ (List.mem_of_mem_take h)), hav, HLT.out.ls.below.trans hb7⟩, h2, by rw [h3, hfb, List.length_append]; omega⟩
          have hrd := read_any w.heap.size w7 (w.heap.size + 2) _ hav.at hlv.ok sF (by decide) 0 1048576 (by omega)
          unfold ReadPost at hrd
          rw [readF_yes okN_f hlv.dead h1.file, if_neg (by omega), hfb, show pieceL (d ++ t.take m) (0 : Int).toNat (1048576 : Int).toNat = d ++ t.take m from pieceL_all _ _ (by rw [List.length_append, htk]; show _ ≤ 1048576; omega)] at hrd
          have hus := used_any w.heap.size
          have HUS : Hid (∀ W, Below w7.heap.size w7 W → Calls Try.prog 24 #[.pointer (some ⟨w.heap.size + 2, 0, none⟩)] W fun e w' => e = .returned (.int .i64 ((d.length + m : Nat) : Int)) ∧ Below W.heap.size W w') := fun W hW => by
            have := used_any w.heap.size W (w.heap.size + 2) _ (hav.below hW).at hlv.ok
            rw [h1.used, hfb, List.length_append, htk] at this
            exact this
          have HRD := Lib.hid hrd
          have HTK := Lib.hid htk
          clear hav hb7 hlv h1 h2 h3 j1 j2 j3 hfl hdl hfb hm hjm hrd hus HCR HTY htk HLT HBT
          have HLN : Hid ((d ++ t.take m).length = d.length + m) := by show _ = _; rw [List.length_append, HTK.out]
          go_wp2_with fail
          refine HRD.out.mono ?_
          rintro e w8 ⟨ax, cx, rfl, hrx, hb8⟩
          have hcv8 : ∀ q, (convert 28 9 (.slice ax (d ++ t.take m).length cx)).run Try.prog (w8.drewN q) = .ok (.string (sB (d ++ t.take m))) (w8.drewN q) := fun q => conv_str _ ax _ cx (hrx.drewN q)
          rw [HTS.out] at hcv8
          rw [HLN.out] at hcv8 ⊢
          have HB8 := Lib.hid hb8
          have hsd := HSZ.out.2
          have hst := HSZ.out.1
          have HST := Lib.hid (show LtI w fn 43 (crashS S fs bs) d (t.take m) 2560 w8 from ⟨⟨HTT2.out.ls.one, HTT2.out.ls.fb, HTT2.out.ls.len, HTT2.out.ls.byte, HTT2.out.ls.av.below hb8, HTT2.out.ls.below.trans (hb8.mono HTT2.out.ls.below.size)⟩, HTT2.out.last, HTT2.out.fl⟩)
          have hcu6 := cut_toS (sB d ++ sB t) (d.length + m) (by rw [ByteArray.size_append, hsd, hst]; omega)
          have hcu8 := cut_toS (sB t) m (by rw [hst]; omega)
          rw [HTT.out] at hcu8
          have hsm : (sB (t.take m)).size = m := by rw [sB_size, HTK.out]
          clear hrx hb8 HRD HSZ HTS HTT HTK HLN
          generalize (sB d ++ sB t).extract 0 (d.length + m) = sx at *
          generalize hst' : sB (t.take m) = st' at *
          have HST' := Lib.hid hst'
          clear hst'
          obtain ⟨N, hN⟩ : ∃ N, N = d.length + m := ⟨_, rfl⟩
          rw [← hN] at hcv8 hcu6 HUS ⊢
          generalize hDl : d.length = D at *
          generalize hTl : t.length = T at *
          obtain ⟨DT, hDT⟩ : ∃ DT, DT = D + T := ⟨_, rfl⟩
          have t4 : decide ((N : Int) < (D : Int)) = false := by simp; omega
          have t4n : decide (N < D) = false := by simp; omega
          have y4 : IntKind.i64.wrap ((D : Int) + (T : Int)) = (DT : Int) := by rw [show (D : Int) + (T : Int) = (DT : Int) by omega]; exact IntWalk.i64_in _ (by omega)
          have t5 : decide ((DT : Int) < (N : Int)) = false := by simp; omega
          have t5n : decide (DT < N) = false := by simp; omega
          have y5 : IntKind.i64.wrap ((N : Int) - (D : Int)) = (m : Int) := by rw [show (N : Int) - (D : Int) = (m : Int) by omega]; exact IntWalk.i64_in _ (by omega)
          have y6 : IntKind.i64.wrap ((D : Int) + (m : Int)) = (N : Int) := by rw [show (D : Int) + (m : Int) = (N : Int) by omega]; exact IntWalk.i64_in _ (by omega)
          have hz3 : (sB d).size ≤ 2560 := by rw [hsd]; omega
          have hz4 : (sB t).size ≤ 2560 := by rw [hst]; omega
          generalize hsdd : sB d = sd at *
          generalize hstt : sB t = stt at *
          have HSDD := Lib.hid hsdd
          have HSTT := Lib.hid hstt
          have HDl := Lib.hid hDl
          clear hN hDT hDl hTl htn hjt hsdd hstt
          go_wp2_with fail
          go_quiet (fail)
          clear hcv8 hcu6 y4 t4 t4n t5 t5n hz3 hz4
          generalize hw9 : w8.drewN nq = w9 at *
          have HST9 : Hid (LtI w fn 43 (crashS S fs bs) d (t.take m) 2560 w9) := by
            rw [← hw9]
            exact ⟨⟨HST.out.ls.one, HST.out.ls.fb, HST.out.ls.len, HST.out.ls.byte, HST.out.ls.av.drewN _, below_drewN HST.out.ls.below _⟩, HST.out.last, HST.out.fl⟩
          have HU9 : Hid (Calls Try.prog 24 #[.pointer (some ⟨w.heap.size + 2, 0, none⟩)] w9 fun e w' => e = .returned (.int .i64 (N : Int)) ∧ Below w9.heap.size w9 w') := by
            rw [← hw9]
            exact HUS.out _ (below_drewN HB8.out _)
          clear hw9 HST HUS HB8
          rcases Nat.eq_zero_or_pos k with hk0 | hk0
          · subst hk0
            go_wp2_with fail
            obtain rfl := HSDD.out
            go_roundw
            case rel => exact ⟨1, _, t.take m, by omega, by go_num, by rw [HST'.out], HST9.out⟩
            case measure => simp [intOf]
          · have g0 : (0 : Int) < (k : Int) := by omega
            go_wp2_with fail
            refine HU9.out.mono ?_
            rintro e w10 ⟨rfl, hb10⟩
            have HS10 : Hid (LtI w fn 43 (crashS S fs bs) d (t.take m) 2560 w10) :=
              ⟨⟨HST9.out.ls.one, HST9.out.ls.fb, HST9.out.ls.len, HST9.out.ls.byte, HST9.out.ls.av.below hb10, HST9.out.ls.below.trans (hb10.mono HST9.out.ls.below.size)⟩, HST9.out.last, HST9.out.fl⟩
            clear hb10 HU9 HST9
            go_wp2_with fail
            obtain rfl := HSDD.out
            go_roundw
            case rel => exact ⟨k + 1, _, t.take m, by omega, by go_num, by rw [HST'.out], HS10.out⟩
            case measure => simp [intOf]; omega
        · obtain rfl : k = 3 := by omega
          have HB9 := Lib.hid HLT.out.ls.below
          clear hlt hk HLT
          go_wp2_with fail
          refine (awake4_any _).mono ?_
          rintro e w8 ⟨rfl, hb8⟩
          have HB8 : Hid (Below w.heap.size w w8) := HB9.out.trans (hb8.mono HB9.out.size)
          clear hb8
          go_wp2
          go_ret
          exact ⟨rfl, HB8.out⟩
end Go.Proofs.Ytelndbjjkhlacaa
