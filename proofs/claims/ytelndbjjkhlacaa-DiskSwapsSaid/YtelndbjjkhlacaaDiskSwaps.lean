/-
  The statement DiskSwaps: its walk.
-/
import Derived.Test.YtelndbjjkhlacaaDkTwo
import Derived.Deep.RegionHeld3
namespace Go.Proofs.Ytelndbjjkhlacaa
open Go.RowKit Go.Maps

abbrev sM : ByteArray := ⟨#[109]⟩
abbrev sT : ByteArray := ⟨#[116]⟩
theorem okN_m : okN sM = true := by decide
theorem okN_t : okN sT = true := by decide
theorem mt_ne : sM ≠ sT := by decide
theorem tm_ne : sT ≠ sM := by decide
theorem tm_l : (sT.toList == sM.toList) = false := by rw [ByteArray.toList_mk, ByteArray.toList_mk]; decide
theorem two_mt (f g : Nat) : (DataW.map [(kl sM, enc f)] : DT).put (kl sT) (enc g) = .map [(kl sM, enc f), (kl sT, enc g)] := by rfl
theorem two_delT (f g : Nat) : (DataW.map [(kl sM, enc f), (kl sT, enc g)] : DT).del (kl sT) = .map [(kl sM, enc f)] := by rfl
theorem two_overM (f g : Nat) : (DataW.map [(kl sM, enc f)] : DT).put (kl sM) (enc g) = .map [(kl sM, enc g)] := by rfl
theorem mask255 (x : Int) : ∃ L : Nat, bits .and .i64 x 255 = (L : Int) ∧ L < 256 := by
  have en : bits .and .i64 x 255 = x % 256 := i64_mask x 8 (by omega)
  exact ⟨(x % 256).toNat, by rw [en]; omega, by omega⟩
def lsI (len : Nat) (f : Nat → Int) : List Int := (List.range len).map f
theorem lsI_len (len : Nat) (f : Nat → Int) : (lsI len f).length = len := by simp [lsI]
theorem lsI_row {w : World} {a : Option Addr} {len : Nat} {f : Nat → Int} (h : Row w a len (fun k => .int .i64 (f k))) : Row w a (lsI len f).length (intA (lsI len f)) := by
  rw [lsI_len]
  exact h.congr fun k hk => by unfold intA lsI; simp [List.getD_eq_getElem?_getD, hk]
def lsB (len : Nat) (f : Nat → Bool) : List Bool := (List.range len).map f
theorem lsB_len (len : Nat) (f : Nat → Bool) : (lsB len f).length = len := by simp [lsB]
theorem lsB_row {w : World} {a : Option Addr} {len : Nat} {f : Nat → Bool} (h : Row w a len (fun k => .bool (f k))) : Row w a (lsB len f).length (boolA (lsB len f)) := by
  rw [lsB_len]
  exact h.congr fun k hk => by unfold boolA lsB; simp [List.getD_eq_getElem?_getD, hk]
theorem unary_not : ∀ (x : Bool) (w : World), (Op.unary .not (.bool x)).run Try.prog w = .ok (.bool (!x)) w := fun _ _ => rfl
/-- ahead of the crash: two files, both of which last; the name turned lasts, or not -/
structure SwI (w : World) (f g : Nat) (S : DSt) (p q : List Nat) (sync : Bool) (wr : World) : Prop where
  lv : Lv S
  files : S.files = [f, g]
  fb : S.fb f = p ∧ S.fb g = q
  fl : S.fl f = p.length ∧ S.fl g = q.length
  last : (sync = true ∧ S.last = .map [(kl sM, enc g)] ∧ S.turns = []) ∨ (sync = false ∧ S.last = .map [(kl sM, enc f), (kl sT, enc g)] ∧ S.turns = [⟨1, sT, sM, none⟩])
  av : DiskAv w.heap.size wr (w.heap.size + 2) S (fun b => b < w.heap.size)
  below : Below w.heap.size w wr
theorem crash_fb {S : DSt} (h : DOk S) (fs : List Int) (bs : List Bool) {f : Nat} (hf : f ∈ S.files) (hl : S.fl f = (S.fb f).length) : (crashS S fs bs).fb f = S.fb f := by
  obtain ⟨k, h1, h2, h3⟩ := crash_len S h fs hf (S.files.filter (openB S))
  show truncL S.fl (S.files.filter (openB S)) fs S.fb f = _
  rw [h3, List.take_of_length_le (by omega)]
/-- behind it: the newer file alone under the name, or both as they were -/
theorem swap_crash {w : World} {f g : Nat} {S : DSt} {p q : List Nat} {sync : Bool} {wr : World} (h : SwI w f g S p q sync wr) (fs : List Int) (bs : List Bool) :
    (crashS S fs bs).fb f = p ∧ (crashS S fs bs).fb g = q ∧ ((crashS S fs bs).names = .map [(kl sM, enc g)] ∨ (sync = false ∧ (crashS S fs bs).names = .map [(kl sM, enc f), (kl sT, enc g)])) := by
  refine ⟨(crash_fb h.lv.ok fs bs (by rw [h.files]; simp) (by rw [h.fl.1, h.fb.1])).trans h.fb.1, (crash_fb h.lv.ok fs bs (by rw [h.files]; simp) (by rw [h.fl.2, h.fb.2])).trans h.fb.2, ?_⟩
  have hn : (crashS S fs bs).names = nowD S.last S.turns bs := rfl
  rw [hn]
  rcases h.last with ⟨_, hl, ht⟩ | ⟨hs, hl, ht⟩
  · rw [ht, nowD_nil]; exact .inl hl
  · rw [ht, hl]
    cases bs with
    | nil =>
      refine .inl ?_
      show leadD (.map [(kl sM, enc f), (kl sT, enc g)]) ⟨1, sT, sM, none⟩ = _
      unfold leadD
      rw [if_neg (show ¬ (1 : Int) = 0 by omega), if_pos rfl]
      have hft : fileOf (.map [(kl sM, enc f), (kl sT, enc g)]) sT = some g := by rw [← two_mt]; exact fileOf_put_same ⟨_, rfl⟩ sT g
      simp only [hft]
      rw [two_delT, two_overM]
    | cons b bs =>
      cases b with
      | true =>
        refine .inl ?_
        show nowD (leadD (.map [(kl sM, enc f), (kl sT, enc g)]) ⟨1, sT, sM, none⟩) [] bs = _
        rw [nowD_nil]
        unfold leadD
        rw [if_neg (show ¬ (1 : Int) = 0 by omega), if_pos rfl]
        have hft : fileOf (.map [(kl sM, enc f), (kl sT, enc g)]) sT = some g := by rw [← two_mt]; exact fileOf_put_same ⟨_, rfl⟩ sT g
        simp only [hft]
        rw [two_delT, two_overM]
      | false =>
        refine .inr ⟨hs, ?_⟩
        show nowD (.map [(kl sM, enc f), (kl sT, enc g)]) [] bs = _
        rw [nowD_nil]
set_option maxRecDepth 100000 in
set_option maxHeartbeats 2000000 in
theorem dswaps_walk (w : World) (a : Int) (_ : (Lit.int .i64 a).wf = true) (b : Int) (_ : (Lit.int .i64 b).wf = true)
    (a2 : Option Addr) (len2 cap2 : Nat) (f2 : Nat → Int) (hl2 : len2 ≤ maxLen) (hc2 : len2 ≤ cap2) (hr2 : Row w a2 len2 (fun k => .int .i64 (f2 k)) ∧ ∀ k, k < len2 → (Lit.int .i64 (f2 k)).wf = true)
    (a3 : Option Addr) (len3 cap3 : Nat) (f3 : Nat → Bool) (hl3 : len3 ≤ maxLen) (hr3 : Row w a3 len3 (fun k => .bool (f3 k))) (sync : Bool) :
    Calls Try.prog 9 #[.int .i64 a, .int .i64 b, .slice a2 len2 cap2, .slice a3 len3 cap3, .bool sync] w fun e w' => e = .returned (.bool true) ∧ Below w.heap.size w w' := by
  obtain ⟨P, hP, hP2⟩ := mask255 a
  obtain ⟨Q, hQ, hQ2⟩ := mask255 b
  have HR2 := Lib.hid (lsI_row hr2.1)
  have HR3 := Lib.hid (lsB_row hr3)
  have HC2 : Hid ((lsI len2 f2).length ≤ cap2) := by show _ ≤ _; rw [lsI_len]; exact hc2
  have HC3 : Hid ((lsB len3 f3).length ≤ maxLen) := by show _ ≤ _; rw [lsB_len]; exact hl3
  have HE2 := Lib.hid (lsI_len len2 f2)
  have HE3 := Lib.hid (lsB_len len3 f3)
  generalize lsI len2 f2 = fs at *
  generalize lsB len3 f3 = bs at *
  have he2 := HE2.out
  have he3 := HE3.out
  subst he2 he3
  clear HE2 HE3 hr2 hr3 hc2 hl2 hl3
  have HFA : Hid (fs.length = 0 ∨ bOf a2 < w.heap.size) := by
    rcases Nat.eq_zero_or_pos fs.length with h | h
    · exact .inl h
    · exact .inr (HR2.out.lt h)
  have HFB2 : Hid (bs.length = 0 ∨ bOf a3 < w.heap.size) := by
    rcases Nat.eq_zero_or_pos bs.length with h | h
    · exact .inl h
    · exact .inr (HR3.out.lt h)
  have HN := Lib.hid (dnew_any w 1048576 (by omega))
  have HB1 := Lib.hid (newW_below w 1048576)
  have HA1 := Lib.hid (DiskAv.avB (new_at w 1048576))
  have hAl : ∀ (W : World), Below w.heap.size w W → ∀ b, b < w.heap.size → b < W.heap.size := fun W hW b hb => Nat.lt_of_lt_of_le hb hW.size
  have HAl := Lib.hid hAl
  clear hAl
  go_enter Try.func9, Try.ntmps9
  go_wp2_with fail
  refine HN.out.mono ?_
  rintro e w1 ⟨rfl, hw1⟩
  rw [← hw1] at HB1 HA1
  clear hw1 HN
  go_wp2_with fail
  refine (create_at w.heap.size w1 (w.heap.size + 2) (newS 1048576) _ HA1.out (HAl.out _ HB1.out) (newS_lv 1048576 (by omega)) HB1.out.size (by show (0 : Int) < 100000; omega) sM okN_m rfl (by show 0 < 64; omega)).mono ?_
  rintro e w2 ⟨f, -, rfl, hlv, hav, hb2, -⟩
  have HB2 : Hid (Below w.heap.size w w2) := HB1.out.trans hb2
  have HA2 := Lib.hid hav
  have HL2 := Lib.hid hlv
  clear hlv hav hb2 HB1 HA1
  go_wp2_with fail
  refine (bytes4_any w2 1 P (by omega) (by omega)).mono ?_
  rintro e w3 ⟨rfl, hb3⟩
  have HP := Lib.hid (bysL_byte 1 P)
  have HPL := Lib.hid (bysL_len 1 P)
  have HPE : Hid (∃ p, bysL 1 P = p) := ⟨_, rfl⟩
  obtain ⟨p, hp⟩ := HPE.out
  rw [hp] at HP HPL ⊢
  have HPP := Lib.hid hp
  have HB3 : Hid (Below w.heap.size w w3) := HB2.out.trans (hb3.mono HB2.out.size)
  have HA3 := Lib.hid (HA2.out.below hb3)
  clear hb3 HPE hp HB2 HA2
  obtain ⟨cap4, w4, hcv, -, hrow, hb4, -⟩ := str_bytes w3 p HP.out
  have hs3 := HB3.out.size
  have hs4 := hb4.size
  have hbd := HA3.out.bd_lt
  have hne : (createS (newS 1048576) sM f).names = .map [(kl sM, enc f)] := rfl
  have HAP := Lib.hid (append_at w.heap.size w4 (w.heap.size + 2) (createS (newS 1048576) sM f) _ (HA3.out.below hb4) (HAl.out _ (HB3.out.trans (hb4.mono hs3))) HL2.out (by omega) (by show (0 : Int) + 1 < 100000; omega) sM okN_m f (by rw [hne]; exact fileOf_one sM f) (some ⟨w3.heap.size, 0, none⟩) cap4 p hrow (.inr (by show w3.heap.size ≠ _; omega)) HP.out
    (by rw [createS_fb, HPL.out]; show 0 + P ≤ 200000; omega) (by
      rw [used_one _ sM f hne HL2.out.dead, createS_fb, HPL.out]
      show ((0 : Nat) : Int) + (P : Int) ≤ 1048576
      omega))
  have HB4 : Hid (Below w.heap.size w w4) := HB3.out.trans (hb4.mono hs3)
  clear hrow hb4 hs3 hs4 hbd hne HB3 HA3 HL2
  go_wp2_with fail
  clear hcv
  refine HAP.out.mono ?_
  rintro e w5 ⟨rfl, hlv, hav, hb5, -⟩
  have HB5 : Hid (Below w.heap.size w w5) := HB4.out.trans hb5
  have HSY := Lib.hid (sync_at w.heap.size w5 (w.heap.size + 2) _ _ hav (HAl.out _ HB5.out) hlv HB5.out.size (by show (0 : Int) + 1 + 1 < 100000; omega) sM okN_m f (by show fileOf (.map [(kl sM, enc f)]) sM = _; exact fileOf_one sM f))
  clear hlv hav hb5 HAP HB4
  go_wp2_with fail
  refine HSY.out.mono ?_
  rintro e w6 ⟨rfl, hlv, hav, hb6, -⟩
  have HB6 : Hid (Below w.heap.size w w6) := HB5.out.trans hb6
  have hfb : (appendS (createS (newS 1048576) sM f) f p).fb f = p := by rw [appendS_fb, createS_fb]; rfl
  have hX : (syncS (appendS (createS (newS 1048576) sM f) f p) f).names = .map [(kl sM, enc f)] ∧ (syncS (appendS (createS (newS 1048576) sM f) f p) f).files = [f] ∧ (syncS (appendS (createS (newS 1048576) sM f) f p) f).fb f = p ∧ (syncS (appendS (createS (newS 1048576) sM f) f p) f).fl f = P ∧ (syncS (appendS (createS (newS 1048576) sM f) f p) f).calls = 3 ∧ (syncS (appendS (createS (newS 1048576) sM f) f p) f).quota = 1048576 :=
    ⟨rfl, rfl, hfb, by show updN _ f _ f = P; rw [updN_same, hfb, HPL.out], rfl, rfl⟩
  have HX := Lib.hid hX
  clear hX hfb
  generalize syncS (appendS (createS (newS 1048576) sM f) f p) f = S3 at *
  obtain ⟨n3, fl3, fb3, l3, c3, q3⟩ := HX.out
  have HCT := Lib.hid (create_at w.heap.size w6 (w.heap.size + 2) S3 _ hav (HAl.out _ HB6.out) hlv HB6.out.size (by omega) sT okN_t (by rw [n3]; exact fileOf_one_no tm_ne f) (by rw [n3]; show 1 < 64; omega))
  clear hlv hav hb6 HSY HB5 n3 fl3 fb3 l3 c3 q3
  go_wp2_with fail
  refine HCT.out.mono ?_
  rintro e w7 ⟨g, hgn, rfl, hlv, hav, hb7, -⟩
  have HB7 : Hid (Below w.heap.size w w7) := HB6.out.trans hb7
  have HA7 := Lib.hid hav
  have HL7 := Lib.hid hlv
  have HGN := Lib.hid hgn
  clear hlv hav hb7 hgn HCT HB6
  go_wp2_with fail
  refine (bytes4_any w7 2 Q (by omega) (by omega)).mono ?_
  rintro e w8 ⟨rfl, hb8⟩
  have HQ := Lib.hid (bysL_byte 2 Q)
  have HQL := Lib.hid (bysL_len 2 Q)
  have HQE : Hid (∃ q, bysL 2 Q = q) := ⟨_, rfl⟩
  obtain ⟨q, hq⟩ := HQE.out
  rw [hq] at HQ HQL ⊢
  have HQQ := Lib.hid hq
  have HB8 : Hid (Below w.heap.size w w8) := HB7.out.trans (hb8.mono HB7.out.size)
  have HA8 := Lib.hid (HA7.out.below hb8)
  clear hb8 HQE hq HB7 HA7
  obtain ⟨cap9, w9, hcv, -, hrow, hb9, -⟩ := str_bytes w8 q HQ.out
  obtain ⟨n3, fl3, fb3, l3, c3, q3⟩ := HX.out
  have hs8 := HB8.out.size
  have hs9 := hb9.size
  have hbd := HA8.out.bd_lt
  have hn4 : (createS S3 sT g).names = .map [(kl sM, enc f), (kl sT, enc g)] := by show S3.names.put (kl sT) (enc g) = _; rw [n3, two_mt]
  have hfg : f ≠ g := fun e => HGN.out (by rw [fl3, e]; simp)
  obtain ⟨r1, r2, r3⟩ := two_rise sM sT f g (two_mt f g) tm_ne (createS S3 sT g) hn4
  have hu : usedS (createS S3 sT g) = P := by
    rw [r3 HL7.out.dead, createS_fb]
    show (updN S3.fb g [] f).length + 0 = P
    rw [updN_other _ _ hfg, fb3, HPL.out]
    rfl
  have HAP := Lib.hid (append_at w.heap.size w9 (w.heap.size + 2) (createS S3 sT g) _ (HA8.out.below hb9) (HAl.out _ (HB8.out.trans (hb9.mono hs8))) HL7.out (by omega) (by show S3.calls + 1 < 100000; omega) sT okN_t g r2 (some ⟨w8.heap.size, 0, none⟩) cap9 q hrow (.inr (by show w8.heap.size ≠ _; omega)) HQ.out
    (by rw [createS_fb, HQL.out]; show 0 + Q ≤ 200000; omega) (by rw [hu, HQL.out]; show (P : Int) + (Q : Int) ≤ S3.quota; omega))
  have HB9 : Hid (Below w.heap.size w w9) := HB8.out.trans (hb9.mono hs8)
  have HR2T := Lib.hid r2
  have HFG := Lib.hid hfg
  have HN4 := Lib.hid hn4
  clear hrow hb9 hs8 hs9 hbd hn4 hfg r1 r2 r3 hu n3 fl3 fb3 l3 c3 q3 HB8 HA8 HL7
  go_wp2_with fail
  clear hcv
  refine HAP.out.mono ?_
  rintro e w10 ⟨rfl, hlv, hav, hb10, -⟩
  have HB10 : Hid (Below w.heap.size w w10) := HB9.out.trans hb10
  have HSY := Lib.hid (sync_at w.heap.size w10 (w.heap.size + 2) _ _ hav (HAl.out _ HB10.out) hlv HB10.out.size (by show S3.calls + 1 + 1 < 100000; have := HX.out.2.2.2.2.1; omega) sT okN_t g HR2T.out)
  clear hlv hav hb10 HAP HB9
  go_wp2_with fail
  refine HSY.out.mono ?_
  rintro e w11 ⟨rfl, hlv, hav, hb11, -⟩
  have HB11 : Hid (Below w.heap.size w w11) := HB10.out.trans hb11
  have hfbg : (appendS (createS S3 sT g) g q).fb g = q := by rw [appendS_fb, createS_fb]; rfl
  obtain ⟨n3, fl3, fb3, l3, c3, q3⟩ := HX.out
  have hX : (syncS (appendS (createS S3 sT g) g q) g).names = .map [(kl sM, enc f), (kl sT, enc g)] ∧ (syncS (appendS (createS S3 sT g) g q) g).files = [f, g] ∧ ((syncS (appendS (createS S3 sT g) g q) g).fb f = p ∧ (syncS (appendS (createS S3 sT g) g q) g).fb g = q) ∧ ((syncS (appendS (createS S3 sT g) g q) g).fl f = p.length ∧ (syncS (appendS (createS S3 sT g) g q) g).fl g = q.length) ∧ (syncS (appendS (createS S3 sT g) g q) g).calls = 6 := by
    have hfg := HFG.out
    refine ⟨HN4.out, by show S3.files ++ [g] = _; rw [fl3]; rfl, ⟨?_, hfbg⟩, ⟨?_, ?_⟩, by show S3.calls + 1 + 1 + 1 = 6; omega⟩
    · show updN (updN S3.fb g []) g _ f = p
      rw [updN_other _ _ hfg, updN_other _ _ hfg, fb3]
    · show updN (updN S3.fl g 0) g _ f = _
      rw [updN_other _ _ hfg, updN_other _ _ hfg, l3, HPL.out]
    · show updN (updN S3.fl g 0) g ((appendS (createS S3 sT g) g q).fb g).length g = _
      rw [updN_same, hfbg]
  have HY := Lib.hid hX
  generalize syncS (appendS (createS S3 sT g) g q) g = S6 at *
  have HSD := Lib.hid (syncdir_at w.heap.size w11 (w.heap.size + 2) S6 _ hav (HAl.out _ HB11.out) hlv HB11.out.size (by have := hX.2.2.2.2; omega))
  clear hlv hav hb11 hX hfbg n3 fl3 fb3 l3 c3 q3 HX HSY HB10 HN4 HR2T HGN S3
  go_wp2_with fail
  refine HSD.out.mono ?_
  rintro e w12 ⟨rfl, hlv, hav, hb12, -⟩
  have HB12 : Hid (Below w.heap.size w w12) := HB11.out.trans hb12
  obtain ⟨n6, fl6, fb6, l6, c6⟩ := HY.out
  have hft : fileOf (syncdirS S6).names sT = some g := by show fileOf S6.names sT = _; rw [n6, ← two_mt]; exact fileOf_put_same ⟨_, rfl⟩ sT g
  have HRN := Lib.hid (rename_at w.heap.size w12 (w.heap.size + 2) (syncdirS S6) _ hav (HAl.out _ HB12.out) hlv HB12.out.size (by show S6.calls + 1 < 100000; omega) sT sM okN_t okN_m tm_l g hft)
  clear hlv hav hb12 n6 fl6 fb6 l6 c6 hft HSD HB11
  go_wp2_with fail
  refine HRN.out.mono ?_
  rintro e w13 ⟨rfl, hlv, hav, hb13, -⟩
  have HB13 : Hid (Below w.heap.size w w13) := HB12.out.trans hb13
  obtain ⟨n6, fl6, fb6, l6, c6⟩ := HY.out
  have hnn : (moveS (syncdirS S6) (((syncdirS S6).names.del (kl sT)).put (kl sM) (enc g)) ⟨1, sT, sM, none⟩).names = .map [(kl sM, enc g)] := by
    show (S6.names.del (kl sT)).put (kl sM) (enc g) = _
    rw [n6, two_delT, two_overM]
  cases sync with
  | false =>
    have HSW : Hid (SwI w f g (moveS (syncdirS S6) (((syncdirS S6).names.del (kl sT)).put (kl sM) (enc g)) ⟨1, sT, sM, none⟩) p q false w13) :=
      ⟨hlv, fl6, fb6, l6, .inr ⟨rfl, n6, rfl⟩, hav, HB13.out⟩
    generalize moveS (syncdirS S6) (((syncdirS S6).names.del (kl sT)).put (kl sM) (enc g)) ⟨1, sT, sM, none⟩ = S at *
    generalize w13 = wc at *
    clear hlv hav hb13 n6 fl6 fb6 l6 c6 hnn HY HRN HB12 HB13 S6
    have hbw := HSW.out.below.size
    have HCR := Lib.hid (crash_any w.heap.size wc (w.heap.size + 2) S (fun b => b < w.heap.size) HSW.out.av (fun b h => by change b < w.heap.size at h; omega) HSW.out.lv.ok (by rw [HSW.out.files]; show 0 < 2; omega) hbw fs a2 cap2 (HR2.out.kept HSW.out.below) ⟨HC2.out, trivial⟩ HFA.out bs a3 cap3 (HR3.out.kept HSW.out.below) HC3.out HFB2.out)
    have HTY := Lib.hid HSW.out.av.tidy.2
    clear hbw
    go_wp2_with fail
    refine HCR.out.mono ?_
    rintro e w7 ⟨rfl, hav, hb7, -⟩
    have hlv := crash_lv HSW.out.lv fs bs HTY.out hav.canon.1
    obtain ⟨hfp, hfq, hnm⟩ := swap_crash HSW.out fs bs
    have HB7 : Hid (Below w.heap.size w w7) := HSW.out.below.trans hb7
    generalize crashS S fs bs = S' at *
    have HAV := Lib.hid hav
    have HLV := Lib.hid hlv
    have HFP := Lib.hid hfp
    have HFQ := Lib.hid hfq
    clear hav hlv hfp hfq hb7 HCR HTY HSW
    rcases hnm with hnm | ⟨hsy, hnm⟩
    · have HNM := Lib.hid hnm
      have hfm : fileOf S'.names sM = some g := by rw [hnm]; exact fileOf_one sM g
      have hft : fileOf S'.names sT = none := by rw [hnm]; exact fileOf_one_no tm_ne g
      have hrd := read_any w.heap.size w7 (w.heap.size + 2) _ HAV.out.at HLV.out.ok sM (by decide) 0 1000 (by omega)
      unfold ReadPost at hrd
      rw [readF_yes okN_m HLV.out.dead hfm, if_neg (by omega), HFQ.out, show pieceL q (0 : Int).toNat (1000 : Int).toNat = q from pieceL_all _ _ (by rw [HQL.out]; show Q ≤ 1000; omega)] at hrd
      have HRD := Lib.hid hrd
      have HFT := Lib.hid hft
      clear hrd hfm hft hnm
      go_wp2_with fail
      refine HRD.out.mono ?_
      rintro e w8 ⟨ax, cx, rfl, hrx, hb8⟩
      have HB8 : Hid (Below w.heap.size w w8) := HB7.out.trans (hb8.mono HB7.out.size)
      have HA8 := Lib.hid (HAV.out.below hb8)
      have HCV : Hid (∀ W, Below w8.heap.size w8 W → (convert 28 9 (.slice ax q.length cx)).run Try.prog W = .ok (.string (sB q)) W) := fun W hW => conv_str W ax q cx (hrx.kept hW)
      clear hb8 hrx HRD HAV HB7
      go_wp2_with fail
      have hcv8 := HCV.out w8.drew ((Below.refl _ _).drew)
      go_cut [14] (fun s14 wx => s14 = .bool ((sB q).toList == (sB p).toList) ∧ Below w8.heap.size w8 wx)
      case first =>
        go_region_with (go_at_call 13; refine (bytes4_any _ 1 P (by omega) (by omega)).mono ?_; rintro e w9 ⟨rfl, hb9⟩; have hb9' := ((Below.refl _ w8).drew).trans hb9; have hcv9 := HCV.out w9 hb9'; have HB9 := Lib.hid hb9'; clear hb9 hb9'; rw [HPP.out])
        all_goals
          go_wp2_with fail
          go_meet
          first | exact ⟨rfl, HB9.out⟩ | exact ⟨by simp, HB9.out⟩
      case rest =>
        obtain ⟨rfl, hbc⟩ := hcut
        have HBC := Lib.hid hbc
        clear hbc hcv8
        (generalize ((sB q).toList == (sB p).toList) = o1 at *)
        generalize wc = wq at *
        go_wp2_with fail
        have hcvc := HCV.out wq.drew (HBC.out.drew)
        go_cut [15] (fun s15 wx => s15 = .bool ((sB q).toList == (sB q).toList) ∧ Below w8.heap.size w8 wx)
        case first =>
          go_region_with (go_at_call 13; refine (bytes4_any _ 2 Q (by omega) (by omega)).mono ?_; rintro e w9 ⟨rfl, hb9⟩; have hb9' := (HBC.out.drew).trans (hb9.mono HBC.out.size); have hcv9 := HCV.out w9 hb9'; have HB9 := Lib.hid hb9'; clear hb9 hb9'; rw [HQQ.out])
          all_goals
            go_wp2_with fail
            go_meet
            first | exact ⟨rfl, HB9.out⟩ | exact ⟨by simp, HB9.out⟩
        case rest =>
          obtain ⟨rfl, hby⟩ := hcut
          generalize wc = wy at *
          have HBY : Hid (Below w.heap.size w wy) := HB8.out.trans (hby.mono HB8.out.size)
          have HAY := Lib.hid (HA8.out.below hby)
          clear hby hcvc HBC HCV HB8 HA8
          have hs := size_any w.heap.size wy (w.heap.size + 2) _ HAY.out.at HLV.out.ok sT (by decide)
          rw [sizeF_no okN_t HLV.out.dead HFT.out] at hs
          have HSI := Lib.hid hs
          clear hs HAY
          have on : ((sB q).toList == (sB q).toList) = true := by simp
          rw [on]
          clear on
          cases o1
          all_goals
            go_wp2_with fail
            refine HSI.out.mono ?_
            rintro e wt ⟨rfl, j1, rfl⟩
            have HBX : Hid (Below w.heap.size w (wy.drewN j1)) := below_drewN HBY.out j1
            clear HSI HBY
            go_wp2_with fail
            refine (awake4_any _).mono ?_
            rintro e wz ⟨rfl, hbz⟩
            have HBZ : Hid (Below w.heap.size w wz) := HBX.out.trans (hbz.mono HBX.out.size)
            clear hbz
            go_wp2
            go_ret
            exact ⟨rfl, HBZ.out⟩
    · have HNM := Lib.hid hnm
      have hnn : S'.names = (DataW.map [(kl sM, enc f)] : DT).put (kl sT) (enc g) := by rw [hnm, two_mt]
      have hfm : fileOf S'.names sM = some f := by rw [hnn, fileOf_put_other mt_ne]; exact fileOf_one sM f
      have hft : fileOf S'.names sT = some g := by rw [hnn]; exact fileOf_put_same ⟨_, rfl⟩ sT g
      have hrd := read_any w.heap.size w7 (w.heap.size + 2) _ HAV.out.at HLV.out.ok sM (by decide) 0 1000 (by omega)
      unfold ReadPost at hrd
      rw [readF_yes okN_m HLV.out.dead hfm, if_neg (by omega), HFP.out, show pieceL p (0 : Int).toNat (1000 : Int).toNat = p from pieceL_all _ _ (by rw [HPL.out]; show P ≤ 1000; omega)] at hrd
      have HRD := Lib.hid hrd
      have HFT := Lib.hid hft
      clear hrd hfm hft hnm hnn hsy
      go_wp2_with fail
      refine HRD.out.mono ?_
      rintro e w8 ⟨ax, cx, rfl, hrx, hb8⟩
      have HB8 : Hid (Below w.heap.size w w8) := HB7.out.trans (hb8.mono HB7.out.size)
      have HA8 := Lib.hid (HAV.out.below hb8)
      have HCV : Hid (∀ W, Below w8.heap.size w8 W → (convert 28 9 (.slice ax p.length cx)).run Try.prog W = .ok (.string (sB p)) W) := fun W hW => conv_str W ax p cx (hrx.kept hW)
      clear hb8 hrx HRD HAV HB7
      go_wp2_with fail
      have hcv8 := HCV.out w8.drew ((Below.refl _ _).drew)
      go_cut [14] (fun s14 wx => s14 = .bool ((sB p).toList == (sB p).toList) ∧ Below w8.heap.size w8 wx)
      case first =>
        go_region_with (go_at_call 13; refine (bytes4_any _ 1 P (by omega) (by omega)).mono ?_; rintro e w9 ⟨rfl, hb9⟩; have hb9' := ((Below.refl _ w8).drew).trans hb9; have hcv9 := HCV.out w9 hb9'; have HB9 := Lib.hid hb9'; clear hb9 hb9'; rw [HPP.out])
        all_goals
          go_wp2_with fail
          go_meet
          first | exact ⟨rfl, HB9.out⟩ | exact ⟨by simp, HB9.out⟩
      case rest =>
        obtain ⟨rfl, hbc⟩ := hcut
        have HBC := Lib.hid hbc
        clear hbc hcv8
        (rw [show ((sB p).toList == (sB p).toList) = true by simp])
        generalize wc = wq at *
        go_wp2_with fail
        have hcvc := HCV.out wq.drew (HBC.out.drew)
        go_cut [15] (fun s15 wx => s15 = .bool ((sB p).toList == (sB q).toList) ∧ Below w8.heap.size w8 wx)
        case first =>
          go_region_with (go_at_call 13; refine (bytes4_any _ 2 Q (by omega) (by omega)).mono ?_; rintro e w9 ⟨rfl, hb9⟩; have hb9' := (HBC.out.drew).trans (hb9.mono HBC.out.size); have hcv9 := HCV.out w9 hb9'; have HB9 := Lib.hid hb9'; clear hb9 hb9'; rw [HQQ.out])
          all_goals
            go_wp2_with fail
            go_meet
            first | exact ⟨rfl, HB9.out⟩ | exact ⟨by simp, HB9.out⟩
        case rest =>
          obtain ⟨rfl, hby⟩ := hcut
          generalize wc = wy at *
          have HBY : Hid (Below w.heap.size w wy) := HB8.out.trans (hby.mono HB8.out.size)
          have HAY := Lib.hid (HA8.out.below hby)
          clear hby hcvc HBC HCV HB8 HA8
          have hs := size_any w.heap.size wy (w.heap.size + 2) _ HAY.out.at HLV.out.ok sT (by decide)
          rw [sizeF_yes okN_t HLV.out.dead HFT.out] at hs
          have HSI := Lib.hid hs
          clear hs HAY
          generalize ((sB p).toList == (sB q).toList) = o2 at *
          cases o2
          all_goals
            go_wp2_with fail
            refine HSI.out.mono ?_
            rintro e wt ⟨rfl, j1, rfl⟩
            have HBX : Hid (Below w.heap.size w (wy.drewN j1)) := below_drewN HBY.out j1
            clear HSI HBY
            go_wp2_with fail
            refine (awake4_any _).mono ?_
            rintro e wz ⟨rfl, hbz⟩
            have HBZ : Hid (Below w.heap.size w wz) := HBX.out.trans (hbz.mono HBX.out.size)
            clear hbz
            go_wp2
            go_ret
            exact ⟨rfl, HBZ.out⟩
  | true =>
    have HSD := Lib.hid (syncdir_at w.heap.size w13 (w.heap.size + 2) _ _ hav (HAl.out _ HB13.out) hlv HB13.out.size (by show S6.calls + 1 + 1 < 100000; omega))
    have HNN := Lib.hid hnn
    clear hlv hav hb13 n6 fl6 fb6 l6 c6 hnn HRN HB12
    go_wp2_with fail
    refine HSD.out.mono ?_
    rintro e wc ⟨rfl, hlv, hav, hb14, -⟩
    obtain ⟨n6, fl6, fb6, l6, c6⟩ := HY.out
    have HSW : Hid (SwI w f g (syncdirS (moveS (syncdirS S6) (((syncdirS S6).names.del (kl sT)).put (kl sM) (enc g)) ⟨1, sT, sM, none⟩)) p q true wc) :=
      ⟨hlv, fl6, fb6, l6, .inl ⟨rfl, HNN.out, rfl⟩, hav, HB13.out.trans hb14⟩
    generalize syncdirS (moveS (syncdirS S6) (((syncdirS S6).names.del (kl sT)).put (kl sM) (enc g)) ⟨1, sT, sM, none⟩) = S at *
    clear hlv hav hb14 n6 fl6 fb6 l6 c6 HNN HY HSD HB13 S6
    have hbw := HSW.out.below.size
    have HCR := Lib.hid (crash_any w.heap.size wc (w.heap.size + 2) S (fun b => b < w.heap.size) HSW.out.av (fun b h => by change b < w.heap.size at h; omega) HSW.out.lv.ok (by rw [HSW.out.files]; show 0 < 2; omega) hbw fs a2 cap2 (HR2.out.kept HSW.out.below) ⟨HC2.out, trivial⟩ HFA.out bs a3 cap3 (HR3.out.kept HSW.out.below) HC3.out HFB2.out)
    have HTY := Lib.hid HSW.out.av.tidy.2
    clear hbw
    go_wp2_with fail
    refine HCR.out.mono ?_
    rintro e w7 ⟨rfl, hav, hb7, -⟩
    have hlv := crash_lv HSW.out.lv fs bs HTY.out hav.canon.1
    obtain ⟨hfp, hfq, hnm⟩ := swap_crash HSW.out fs bs
    have HB7 : Hid (Below w.heap.size w w7) := HSW.out.below.trans hb7
    generalize crashS S fs bs = S' at *
    have HAV := Lib.hid hav
    have HLV := Lib.hid hlv
    have HFP := Lib.hid hfp
    have HFQ := Lib.hid hfq
    clear hav hlv hfp hfq hb7 HCR HTY HSW
    rcases hnm with hnm | ⟨hsy, hnm⟩
    · have HNM := Lib.hid hnm
      have hfm : fileOf S'.names sM = some g := by rw [hnm]; exact fileOf_one sM g
      have hft : fileOf S'.names sT = none := by rw [hnm]; exact fileOf_one_no tm_ne g
      have hrd := read_any w.heap.size w7 (w.heap.size + 2) _ HAV.out.at HLV.out.ok sM (by decide) 0 1000 (by omega)
      unfold ReadPost at hrd
      rw [readF_yes okN_m HLV.out.dead hfm, if_neg (by omega), HFQ.out, show pieceL q (0 : Int).toNat (1000 : Int).toNat = q from pieceL_all _ _ (by rw [HQL.out]; show Q ≤ 1000; omega)] at hrd
      have HRD := Lib.hid hrd
      have HFT := Lib.hid hft
      clear hrd hfm hft hnm
      go_wp2_with fail
      refine HRD.out.mono ?_
      rintro e w8 ⟨ax, cx, rfl, hrx, hb8⟩
      have HB8 : Hid (Below w.heap.size w w8) := HB7.out.trans (hb8.mono HB7.out.size)
      have HA8 := Lib.hid (HAV.out.below hb8)
      have HCV : Hid (∀ W, Below w8.heap.size w8 W → (convert 28 9 (.slice ax q.length cx)).run Try.prog W = .ok (.string (sB q)) W) := fun W hW => conv_str W ax q cx (hrx.kept hW)
      clear hb8 hrx HRD HAV HB7
      go_wp2_with fail
      have hcv8 := HCV.out w8.drew ((Below.refl _ _).drew)
      go_cut [14] (fun s14 wx => s14 = .bool ((sB q).toList == (sB p).toList) ∧ Below w8.heap.size w8 wx)
      case first =>
        go_region_with (go_at_call 13; refine (bytes4_any _ 1 P (by omega) (by omega)).mono ?_; rintro e w9 ⟨rfl, hb9⟩; have hb9' := ((Below.refl _ w8).drew).trans hb9; have hcv9 := HCV.out w9 hb9'; have HB9 := Lib.hid hb9'; clear hb9 hb9'; rw [HPP.out])
        all_goals
          go_wp2_with fail
          go_meet
          first | exact ⟨rfl, HB9.out⟩ | exact ⟨by simp, HB9.out⟩
      case rest =>
        obtain ⟨rfl, hbc⟩ := hcut
        have HBC := Lib.hid hbc
        clear hbc hcv8
        (generalize ((sB q).toList == (sB p).toList) = o1 at *)
        generalize wc = wq at *
        go_wp2_with fail
        have hcvc := HCV.out wq.drew (HBC.out.drew)
        go_cut [15] (fun s15 wx => s15 = .bool ((sB q).toList == (sB q).toList) ∧ Below w8.heap.size w8 wx)
        case first =>
          go_region_with (go_at_call 13; refine (bytes4_any _ 2 Q (by omega) (by omega)).mono ?_; rintro e w9 ⟨rfl, hb9⟩; have hb9' := (HBC.out.drew).trans (hb9.mono HBC.out.size); have hcv9 := HCV.out w9 hb9'; have HB9 := Lib.hid hb9'; clear hb9 hb9'; rw [HQQ.out])
          all_goals
            go_wp2_with fail
            go_meet
            first | exact ⟨rfl, HB9.out⟩ | exact ⟨by simp, HB9.out⟩
        case rest =>
          obtain ⟨rfl, hby⟩ := hcut
          generalize wc = wy at *
          have HBY : Hid (Below w.heap.size w wy) := HB8.out.trans (hby.mono HB8.out.size)
          have HAY := Lib.hid (HA8.out.below hby)
          clear hby hcvc HBC HCV HB8 HA8
          have hs := size_any w.heap.size wy (w.heap.size + 2) _ HAY.out.at HLV.out.ok sT (by decide)
          rw [sizeF_no okN_t HLV.out.dead HFT.out] at hs
          have HSI := Lib.hid hs
          clear hs HAY
          have on : ((sB q).toList == (sB q).toList) = true := by simp
          rw [on]
          clear on
          cases o1
          all_goals
            go_wp2_with fail
            refine HSI.out.mono ?_
            rintro e wt ⟨rfl, j1, rfl⟩
            have HBX : Hid (Below w.heap.size w (wy.drewN j1)) := below_drewN HBY.out j1
            clear HSI HBY
            go_wp2_with fail
            refine (awake4_any _).mono ?_
            rintro e wz ⟨rfl, hbz⟩
            have HBZ : Hid (Below w.heap.size w wz) := HBX.out.trans (hbz.mono HBX.out.size)
            clear hbz
            go_wp2
            go_ret
            exact ⟨rfl, HBZ.out⟩
    · cases hsy
end Go.Proofs.Ytelndbjjkhlacaa
