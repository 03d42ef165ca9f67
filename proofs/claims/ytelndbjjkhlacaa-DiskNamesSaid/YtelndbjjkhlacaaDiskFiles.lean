/-
  The statement DiskFiles: its walk.
-/
import Derived.Test.YtelndbjjkhlacaaDkTwo
import Derived.Test.YtelndbjjkhlacaaDkList
import Derived.Test.YtelndbjjkhlacaaDkOkRef
import Derived.Deep.CutBlock
namespace Go.Proofs.Ytelndbjjkhlacaa
open Go.RowKit Go.Maps Go.Sort

def nmF (i : Nat) : ByteArray := sB [102, 97 + i / 26, 97 + i % 26]
theorem nmF_ok : ∀ i, i < 67 → okN (nmF i) = true := by decide +kernel
theorem nmF_ne : ∀ i, i < 67 → ∀ j, j < 67 → i ≠ j → nmF i ≠ nmF j := by decide +kernel
theorem nmF_cat (i : Nat) : (⟨#[102]⟩ : ByteArray) ++ sB [97 + i / 26, 97 + i % 26] = nmF i := by
  have h : (⟨#[102]⟩ : ByteArray) = sB [102] := by unfold sB; rfl
  rw [h, sB_app]
  rfl
attribute [irreducible] nmF
abbrev sA3 : ByteArray := ⟨#[102, 97, 97]⟩
theorem okN_a3 : okN sA3 = true := by decide
theorem no_has {D : DT} {F : List Nat} (h : NamesOk D F) {s : ByteArray} (hf : fileOf D s = none) : has D (kl s) = false := by
  cases hh : has D (kl s) with
  | false => rfl
  | true =>
    obtain ⟨f, _, ha⟩ := h _ hh
    unfold fileOf at hf
    rw [ha, decF_enc] at hf
    cases hf
theorem keys_len {D : DT} (h : Canon D) : (strKeys D).length = size D := by
  obtain ⟨es, rfl, _⟩ := h
  simp [strKeys, size]
/-- what holds ahead of the i-th Create -/
structure FlI (w : World) (i : Nat) (S : DSt) (wr : World) : Prop where
  lv : Lv S
  calls : S.calls = (i : Int)
  size : size S.names = min i 64
  none : ∀ j, i ≤ j → j < 67 → fileOf S.names (nmF j) = none
  av : DiskAv w.heap.size wr (w.heap.size + 2) S (fun b => b < w.heap.size)
  below : Below w.heap.size w wr
theorem readF_bad {S : DSt} {s : ByteArray} (ho : okN s = false) (k m : Int) : readF S s k m = ([], 10) := by
  unfold readF askF
  rw [if_pos ho]
theorem sizeF_bad {S : DSt} {s : ByteArray} (ho : okN s = false) : sizeF S s = (0, 10) := by
  unfold sizeF askF
  rw [if_pos ho]
theorem toList_bne {s t : ByteArray} (h : s ≠ t) : (s.toList == t.toList) = false := by
  rw [beq_eq_false_iff_ne]
  intro e
  apply h
  obtain ⟨⟨x⟩⟩ := s
  obtain ⟨⟨y⟩⟩ := t
  rw [ByteArray.toList_mk, ByteArray.toList_mk] at e
  simpa using e
set_option maxRecDepth 100000 in
set_option maxHeartbeats 4000000 in
theorem dfiles_walk (w : World) (x0 : Int) (_ : (Lit.int .i64 x0).wf = true) (s : ByteArray) (hs : s.size ≤ maxLen) :
    Calls Try.prog 11 #[.int .i64 x0, .string s] w fun e w' => e = .returned (.bool true) ∧ Below w.heap.size w w' := by
  obtain ⟨m, hm, hm2⟩ : ∃ n : Nat, bits .and .i64 x0 7 = (n : Int) ∧ n < 8 := by
    have en : bits .and .i64 x0 7 = x0 % 8 := i64_mask x0 3 (by omega)
    exact ⟨(x0 % 8).toNat, by rw [en]; omega, by omega⟩
  obtain ⟨n, hn⟩ : ∃ n, n = m + 60 := ⟨_, rfl⟩
  have yn : IntKind.i64.wrap ((m : Int) + 60) = (n : Int) := by rw [show (m : Int) + 60 = (n : Int) by omega]; exact IntWalk.i64_in _ (by omega)
  have hn2 : n ≤ 67 := by omega
  unfold maxLen at hs
  have HN := Lib.hid (dnew_any w 1000 (by omega))
  have HB1 := Lib.hid (newW_below w 1000)
  have HA1 := Lib.hid (DiskAv.avB (new_at w 1000))
  clear hn hm2
  by_cases hbig : 100 < s.size
  · have t1 : (100 : Int) < (s.size : Int) := by omega
    clear hbig hm yn hn2
    go_enter Try.func11, Try.ntmps11
    go_wp2_with fail
    refine HN.out.mono ?_
    rintro e w1 ⟨rfl, hw1⟩
    rw [← hw1] at HB1
    clear hw1 HN HA1
    go_wp2_with fail
    refine (awake4_any _).mono ?_
    rintro e w8 ⟨rfl, hb8⟩
    have HB8 : Hid (Below w.heap.size w w8) := HB1.out.trans (hb8.mono HB1.out.size)
    clear hb8
    go_wp2
    go_ret
    exact ⟨rfl, HB8.out⟩
  have t1 : decide ((100 : Int) < (s.size : Int)) = false := by simp; omega
  have t1n : decide (100 < s.size) = false := by simp; omega
  have HSZ : Hid (s.size ≤ 100) := by show _ ≤ _; omega
  clear hbig hs
  go_enter Try.func11, Try.ntmps11
  go_wp2_with fail
  refine HN.out.mono ?_
  rintro e w1 ⟨rfl, hw1⟩
  rw [← hw1] at HB1 HA1
  clear hw1 HN
  have HI0 : Hid (FlI w 0 (newS 1000) w1) := ⟨newS_lv 1000 (by omega), rfl, rfl, fun _ _ _ => rfl, HA1.out, HB1.out⟩
  clear HA1 HB1
  go_wp2_with fail
  clear hm yn t1 t1n
  go_loopw [6, 7] (fun v6 _ wr => ∃ (i : Nat) (S : DSt), i ≤ n ∧ v6 = .int .i64 (i : Int) ∧ FlI w i S wr) (fun v6 _ _ => n - (intOf v6).toNat)
  case atStart => exact ⟨0, _, Nat.zero_le _, rfl, HI0.out⟩
  case round =>
    obtain ⟨i, S, hi, rfl, hfl⟩ := hrel
    have HFL := Lib.hid hfl
    clear hfl HI0
    by_cases hlt : i < n
    · have tin : (i : Int) < (n : Int) := by omega
      obtain ⟨p, hp⟩ : ∃ p, p = i / 26 := ⟨_, rfl⟩
      obtain ⟨r, hr⟩ : ∃ r, r = i % 26 := ⟨_, rfl⟩
      have e1 : (i : Int).tdiv 26 = (p : Int) := by rw [Int.tdiv_eq_ediv_of_nonneg (by omega)]; omega
      have e2 : (i : Int).tmod 26 = (r : Int) := by rw [Int.tmod_eq_emod_of_nonneg (by omega)]; omega
      obtain ⟨m1, hm1⟩ : ∃ m1, m1 = 97 + p := ⟨_, rfl⟩
      obtain ⟨m2, hm2⟩ : ∃ m2, m2 = 97 + r := ⟨_, rfl⟩
      have y0 : IntKind.i64.wrap (p : Int) = (p : Int) := IntWalk.i64_in _ (by omega)
      have y1 : IntKind.u8.wrap (p : Int) = (p : Int) := by show (p : Int) % 256 = _; omega
      have y2 : IntKind.u8.wrap (r : Int) = (r : Int) := by show (r : Int) % 256 = _; omega
      have y3 : IntKind.u8.wrap (97 + (p : Int)) = (m1 : Int) := by show (97 + (p : Int)) % 256 = _; omega
      have y4 : IntKind.u8.wrap (97 + (r : Int)) = (m2 : Int) := by show (97 + (r : Int)) % 256 = _; omega
      have hcat := nmF_cat i
      rw [← hp, ← hr, ← hm1, ← hm2] at hcat
      have hrow : Row (wr.alloc (.cells #[.int .u8 (m1 : Int), .int .u8 (m2 : Int)] 5)) (some ⟨wr.heap.size, 0, none⟩) [m1, m2].length (byteV [m1, m2]) :=
        Row.of_row (m := 2) (World.rowIs_alloc wr #[.int .u8 (m1 : Int), .int .u8 (m2 : Int)] 5 (byteV [m1, m2]) (fun j hj => by
          match j, hj with
          | 0, _ => rfl
          | 1, _ => rfl)) (Nat.le_refl _)
      have hcv := conv_str _ _ [m1, m2] 2 hrow
      simp only [List.length_cons, List.length_nil, Nat.zero_add, Nat.reduceAdd] at hcv
      have hz : (sB [m1, m2]).size ≤ 2 := by rw [sB_size]; exact Nat.le_refl _
      generalize sB [m1, m2] = sx at *
      generalize hnm : nmF i = nm at hcat
      have HNM := Lib.hid hnm
      have hb2 : Below wr.heap.size wr (wr.alloc (.cells #[.int .u8 (m1 : Int), .int .u8 (m2 : Int)] 5)) := (Below.refl _ _).alloc (Nat.le_refl _) _
      have HB2 := Lib.hid hb2
      clear hnm hb2 hrow hp hr hm1 hm2
      go_wp2_with fail
      clear hcv hz hcat e1 e2 y0 y1 y2 y3 y4
      have hbw := HFL.out.below.size
      have hs2 := HB2.out.size
      have hcl := HFL.out.calls
      have hav := HFL.out.av.below HB2.out
      by_cases h64 : i < 64
      · have t64 : (i : Int) < 64 := by omega
        have hsz := HFL.out.size
        have HCR := Lib.hid (create_at w.heap.size _ (w.heap.size + 2) S (fun b => b < w.heap.size) hav (fun b h => by change b < w.heap.size at h; omega) HFL.out.lv (by omega) (by omega) (nmF i) (nmF_ok i (by omega)) (HFL.out.none i (Nat.le_refl _) (by omega)) (by omega))
        rw [HNM.out] at HCR
        clear hbw hs2 hcl hav hsz
        refine HCR.out.mono ?_
        rintro e w5 ⟨fn, -, rfl, hlv, hav, hb5, -⟩
        have HI2 : Hid (FlI w (i + 1) (createS S nm fn) w5) := by
          refine ⟨hlv, ?_, ?_, fun j h1 h2 => ?_, hav, (HFL.out.below.trans (HB2.out.mono HFL.out.below.size)).trans hb5⟩
          · show S.calls + 1 = _
            have := HFL.out.calls
            omega
          · show size (S.names.put (kl nm) (enc fn)) = _
            rw [size_put HFL.out.av.tidy.1, no_has HFL.out.lv.ok.names (by rw [← HNM.out]; exact HFL.out.none i (Nat.le_refl _) (by omega)), if_neg (by simp)]
            have := HFL.out.size
            omega
          · show fileOf (S.names.put (kl nm) (enc fn)) (nmF j) = none
            rw [fileOf_put_other (by rw [← HNM.out]; exact nmF_ne j (by omega) i (by omega) (by omega))]
            exact HFL.out.none j (by omega) h2
        clear hlv hav hb5 HCR HB2 HNM
        go_wp2_with fail
        go_roundw
        case rel => exact ⟨i + 1, _, by omega, by go_num, HI2.out⟩
        case measure => simp [intOf]; omega
      · have t64 : decide ((i : Int) < 64) = false := by simp; omega
        have t64n : decide (i < 64) = false := by simp; omega
        have hsz := HFL.out.size
        have HCR := Lib.hid (create_many w.heap.size _ (w.heap.size + 2) S (fun b => b < w.heap.size) hav (fun b h => by change b < w.heap.size at h; omega) HFL.out.lv (by omega) (by omega) (nmF i) (nmF_ok i (by omega)) (HFL.out.none i (Nat.le_refl _) (by omega)) (by omega))
        rw [HNM.out] at HCR
        clear hbw hs2 hcl hav hsz
        refine HCR.out.mono ?_
        rintro e w5 ⟨rfl, hlv, hav, hb5, -⟩
        have HI2 : Hid (FlI w (i + 1) (callS S) w5) := by
          refine ⟨hlv, ?_, ?_, fun j h1 h2 => HFL.out.none j (by omega) h2, hav, (HFL.out.below.trans (HB2.out.mono HFL.out.below.size)).trans hb5⟩
          · show S.calls + 1 = _
            have := HFL.out.calls
            omega
          · show size S.names = _
            have := HFL.out.size
            omega
        clear hlv hav hb5 HCR HB2 HNM h64
        go_wp2_with fail
        go_roundw
        case rel => exact ⟨i + 1, _, by omega, by go_num, HI2.out⟩
        case measure => simp [intOf]; omega
    · obtain rfl : i = n := by omega
      have t2 : decide ((i : Int) < (i : Int)) = false := by simp
      have hav := HFL.out.av
      have hcn := hav.canon.1
      have hcl := calls_any w.heap.size wr (w.heap.size + 2) S hav.at
      rw [HFL.out.calls] at hcl
      obtain ⟨L, hL⟩ : ∃ L, L = (strKeys S.names).mergeSort (fun x y => decide (x ≤ y)) := ⟨_, rfl⟩
      have hLp : L.Perm (strKeys S.names) := by rw [hL]; exact List.mergeSort_perm _ _
      have hLs : L.Pairwise (fun x y => decide (x ≤ y) = true) := by
        rw [hL]
        exact sort_pair _
      have hLl : L.length = min i 64 := by rw [hLp.length_eq, keys_len hcn]; exact HFL.out.size
      have hli := list_any w.heap.size wr (w.heap.size + 2) S hav.at HFL.out.lv.ok HFL.out.lv.dead L hLp hLs
      rw [hLl] at hli
      obtain ⟨K, hK⟩ : ∃ K, K = min i 64 := ⟨_, rfl⟩
      rw [← hK] at hli
      have em : min (i : Int) 64 = (K : Int) := by omega
      have HCL := Lib.hid hcl
      have HLI := Lib.hid hli
      have HLV := Lib.hid HFL.out.lv
      have HAV := Lib.hid hav
      have HB := Lib.hid HFL.out.below
      have HCC : Hid (S.calls < 100000) := by show _ < _; rw [HFL.out.calls]; omega
      have HCE : Hid (S.calls = (i : Int)) := HFL.out.calls
      have HOK := fun W => ok4_any W s HSZ.out
      have HOK4 := Lib.hid HOK
      clear hav hcn hcl hL hLp hLs hLl hli hK hi hlt HFL HOK
      go_wp2_with fail
      refine HCL.out.mono ?_
      rintro e w' ⟨rfl, rfl⟩
      go_wp2_with fail
      refine HLI.out.mono ?_
      rintro e w2 ⟨al, cl, rfl, -, hb2⟩
      have HAV2 := Lib.hid (HAV.out.below hb2)
      have HB2 := Lib.hid (HB.out.trans (hb2.mono HB.out.size))
      clear hb2 HAV HB HCL HLI
      have HAV := Lib.hid HAV2.out
      have HB := Lib.hid HB2.out
      clear HAV2 HB2
      go_wp2_with fail
      refine (HOK4.out _).mono ?_
      rintro e w' ⟨rfl, q, rfl⟩
      have HAV2 := Lib.hid (HAV.out.drewN q)
      have HB2 := Lib.hid (below_drewN HB.out q)
      clear HAV HB HOK4 em
      have HAV := Lib.hid HAV2.out
      have HB := Lib.hid HB2.out
      clear HAV2 HB2
      generalize w2.drewN q = w3 at *
      cases hok : okN s with
      | true =>
        clear HLV HAV HCC HCE hok
        go_wp2_with fail
        refine (awake4_any _).mono ?_
        rintro e w8 ⟨rfl, hb8⟩
        have HB8 : Hid (Below w.heap.size w w8) := HB.out.trans (hb8.mono HB.out.size)
        clear hb8
        go_wp2
        go_ret
        exact ⟨rfl, HB8.out⟩
      | false =>
        have HNA : Hid ((s.toList == sA.toList) = false) := toList_bne (fun e => by rw [e, okN_a] at hok; cases hok)
        have HNB : Hid ((sA3.toList == s.toList) = false) := toList_bne (fun e => by rw [← e, okN_a3] at hok; cases hok)
        have HO := Lib.hid hok
        have HSM : Hid (s.size ≤ maxLen) := by show _ ≤ _; have := HSZ.out; simp only [maxLen]; omega
        have hrd := read_any w.heap.size w3 (w.heap.size + 2) _ HAV.out.at HLV.out.ok s HSM.out 0 1 (by omega)
        unfold ReadPost at hrd
        rw [readF_bad hok] at hrd
        have HRD := Lib.hid hrd
        clear hok hrd
        simp only [List.length_nil] at HRD
        go_wp2_with fail
        refine HRD.out.mono ?_
        rintro e w4 ⟨a4, cap4, rfl, -, hb4⟩
        have HAV2 := Lib.hid (HAV.out.below hb4)
        have HB2 := Lib.hid (HB.out.trans (hb4.mono HB.out.size))
        clear HAV HB HRD hb4
        have hsz := size_any w.heap.size w4 (w.heap.size + 2) _ HAV2.out.at HLV.out.ok s HSM.out
        rw [sizeF_bad HO.out] at hsz
        have HSI := Lib.hid hsz
        clear hsz
        go_wp2_with fail
        refine HSI.out.mono ?_
        rintro e w' ⟨rfl, q4, rfl⟩
        have HAV := Lib.hid (HAV2.out.drewN q4)
        have HB := Lib.hid (below_drewN HB2.out q4)
        clear HAV2 HB2 HSI
        generalize w4.drewN q4 = w5 at *
        go_wp2_with fail
        refine (create_bad w.heap.size _ (w.heap.size + 2) S (fun b => b < w.heap.size) HAV.out (fun b h => by have := HB.out.size; change b < w.heap.size at h; omega) HLV.out HB.out.size HCC.out s HO.out HSM.out).mono ?_
        clear HLV HAV
        rintro e w' ⟨rfl, hlv, hav, hb, -⟩
        have HLV := Lib.hid hlv
        have HAV := Lib.hid hav
        have HB' := Lib.hid (HB.out.trans hb)
        clear hlv hav hb HB
        have HB := Lib.hid HB'.out
        clear HB'
        go_wp2_with fail
        refine (append_bad w.heap.size _ (w.heap.size + 2) S (fun b => b < w.heap.size) HAV.out (fun b h => by have := HB.out.size; change b < w.heap.size at h; omega) HLV.out HB.out.size HCC.out s HO.out HSM.out none 0 [] (Row.nil _ _ _) (.inl rfl)).mono ?_
        clear HLV HAV
        rintro e w' ⟨rfl, hlv, hav, hb, -⟩
        have HLV := Lib.hid hlv
        have HAV := Lib.hid hav
        have HB' := Lib.hid (HB.out.trans hb)
        clear hlv hav hb HB
        have HB := Lib.hid HB'.out
        clear HB'
        go_wp2_with fail
        refine (sync_bad w.heap.size _ (w.heap.size + 2) S (fun b => b < w.heap.size) HAV.out (fun b h => by have := HB.out.size; change b < w.heap.size at h; omega) HLV.out HB.out.size HCC.out s HO.out HSM.out).mono ?_
        clear HLV HAV
        rintro e w' ⟨rfl, hlv, hav, hb, -⟩
        have HLV := Lib.hid hlv
        have HAV := Lib.hid hav
        have HB' := Lib.hid (HB.out.trans hb)
        clear hlv hav hb HB
        have HB := Lib.hid HB'.out
        clear HB'
        go_wp2_with fail
        refine (remove_bad w.heap.size _ (w.heap.size + 2) S (fun b => b < w.heap.size) HAV.out (fun b h => by have := HB.out.size; change b < w.heap.size at h; omega) HLV.out HB.out.size HCC.out s HO.out HSM.out).mono ?_
        clear HLV HAV
        rintro e w' ⟨rfl, hlv, hav, hb, -⟩
        have HLV := Lib.hid hlv
        have HAV := Lib.hid hav
        have HB' := Lib.hid (HB.out.trans hb)
        clear hlv hav hb HB
        have HB := Lib.hid HB'.out
        clear HB'
        go_wp2_with fail
        refine (rename_bad w.heap.size _ (w.heap.size + 2) S (fun b => b < w.heap.size) HAV.out (fun b h => by have := HB.out.size; change b < w.heap.size at h; omega) HLV.out HB.out.size HCC.out s sA HSM.out (by decide) HNA.out (.inr HO.out)).mono ?_
        clear HLV HAV
        rintro e w' ⟨rfl, hlv, hav, hb, -⟩
        have HLV := Lib.hid hlv
        have HAV := Lib.hid hav
        have HB' := Lib.hid (HB.out.trans hb)
        clear hlv hav hb HB
        have HB := Lib.hid HB'.out
        clear HB'
        go_wp2_with fail
        refine (rename_bad w.heap.size _ (w.heap.size + 2) S (fun b => b < w.heap.size) HAV.out (fun b h => by have := HB.out.size; change b < w.heap.size at h; omega) HLV.out HB.out.size HCC.out sA3 s (by decide) HSM.out HNB.out (.inl HO.out)).mono ?_
        clear HLV HAV
        rintro e w' ⟨rfl, hlv, hav, hb, -⟩
        have HLV := Lib.hid hlv
        have HAV := Lib.hid hav
        have HB' := Lib.hid (HB.out.trans hb)
        clear hlv hav hb HB
        have HB := Lib.hid HB'.out
        clear HB'
        go_wp2_with fail
        have hcl := calls_any w.heap.size _ (w.heap.size + 2) S HAV.out.at
        rw [HCE.out] at hcl
        have HCL := Lib.hid hcl
        clear hcl
        refine HCL.out.mono ?_
        rintro e w' ⟨rfl, rfl⟩
        clear HLV HAV HCC HCE HCL
        go_wp2_with fail
        refine (awake4_any _).mono ?_
        rintro e w8 ⟨rfl, hb8⟩
        have HB8 : Hid (Below w.heap.size w w8) := HB.out.trans (hb8.mono HB.out.size)
        clear hb8
        go_wp2
        go_ret
        exact ⟨rfl, HB8.out⟩
end Go.Proofs.Ytelndbjjkhlacaa
