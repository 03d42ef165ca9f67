/-
  The statement BwtNear: its walk.
-/
import Derived.Test.YtddceidepmckiaaBwtTells
import Derived.Test.YtddceidepmckiaaBwtCls
namespace Go.Proofs.Ytddceidepmckiaa
open Go.RowKit

theorem below_set (f : Nat → Nat) (c k : Nat) : ∀ (l : List Nat) (i : Nat), below (l.set i c) f k ≤ below l f k + 1
  | [], i => by simp [below]
  | x :: l, 0 => by
    unfold below
    simp only [List.set_cons_zero, List.filter_cons]
    split <;> split <;> simp <;> omega
  | x :: l, i + 1 => by
    have ih := below_set f c k l i
    unfold below at ih ⊢
    simp only [List.set_cons_succ, List.filter_cons]
    split <;> simp <;> omega
theorem stC_set (L : List Nat) (i c : Nat) : stC (L.set i c) 1 ≤ stC L 1 + 1 := below_set _ _ _ _ _
theorem symVs_set (L : List Nat) (k c : Nat) : (symVs L).set k (.int .u16 (c : Int)) = symVs (L.set k c) := by
  unfold symVs; rw [List.map_set]
theorem mem_set_lt {L : List Nat} {B i c : Nat} (h : ∀ x ∈ L, x < B) (hc : c < B) : ∀ x ∈ L.set i c, x < B := fun x hx => by
  rcases List.mem_or_eq_of_mem_set hx with h1 | h1
  · exact h x h1
  · omega
theorem set_get (L : List Nat) (i c k : Nat) (hk : k < L.length) : (L.set i c).getD k 0 = if i = k then c else L.getD k 0 := by
  rw [List.getD_eq_getElem?_getD, List.getElem?_set, List.getD_eq_getElem?_getD]
  split
  · rename_i h; rw [if_pos (by omega)]; rfl
  · rfl
set_option maxRecDepth 100000 in
set_option maxHeartbeats 4000000 in
theorem bnear_walk (w : World) (a : Option Addr) (cap : Nat) (A : Nat → Option Addr) (C : Nat → Nat) (ds : List (List Nat)) (hin : DocsIn w a A C ds) (i : Int) (_ : (Lit.int .i64 i).wf = true) (k : Int) (_ : (Lit.int .i64 k).wf = true) (c : Int) (hcw : (Lit.int .u16 c).wf = true) :
    Calls Try.prog 10 #[.slice a ds.length cap, .int .i64 i, .int .i64 k, .int .u16 c] w fun e w' => e = .returned (.bool true) ∧ Below w.heap.size w w' := by
  have hcb := bounds_u16 hcw
  obtain ⟨q, hq⟩ : ∃ q : Nat, c = (q : Int) := ⟨c.toNat, by omega⟩
  subst hq
  have HF := Lib.hid (few_any w a cap A C ds hin.many hin.docs hin.long)
  have HIN := Lib.hid hin
  clear hin hcw
  go_enter Try.func10, Try.ntmps10
  go_wp2_with fail
  refine HF.out.mono ?_
  rintro e w' ⟨b, rfl, hfew, rfl⟩
  cases b with
  | false =>
    clear hfew
    go_wp2_with (go_at_call 32; refine (awake11_any _).mono ?_; rintro e w1 ⟨rfl, hb⟩)
    go_ret
    exact ⟨rfl, hb⟩
  | true =>
    obtain ⟨hf1, hf2, hf3⟩ := hfew rfl
    have HFEW := Lib.hid (FewP.mk hf1 hf2 hf3 HIN.out.byte)
    clear hfew hf2 HF
    have HOK := Lib.hid HFEW.out.ok
    have hall := HOK.out.all
    go_wp2_with fail
    refine (strings_any w a cap A C ds (by omega) HIN.out.docs).mono ?_
    rintro e w1 ⟨ax, cx, rfl, hrs, hb1⟩
    have HS1 := Lib.hid hrs
    have HB1 := Lib.hid hb1
    clear hrs hb1
    go_wp2_with fail
    refine (refbwt_any w1 ax cx ds HS1.out HFEW.out.byte (by omega)).mono ?_
    rintro e w2 ⟨a3, c3, rfl, ho3, hb2⟩
    have HO2 := Lib.hid (owns_lower ho3 HB1.out.size)
    have HB2 : Hid (Below w.heap.size w w2) := below_next HB1.out hb2 HB1.out.size
    clear ho3 hb2 HS1 HB1
    have hbl : (bwtOf ds).length ≤ 3040 := by rw [bwtOf_len]; exact hf3
    have HLE : Hid (∀ x ∈ bwtOf ds, x < 65536) := fun x hx => by have := bwtOf_le ds HFEW.out.byte x hx; omega
    have HST0 : Hid (stC (bwtOf ds) 1 ≤ 40) := by rw [bwt_zeros]; exact hf1
    generalize bwtOf ds = L at *
    by_cases h0 : L.length = 0
    · have h0b : ((L.length : Int) == 0) = true := by rw [h0]; rfl
      clear h0
      go_wp2_with (go_at_call 32; refine (awake11_any _).mono ?_; rintro e w3 ⟨rfl, hb3⟩)
      have HB3 : Hid (Below w.heap.size w w3) := below_next HB2.out hb3 HB2.out.size
      go_ret
      exact ⟨rfl, HB3.out⟩
    · have h0b : ((L.length : Int) == 0) = false := by rw [beq_eq_false_iff_ne]; omega
      have h0c : ¬ ((L.length : Int) = 0) := by omega
      have ei : bits .and .i64 i 65535 = i % 65536 := i64_mask i 16 (by omega)
      have ek : bits .and .i64 k 65535 = k % 65536 := i64_mask k 16 (by omega)
      obtain ⟨i1, hi1, hi2⟩ : ∃ i1 : Nat, i % 65536 % (L.length : Int) = i1 ∧ i1 < L.length := ⟨(i % 65536 % (L.length : Int)).toNat, by
        have := Int.emod_nonneg (i % 65536) h0c; omega, by
        have := Int.emod_lt_of_pos (i % 65536) (show (0 : Int) < (L.length : Int) by omega); omega⟩
      obtain ⟨k1, hk1, hk2⟩ : ∃ i1 : Nat, k % 65536 % (L.length : Int) = i1 ∧ i1 < L.length := ⟨(k % 65536 % (L.length : Int)).toNat, by
        have := Int.emod_nonneg (k % 65536) h0c; omega, by
        have := Int.emod_lt_of_pos (k % 65536) (show (0 : Int) < (L.length : Int) by omega); omega⟩
      have ei3 : (i % 65536).tmod (L.length : Int) = (i1 : Int) := by rw [Int.tmod_eq_emod_of_nonneg (by omega)]; exact hi1
      have ek3 : (k % 65536).tmod (L.length : Int) = (k1 : Int) := by rw [Int.tmod_eq_emod_of_nonneg (by omega)]; exact hk1
      clear h0
      go_wp2_with fail
      go_quiet (fail)
      clear ei ek hi1 hk1 ei3 ek3 h0b h0c
      have HO3 := Lib.hid (owns_drewN HO2.out nq)
      have HB3 : Hid (Below w.heap.size w (w2.drewN nq)) := below_drewN HB2.out nq
      clear HO2 HB2
      generalize w2.drewN nq = w3 at *
      obtain ⟨c1, f1, k1', b1, s1⟩ := owns_store HO3.out i1 hi2
      obtain ⟨c2, f2, k2', b2, s2⟩ := owns_store HO3.out k1 hk2
      rw [symVs_at _ _ hi2] at c1
      rw [symVs_at _ _ hk2] at c2
      have hX : L.getD i1 0 < 65536 := HLE.out _ (getD_mem' hi2)
      have hY : L.getD k1 0 < 65536 := HLE.out _ (getD_mem' hk2)
      have HM1 := Lib.hid (mem_set_lt (i := k1) (mem_set_lt (i := i1) HLE.out hY) hX)
      have HSTM1 : Hid (stC ((L.set i1 (L.getD k1 0)).set k1 (L.getD i1 0)) 1 ≤ 42) := by
        have g1 := stC_set L i1 (L.getD k1 0)
        have g2 := stC_set (L.set i1 (L.getD k1 0)) k1 (L.getD i1 0)
        have g3 := HST0.out
        exact Nat.le_trans g2 (by omega)
      obtain ⟨o1, g1⟩ := s1 (.int .u16 ((L.getD k1 0 : Nat) : Int))
      obtain ⟨c4, f4, k4, b4, s4⟩ := owns_store o1 k1 hk2
      obtain ⟨o2, g2⟩ := s4 (.int .u16 ((L.getD i1 0 : Nat) : Int))
      rw [symVs_set, symVs_set] at o2
      rw [symVs_set, symVs_at _ _ (by rw [List.length_set]; exact hk2), set_get _ _ _ _ hk2, ite_self] at c4
      have HO4 := Lib.hid o2
      have HLM0 : Hid (((L.set i1 (L.getD k1 0)).set k1 (L.getD i1 0)).length = L.length) := (by simp : _ = _)
      generalize (L.set i1 (L.getD k1 0)).set k1 (L.getD i1 0) = M at *
      have hs3 : w.heap.size ≤ w3.heap.size := HB3.out.size
      have HB4 : Hid (Below w.heap.size w ((w3.setCell ⟨bOf a3, oOf a3 + i1, none⟩ (.int .u16 ((L.getD k1 0 : Nat) : Int))).setCell ⟨bOf a3, oOf a3 + k1, none⟩ (.int .u16 ((L.getD i1 0 : Nat) : Int)))) :=
        below_gb (below_gb HB3.out g1 hs3 b1) g2 (Nat.le_trans hs3 g1.size) b1
      have hix := run_ix (P := Try.prog) 52 (by kernel_rfl) size_u16 a3 L.length c3 k1' .i64
      have hx1 := fun W => hix W i1 hi2
      have hx2 := fun W => hix W k1 hk2
      obtain ⟨y, hy⟩ : ∃ y, (w3.setCell ⟨bOf a3, oOf a3 + i1, none⟩ (.int .u16 ((L.getD k1 0 : Nat) : Int))).cell? ⟨bOf a3, oOf a3 + k1, none⟩ = some y := ⟨_, c4⟩
      clear s1 s2 s4 o1 o2 g1 g2 k2' k4 b2 b4 c4 hix
      generalize L.getD i1 0 = X at *
      generalize L.getD k1 0 = Y at *
      go_wp2_with fail
      go_region
      have HO5 := Lib.hid HO4.out.drew
      have HB5 : Hid (Below w.heap.size w _) := HB4.out.drew
      clear HO4 HB4 hy f4 f1 f2 c1 c2 HO3 HB3 hs3 hX hY
      generalize ((w3.setCell ⟨bOf a3, oOf a3 + i1, none⟩ (.int .u16 (Y : Int))).setCell ⟨bOf a3, oOf a3 + k1, none⟩ (.int .u16 (X : Int))).drew = w5 at *
      by_cases hc3 : (q : Int) < 300
      · obtain ⟨c6, f6, k6, b6, s6⟩ := owns_store HO5.out i1 hi2
        rw [symVs_at _ _ (by rw [HLM0.out]; exact hi2)] at c6
        obtain ⟨o6, g6⟩ := s6 (.int .u16 (q : Int))
        rw [symVs_set] at o6
        have HOM := Lib.hid o6
        have HMM := Lib.hid (mem_set_lt (i := i1) HM1.out (show q < 65536 by omega))
        have HSTM : Hid (stC (M.set i1 q) 1 ≤ 500) := Nat.le_trans (stC_set M i1 q) (by have := HSTM1.out; omega)
        have HLM : Hid ((M.set i1 q).length = L.length) := (by rw [List.length_set]; exact HLM0.out : _ = _)
        have hs5 : w.heap.size ≤ w5.heap.size := HB5.out.size
        have HBM : Hid (Below w.heap.size w (w5.setCell ⟨bOf a3, oOf a3 + i1, none⟩ (.int .u16 (q : Int)))) := below_gb HB5.out g6 hs5 b6
        clear s6 o6 g6 k6 HM1 HSTM1 HLM0
        generalize M.getD i1 0 = Z at *
        generalize M.set i1 q = M at *
        go_wp2_with fail
        generalize w5.setCell ⟨bOf a3, oOf a3 + i1, none⟩ (.int .u16 (q : Int)) = w6 at *
        clear c6 f6 hx1 hx2 HO5 HB5
        have hst : stC M 1 ≤ 500 := HSTM.out
        have hml : M.length ≤ 3040 := by rw [HLM.out]; exact hbl
        have HRM := Lib.hid (symVs_row (L := M) (by rw [HLM.out]; exact HOM.out))
        have HDC := Lib.hid (docs_cls w6 a3 c3 M (by omega) hst HRM.out)
        have HRC := Lib.hid (fun (W : World) (hW : Row W a3 M.length (symV M)) => refdocs_cls W a3 c3 M (by omega) hst hW HMM.out)
        have HOC := Lib.hid (fun (W : World) (hW : Row W a3 M.length (symV M)) => ok_cls W a3 c3 M (by omega) hst hW)
        rw [HLM.out] at HDC HRC HOC HRM
        go_wp2_with fail
        refine HDC.out.mono ?_
        rintro e w5 ⟨z, a5, A5, c5, es, rfl, hd5, hcls, hok, hb5⟩
        have HCLS := Lib.hid hcls
        have HOK5 := Lib.hid hok
        have HD1 := Lib.hid hd5
        have HB5 : Hid (Below w.heap.size w w5) := below_next HBM.out hb5 HBM.out.size
        have HR5 := Lib.hid (HRM.out.kept hb5)
        clear hcls hd5 hb5
        have hesl := hok.many
        clear hok
        go_wp2_with fail
        refine (HRC.out w5 HR5.out z es HCLS.out).mono ?_
        rintro e w6 ⟨a7, c7, rfl, hr7, hb6⟩
        have HS2 := Lib.hid hr7
        have HD2 := Lib.hid (HD1.out.kept hb6)
        have HB6 : Hid (Below w.heap.size w w6) := below_next HB5.out hb6 HB5.out.size
        have HR6 := Lib.hid (HR5.out.kept hb6)
        clear hr7 hb6 HD1 HB5 HR5
        have hzz : (z != z) = false := by simp
        go_wp2_with fail
        refine (strings_any w6 a5 c5 A5 _ es (by omega) HD2.out).mono ?_
        rintro e w7 ⟨a8, c8, rfl, hr8, hb7⟩
        have hst2 := sametexts_any w7 a8 a7 c8 c7 es es (by omega) HOK5.out.byte HOK5.out.byte hr8 (HS2.out.kept hb7)
        rw [decide_eq_true (rfl : es = es)] at hst2
        have HST := Lib.hid hst2
        have HB7 : Hid (Below w.heap.size w w7) := below_next HB6.out hb7 HB6.out.size
        have HR7 := Lib.hid (HR6.out.kept hb7)
        have HD7 := Lib.hid (HD2.out.kept hb7)
        clear hr8 hb7 hst2 HS2 HD2 HB6 HR6
        go_wp2_with fail
        refine HST.out.mono ?_
        rintro e w' ⟨rfl, m, rfl⟩
        have HB8 : Hid (Below w.heap.size w (w7.drewN m)) := below_drewN HB7.out m
        have HR8 := Lib.hid (HR7.out.drewN m)
        have HD8 := Lib.hid (HD7.out.drewN m)
        clear HST HB7 HR7 HD7 hzz
        generalize w7.drewN m = w8 at *
        by_cases hz : z = 0
        · subst hz
          have HDL := Lib.hid HCLS.out.ok
          go_wp2_with fail
          refine (tnew_any w8 a5 c5 A5 _ es HD8.out HOK5.out).mono ?_
          rintro e w9 ⟨bt, x, rfl, ht, hb9⟩
          have HT := Lib.hid ht
          have HB9 : Hid (Below w.heap.size w w9) := below_next HB8.out hb9 HB8.out.size
          have HR9 := Lib.hid (HR8.out.kept hb9)
          clear ht hb9 HB8 HR8 HD8
          go_wp2_with fail
          refine (of_any w9 bt x es HT.out HOK5.out).mono ?_
          rintro e w10 ⟨a10, rfl, hr10, hb10, hlo10⟩
          have HSM := Lib.hid (samesyms_any w10 a10 a3 (bwtOf es).length c3 (bwtOf es) M (by rw [HDL.out.1.2]; omega) (by omega) hr10 (by have := HR9.out.kept hb10; rw [← HLM.out] at this; exact this))
          rw [decide_eq_true (HDL.out.1.2), HLM.out] at HSM
          have HB10 : Hid (Below w.heap.size w w10) := below_next HB9.out hb10 HB9.out.size
          clear hr10 hb10 hlo10 HB9 HR9
          go_wp2_with fail
          refine HSM.out.mono ?_
          rintro e w' ⟨rfl, m2, rfl⟩
          have HB11 : Hid (Below w.heap.size w (w10.drewN m2)) := below_drewN HB10.out m2
          generalize w10.drewN m2 = w11 at *
          go_wp2_with (go_at_call 32; refine (awake11_any _).mono ?_; rintro e w12 ⟨rfl, hb12⟩)
          have HB12 : Hid (Below w.heap.size w w12) := below_next HB11.out hb12 HB11.out.size
          go_ret
          exact ⟨rfl, HB12.out⟩
        · have hzn : (z != 0) = true := by rw [bne_iff_ne]; exact hz
          have hzf : (z == 0) = false := by rw [beq_eq_false_iff_ne]; exact hz
          have HOK9 := Lib.hid (HOC.out w8 HR8.out z es HCLS.out)
          rw [hzf] at HOK9
          clear hz hzf
          go_wp2_with fail
          refine HOK9.out.mono ?_
          rintro e w9 ⟨rfl, hb9⟩
          have HB9 : Hid (Below w.heap.size w w9) := below_next HB8.out hb9 HB8.out.size
          clear hb9
          go_wp2_with (go_at_call 32; refine (awake11_any _).mono ?_; rintro e w12 ⟨rfl, hb12⟩)
          have HB12 : Hid (Below w.heap.size w w12) := below_next HB9.out hb12 HB9.out.size
          go_ret
          exact ⟨rfl, HB12.out⟩
      · have hc3d : decide ((q : Int) < 300) = false := by simp; omega
        have HOM := Lib.hid HO5.out
        have HMM := HM1
        have HLM := HLM0
        have HSTM : Hid (stC M 1 ≤ 500) := Nat.le_trans HSTM1.out (by omega)
        have HBM := HB5
        clear hc3 hx1 hx2
        have hst : stC M 1 ≤ 500 := HSTM.out
        have hml : M.length ≤ 3040 := by rw [HLM.out]; exact hbl
        have HRM := Lib.hid (symVs_row (L := M) (by rw [HLM.out]; exact HOM.out))
        have HDC := Lib.hid (docs_cls w5 a3 c3 M (by omega) hst HRM.out)
        have HRC := Lib.hid (fun (W : World) (hW : Row W a3 M.length (symV M)) => refdocs_cls W a3 c3 M (by omega) hst hW HMM.out)
        have HOC := Lib.hid (fun (W : World) (hW : Row W a3 M.length (symV M)) => ok_cls W a3 c3 M (by omega) hst hW)
        rw [HLM.out] at HDC HRC HOC HRM
        go_wp2_with fail
        refine HDC.out.mono ?_
        rintro e w5 ⟨z, a5, A5, c5, es, rfl, hd5, hcls, hok, hb5⟩
        have HCLS := Lib.hid hcls
        have HOK5 := Lib.hid hok
        have HD1 := Lib.hid hd5
        have HB5 : Hid (Below w.heap.size w w5) := below_next HBM.out hb5 HBM.out.size
        have HR5 := Lib.hid (HRM.out.kept hb5)
        clear hcls hd5 hb5
        have hesl := hok.many
        clear hok
        go_wp2_with fail
        refine (HRC.out w5 HR5.out z es HCLS.out).mono ?_
        rintro e w6 ⟨a7, c7, rfl, hr7, hb6⟩
        have HS2 := Lib.hid hr7
        have HD2 := Lib.hid (HD1.out.kept hb6)
        have HB6 : Hid (Below w.heap.size w w6) := below_next HB5.out hb6 HB5.out.size
        have HR6 := Lib.hid (HR5.out.kept hb6)
        clear hr7 hb6 HD1 HB5 HR5
        have hzz : (z != z) = false := by simp
        go_wp2_with fail
        refine (strings_any w6 a5 c5 A5 _ es (by omega) HD2.out).mono ?_
        rintro e w7 ⟨a8, c8, rfl, hr8, hb7⟩
        have hst2 := sametexts_any w7 a8 a7 c8 c7 es es (by omega) HOK5.out.byte HOK5.out.byte hr8 (HS2.out.kept hb7)
        rw [decide_eq_true (rfl : es = es)] at hst2
        have HST := Lib.hid hst2
        have HB7 : Hid (Below w.heap.size w w7) := below_next HB6.out hb7 HB6.out.size
        have HR7 := Lib.hid (HR6.out.kept hb7)
        have HD7 := Lib.hid (HD2.out.kept hb7)
        clear hr8 hb7 hst2 HS2 HD2 HB6 HR6
        go_wp2_with fail
        refine HST.out.mono ?_
        rintro e w' ⟨rfl, m, rfl⟩
        have HB8 : Hid (Below w.heap.size w (w7.drewN m)) := below_drewN HB7.out m
        have HR8 := Lib.hid (HR7.out.drewN m)
        have HD8 := Lib.hid (HD7.out.drewN m)
        clear HST HB7 HR7 HD7 hzz
        generalize w7.drewN m = w8 at *
        by_cases hz : z = 0
        · subst hz
          have HDL := Lib.hid HCLS.out.ok
          go_wp2_with fail
          refine (tnew_any w8 a5 c5 A5 _ es HD8.out HOK5.out).mono ?_
          rintro e w9 ⟨bt, x, rfl, ht, hb9⟩
          have HT := Lib.hid ht
          have HB9 : Hid (Below w.heap.size w w9) := below_next HB8.out hb9 HB8.out.size
          have HR9 := Lib.hid (HR8.out.kept hb9)
          clear ht hb9 HB8 HR8 HD8
          go_wp2_with fail
          refine (of_any w9 bt x es HT.out HOK5.out).mono ?_
          rintro e w10 ⟨a10, rfl, hr10, hb10, hlo10⟩
          have HSM := Lib.hid (samesyms_any w10 a10 a3 (bwtOf es).length c3 (bwtOf es) M (by rw [HDL.out.1.2]; omega) (by omega) hr10 (by have := HR9.out.kept hb10; rw [← HLM.out] at this; exact this))
          rw [decide_eq_true (HDL.out.1.2), HLM.out] at HSM
          have HB10 : Hid (Below w.heap.size w w10) := below_next HB9.out hb10 HB9.out.size
          clear hr10 hb10 hlo10 HB9 HR9
          go_wp2_with fail
          refine HSM.out.mono ?_
          rintro e w' ⟨rfl, m2, rfl⟩
          have HB11 : Hid (Below w.heap.size w (w10.drewN m2)) := below_drewN HB10.out m2
          generalize w10.drewN m2 = w11 at *
          go_wp2_with (go_at_call 32; refine (awake11_any _).mono ?_; rintro e w12 ⟨rfl, hb12⟩)
          have HB12 : Hid (Below w.heap.size w w12) := below_next HB11.out hb12 HB11.out.size
          go_ret
          exact ⟨rfl, HB12.out⟩
        · have hzn : (z != 0) = true := by rw [bne_iff_ne]; exact hz
          have hzf : (z == 0) = false := by rw [beq_eq_false_iff_ne]; exact hz
          have HOK9 := Lib.hid (HOC.out w8 HR8.out z es HCLS.out)
          rw [hzf] at HOK9
          clear hz hzf
          go_wp2_with fail
          refine HOK9.out.mono ?_
          rintro e w9 ⟨rfl, hb9⟩
          have HB9 : Hid (Below w.heap.size w w9) := below_next HB8.out hb9 HB8.out.size
          clear hb9
          go_wp2_with (go_at_call 32; refine (awake11_any _).mono ?_; rintro e w12 ⟨rfl, hb12⟩)
          have HB12 : Hid (Below w.heap.size w w12) := below_next HB9.out hb12 HB9.out.size
          go_ret
          exact ⟨rfl, HB12.out⟩
end Go.Proofs.Ytddceidepmckiaa
