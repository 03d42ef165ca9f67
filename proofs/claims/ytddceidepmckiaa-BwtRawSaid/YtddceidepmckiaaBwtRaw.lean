/-
  The statement BwtRaw: its walk.
-/
import Derived.Test.YtddceidepmckiaaBwtCls
import Derived.Test.YtddceidepmckiaaRowCap
namespace Go.Proofs.Ytddceidepmckiaa
open Go.RowKit

/-- is there a Step at a place? -/
def goodI (L : List Nat) (i : Int) : Prop := 0 ≤ i ∧ i < L.length ∧ L.getD i.toNat 0 ≠ 0 ∧ L.getD i.toNat 0 ≤ 256
set_option maxRecDepth 100000 in
set_option maxHeartbeats 1000000 in
theorem step_no (w : World) (a : Option Addr) (cap : Nat) (L : List Nat) (hr : Row w a L.length (symV L)) (i : Int) (hg : ¬ goodI L i) :
    Calls Try.prog 45 #[.slice a L.length cap, .int .i64 i] w fun e w' => e = .returned (.tuple #[.int .i64 0, .bool false]) ∧ w = w' := by
  have hix := run_ix (P := Try.prog) 52 (by kernel_rfl) size_u16 a L.length cap hr.at_ .i64
  by_cases h1 : i < 0
  · clear hg hix hr
    go_enter Try.func45, Try.ntmps45
    go_wp2
    go_ret2
    exact ⟨rfl, rfl⟩
  · have h1d : decide (i < 0) = false := by simp; omega
    by_cases h2 : (L.length : Int) ≤ i
    · clear hg hix hr h1
      go_enter Try.func45, Try.ntmps45
      go_wp2
      go_ret2
      exact ⟨rfl, rfl⟩
    · obtain ⟨k, hk⟩ : ∃ k : Nat, i = (k : Int) := ⟨i.toNat, by omega⟩
      subst hk
      have h2d : decide ((L.length : Int) ≤ (k : Int)) = false := by simp; omega
      have hkl : k < L.length := by omega
      have d0 : w.cell? ⟨bOf a, oOf a + k, none⟩ = some (.int .u16 ((L.getD k 0 : Nat) : Int)) := hr.cell k hkl
      by_cases h3 : L.getD k 0 = 0
      · have d1 : w.cell? ⟨bOf a, oOf a + k, none⟩ = some (.int .u16 0) := by rw [d0, h3]; rfl
        clear hg hr h3 d0 h1 h2
        go_enter Try.func45, Try.ntmps45
        go_wp2
        go_ret2
        exact ⟨rfl, rfl⟩
      · have h4 : 256 < L.getD k 0 := by
          rcases Nat.lt_or_ge 256 (L.getD k 0) with h | h
          · exact h
          · exact (hg ⟨by omega, by omega, by rw [Int.toNat_natCast]; exact h3, by rw [Int.toNat_natCast]; exact h⟩).elim
        have t3 : (((L.getD k 0 : Nat) : Int) == 0) = false := by rw [beq_eq_false_iff_ne]; omega
        have t4 : (256 : Int) < ((L.getD k 0 : Nat) : Int) := by omega
        clear hg hr h3 h4 h1 h2
        generalize L.getD k 0 = c at *
        go_enter Try.func45, Try.ntmps45
        go_wp2
        go_ret2
        exact ⟨rfl, rfl⟩
set_option maxRecDepth 100000 in
set_option maxHeartbeats 4000000 in
theorem braw_walk (w : World) (a : Option Addr) (len cap : Nat) (f : Nat → Int) (hl : len ≤ maxLen) (hcap : len ≤ cap) (hr : Row w a len (fun k => .int .u16 (f k)) ∧ ∀ k, k < len → (Lit.int .u16 (f k)).wf = true) (i : Int) (hi : (Lit.int .i64 i).wf = true) :
    Calls Try.prog 12 #[.slice a len cap, .int .i64 i] w fun e w' => e = .returned (.bool true) ∧ Below w.heap.size w w' := by
  obtain ⟨L, hd, hdr, hm⟩ := syms_list hr
  subst hd
  have hib := bounds_i64 hi
  unfold maxLen at hl
  have HR := Lib.hid hdr
  have HM := Lib.hid hm
  have hix := run_ix (P := Try.prog) 52 (by kernel_rfl) size_u16 a L.length cap hdr.at_ .i64
  have HC := Lib.hid hcap
  clear hr hdr hm hi hcap
  by_cases h300 : (300 : Int) < (L.length : Int)
  · clear hix
    go_enter Try.func12, Try.ntmps12
    go_wp2_with (go_at_call 32; refine (awake11_any _).mono ?_; rintro e w1 ⟨rfl, hb⟩)
    go_ret
    exact ⟨rfl, hb⟩
  · have h3d : decide ((300 : Int) < (L.length : Int)) = false := by simp; omega
    have hL : L.length ≤ 300 := by omega
    have HL := Lib.hid hL
    have hst : stC L 1 ≤ 500 := Nat.le_trans (stC_le L 1) (by omega)
    clear h300 hl
    go_enter Try.func12, Try.ntmps12
    go_wp2_with fail
    refine (docs_cls w a cap L (by omega) hst HR.out).mono ?_
    rintro e w1 ⟨z, a5, A5, c5, es, rfl, hd5, hcls, hok, hb1⟩
    have HCLS := Lib.hid hcls
    have HOK := Lib.hid hok
    have HD1 := Lib.hid hd5
    have HB1 := Lib.hid hb1
    have HR1 := Lib.hid (HR.out.kept hb1)
    clear hcls hd5 hb1 h3d
    have hesl := hok.many
    clear hok
    go_wp2_with fail
    refine (refdocs_cls w1 a cap L (by omega) hst HR1.out HM.out z es HCLS.out).mono ?_
    rintro e w2 ⟨a7, c7, rfl, hr7, hb2⟩
    have HS2 := Lib.hid hr7
    have HD2 := Lib.hid (HD1.out.kept hb2)
    have HB2 : Hid (Below w.heap.size w w2) := below_next HB1.out hb2 HB1.out.size
    clear hr7 hb2 HD1 HB1 HR1
    have hzz : (z != z) = false := by simp
    go_wp2_with fail
    refine (strings_any w2 a5 c5 A5 _ es (by omega) HD2.out).mono ?_
    rintro e w3 ⟨a8, c8, rfl, hr8, hb3⟩
    have hst2 := sametexts_any w3 a8 a7 c8 c7 es es (by omega) HOK.out.byte HOK.out.byte hr8 (HS2.out.kept hb3)
    rw [decide_eq_true (rfl : es = es)] at hst2
    have HST := Lib.hid hst2
    have HB3 : Hid (Below w.heap.size w w3) := below_next HB2.out hb3 HB2.out.size
    clear hr8 hb3 hst2 HS2 HD2 HB2
    go_wp2_with fail
    refine HST.out.mono ?_
    rintro e w' ⟨rfl, m, rfl⟩
    have HB4 : Hid (Below w.heap.size w (w3.drewN m)) := below_drewN HB3.out m
    have HR4 := Lib.hid (HR.out.kept HB4.out)
    clear HST HB3
    generalize w3.drewN m = w4 at *
    go_wp2_with fail
    refine (ok_cls w4 a cap L (by omega) hst HR4.out z es HCLS.out).mono ?_
    rintro e w5 ⟨rfl, hb5⟩
    have HB5 : Hid (Below w.heap.size w w5) := below_next HB4.out hb5 HB4.out.size
    have HR5 := Lib.hid (HR.out.kept HB5.out)
    clear hb5 HB4 HR4 hzz
    have hbb : ((z == 0) != (z == 0)) = false := by simp
    have hzv := zero_arr
    go_wp2_with fail
    refine (starts_any w5 a cap L (by omega) HR5.out).mono ?_
    rintro e w6 ⟨rfl, hb6⟩
    have HS0 := Lib.hid (store_new w6 (stC L))
    have hb7 : Below w.heap.size w (w6.alloc (.cells (arrV (stC L)) 57)) := by
      have := below_next HB5.out hb6 HB5.out.size
      exact this.alloc this.size _
    have HB7 := Lib.hid hb7
    have HR7 := Lib.hid (HR.out.kept hb7)
    have HA7 := Lib.hid (arr_new w6 (stC L))
    clear hb6 hb7 HB5 HR5
    go_wp2_with (with_reducible refine wpList_store_run rfl _ _ _ rfl HS0.out rfl rfl ?_)
    clear hzv HS0 hbb
    generalize hN : w6.heap.size = N at *
    generalize w6.alloc (.cells (arrV (stC L)) 57) = w7 at *
    clear hN
    refine (refstarts_any w7 a cap L (by omega) HR7.out HM.out).mono ?_
    rintro e w8 ⟨b8, rfl, hrow8, hlow8, hb8⟩
    have HB8 : Hid (Below w.heap.size w w8) := below_next HB7.out hb8 HB7.out.size
    have HR8 := Lib.hid (HR.out.kept HB8.out)
    have HA8 := Lib.hid (row_below HA7.out hb8 HA7.out.lt)
    have HS8 := Lib.hid hrow8
    clear hb8 hrow8 HB7 HR7 HA7
    have hia := ix_arr .i64
    have hixs := run_ix (P := Try.prog) 28 (by kernel_rfl) size_int (some ⟨b8, 0, none⟩) 257 257 (.inr rfl) .i64
    simp only [bOf, oOf, Option.map_some, Option.getD_some, Nat.zero_add] at hixs
    go_wp2_with fail
    generalize arrV (stC L) = AV
    go_loopw [11] (fun v11 wr => ∃ c m : Nat, c ≤ 257 ∧ v11 = .int .i64 c ∧ wr = w8.drewN m) (fun v11 _ => 257 - (intOf v11).toNat)
    case atStart => exact ⟨0, 0, by omega, rfl, rfl⟩
    case round =>
      obtain ⟨c, m, hc, rfl, rfl⟩ := hrel
      by_cases hlt : c < 257
      · have d1 : w8.cell? ⟨N, c, none⟩ = some (.int .i64 ((stC L c : Nat) : Int)) := HA8.out.cell (i := c) hlt
        have d2 : w8.cell? ⟨b8, c, none⟩ = some (.int .i64 ((stC L c : Nat) : Int)) := HS8.out.cell (i := c) hlt
        have hcz : (c : Int) < 257 := by omega
        generalize stC L c = s at *
        go_wp2_with fail
        clear hib hix hL hst hesl hlow8 hc
        have h1 := hia (w8.drewN m) N c hlt
        have h2 := hixs (w8.drewN m) c hlt
        clear hia hixs
        go_quiet (fail)
        go_wp2
        go_roundw
        case rel => exact ⟨c + 1, _, by omega, by go_num, rfl⟩
        case measure => simp [intOf]; omega
      · obtain rfl : c = 257 := by omega
        have hcz : decide ((257 : Int) < 257) = false := by decide
        have HB9 : Hid (Below w.heap.size w (w8.drewN m)) := below_drewN HB8.out m
        have HR9 := Lib.hid (HR8.out.drewN m)
        have HS9 := Lib.hid (row_drewN HS8.out m)
        generalize w8.drewN m = w9 at *
        clear hc hlt hia
        clear hib hL hst hesl hlow8 HCLS HOK
        by_cases hg : goodI L i
        · obtain ⟨k, hk⟩ : ∃ k : Nat, i = (k : Int) := ⟨i.toNat, by have := hg.1; omega⟩
          subst hk
          obtain ⟨g1, g2, g3, g4⟩ := hg
          rw [Int.toNat_natCast] at g3 g4
          have hkl : k < L.length := by omega
          have HSY := Lib.hid (step_yes w9 a cap L (by have := HL.out; omega) HC.out HR9.out k hkl g3 g4)
          have hsl : stC L (L.getD k 0) ≤ 300 := Nat.le_trans (stC_le L _) HL.out
          have hrl : rkC L (L.getD k 0) k ≤ k := rkC_le L _ k
          have hkb : k < 300 := by have := HL.out; omega
          clear hixs
          go_wp2_with fail
          refine HSY.out.mono ?_
          rintro e w10 ⟨rfl, hb10⟩
          have hst : stepL L k = stC L (L.getD k 0) + rkC L (L.getD k 0) k := rfl
          have HRK := Lib.hid (fun (W : World) (h : Row W a L.length (symV L)) => refrank_any W a cap L (by have := HL.out; omega) h HM.out (L.getD k 0) k (by omega))
          have HB10 : Hid (Below w.heap.size w w10) := below_next HB9.out hb10 HB9.out.size
          have HR10 := Lib.hid (HR.out.kept HB10.out)
          have HS10 := Lib.hid (row_below HS9.out hb10 HS9.out.lt)
          have d0 : w10.cell? ⟨bOf a, oOf a + k, none⟩ = some (.int .u16 ((L.getD k 0 : Nat) : Int)) := HR10.out.cell k hkl
          have d2 : w10.cell? ⟨b8, L.getD k 0, none⟩ = some (.int .i64 ((stC L (L.getD k 0) : Nat) : Int)) := HS10.out.cell (i := L.getD k 0) (by omega)
          have hi2 := run_ix (P := Try.prog) 28 (by kernel_rfl) size_int (some ⟨b8, 0, none⟩) 257 257 (.inr rfl) .u16
          simp only [bOf, oOf, Option.map_some, Option.getD_some, Nat.zero_add] at hi2
          have hi3 := fun W => hi2 W (L.getD k 0) (by omega)
          have hi4 := fun W => hix W k hkl
          clear hi2 hix
          generalize hq : stepL L k = q at *
          generalize rkC L (L.getD k 0) k = r at *
          generalize stC L (L.getD k 0) = s at *
          generalize L.getD k 0 = c at *
          have t1 : (0 : Int) < (c : Int) := by omega
          have t2 : (c : Int) ≤ 256 := by omega
          have t3 : IntKind.i64.wrap ((s : Int) + (r : Int)) = (q : Int) := by
            rw [show (s : Int) + (r : Int) = (q : Int) by omega]; exact IntWalk.i64_in _ (by omega)
          have t4 : IntKind.i64.wrap ((c : Int)) = (c : Int) := by
            exact IntWalk.i64_in _ (by omega)
          clear hq hst g3 g4 hb10 hsl hrl hkb HR9 HS9 HB9
          go_wp2_with fail
          refine wp_region_still_tail 23 (by kernel_rfl) (by kernel_rfl) ?_
          simp only [List.take_succ_cons, List.take_zero, List.drop_succ_cons, List.drop_zero]
          have HRK2 : Hid (Calls Try.prog 36 #[.slice a L.length cap, .int .i64 (c : Int), .int .i64 (k : Int)] w10.drew fun e w' => e = .returned (.int .i64 (r : Int)) ∧ w' = w10.drew) := Lib.hid ((HRK.out w10.drew HR10.out.drew).mono fun _ _ ⟨he, hw⟩ => ⟨he, hw.symm⟩)
          repeat (with_reducible refine wpStill_step (fun K hK => ?_); go_simp; with_reducible refine hK _ ?_; clear hK K)
          with_reducible refine wpStill_step (fun K hK => ?_)
          go_simp
          with_reducible refine ⟨_, HRK2.out, hK _ ?_⟩
          clear hK K
          repeat (with_reducible refine wpStill_step (fun K hK => ?_); go_simp; with_reducible refine hK _ ?_; clear hK K)
          with_reducible refine wpStill_nil ?_
          change wpList _ _ _ _ _ w10.drew
          go_wp2_with (go_at_call 32; refine (awake11_any _).mono ?_; rintro e w11 ⟨rfl, hb11⟩)
          have HB11 : Hid (Below w.heap.size w w11) := below_next (HB10.out.drew) hb11 HB10.out.drew.size
          go_ret
          exact ⟨rfl, HB11.out⟩
        · have HSN := Lib.hid (step_no w9 a cap L HR9.out i hg)
          by_cases h1 : i < 0
          · have h1d : decide (0 ≤ i) = false := by simp; omega
            clear hg hix hixs h1
            go_wp2_with (go_at_call 45; refine HSN.out.mono ?_; rintro e w' ⟨rfl, rfl⟩)
            refine wp_region_still_tail 23 (by kernel_rfl) (by kernel_rfl) ?_
            simp only [List.take_succ_cons, List.take_zero, List.drop_succ_cons, List.drop_zero]
            repeat (with_reducible refine wpStill_step (fun K hK => ?_); go_simp; with_reducible refine hK _ ?_; clear hK K)
            with_reducible refine wpStill_nil ?_
            change wpList _ _ _ _ _ (w9).drew
            go_wp2_with (go_at_call 32; refine (awake11_any _).mono ?_; rintro e w9 ⟨rfl, hb9⟩)
            have HB9 : Hid (Below w.heap.size w w9) := below_next (HB9.out.drew) hb9 HB9.out.drew.size
            go_ret
            exact ⟨rfl, HB9.out⟩
          · have h1d : decide (0 ≤ i) = true := by simp; omega
            by_cases h2 : (L.length : Int) ≤ i
            · have h2d : decide (i < (L.length : Int)) = false := by simp; omega
              clear hg hix hixs h1 h2
              go_wp2_with (go_at_call 45; refine HSN.out.mono ?_; rintro e w' ⟨rfl, rfl⟩)
              refine wp_region_still_tail 23 (by kernel_rfl) (by kernel_rfl) ?_
              simp only [List.take_succ_cons, List.take_zero, List.drop_succ_cons, List.drop_zero]
              repeat (with_reducible refine wpStill_step (fun K hK => ?_); go_simp; with_reducible refine hK _ ?_; clear hK K)
              with_reducible refine wpStill_nil ?_
              change wpList _ _ _ _ _ (w9).drew
              go_wp2_with (go_at_call 32; refine (awake11_any _).mono ?_; rintro e w9 ⟨rfl, hb9⟩)
              have HB9 : Hid (Below w.heap.size w w9) := below_next (HB9.out.drew) hb9 HB9.out.drew.size
              go_ret
              exact ⟨rfl, HB9.out⟩
            · obtain ⟨k, hk⟩ : ∃ k : Nat, i = (k : Int) := ⟨i.toNat, by omega⟩
              subst hk
              have hkl : k < L.length := by omega
              have h2d : decide ((k : Int) < (L.length : Int)) = true := by simp; omega
              have d0 : w9.cell? ⟨bOf a, oOf a + k, none⟩ = some (.int .u16 ((L.getD k 0 : Nat) : Int)) := HR9.out.cell k hkl
              by_cases h3 : L.getD k 0 = 0
              · have d1 : w9.cell? ⟨bOf a, oOf a + k, none⟩ = some (.int .u16 0) := by rw [d0, h3]; rfl
                clear hg h3 d0 h1 h2 hixs
                go_wp2_with (go_at_call 45; refine HSN.out.mono ?_; rintro e w' ⟨rfl, rfl⟩)
                refine wp_region_still_tail 23 (by kernel_rfl) (by kernel_rfl) ?_
                simp only [List.take_succ_cons, List.take_zero, List.drop_succ_cons, List.drop_zero]
                repeat (with_reducible refine wpStill_step (fun K hK => ?_); go_simp; with_reducible refine hK _ ?_; clear hK K)
                with_reducible refine wpStill_nil ?_
                change wpList _ _ _ _ _ (w9).drew
                go_wp2_with (go_at_call 32; refine (awake11_any _).mono ?_; rintro e w9 ⟨rfl, hb9⟩)
                have HB9 : Hid (Below w.heap.size w w9) := below_next (HB9.out.drew) hb9 HB9.out.drew.size
                go_ret
                exact ⟨rfl, HB9.out⟩
              · have h4 : 256 < L.getD k 0 := by
                  rcases Nat.lt_or_ge 256 (L.getD k 0) with h | h
                  · exact h
                  · exact (hg ⟨by omega, by omega, by rw [Int.toNat_natCast]; exact h3, by rw [Int.toNat_natCast]; exact h⟩).elim
                generalize L.getD k 0 = c at *
                have t3 : (0 : Int) < (c : Int) := by omega
                have t4 : decide ((c : Int) ≤ (256 : Int)) = false := by simp; omega
                clear hg h3 h4 h1 h2 hixs
                go_wp2_with (go_at_call 45; refine HSN.out.mono ?_; rintro e w' ⟨rfl, rfl⟩)
                refine wp_region_still_tail 23 (by kernel_rfl) (by kernel_rfl) ?_
                simp only [List.take_succ_cons, List.take_zero, List.drop_succ_cons, List.drop_zero]
                repeat (with_reducible refine wpStill_step (fun K hK => ?_); go_simp; with_reducible refine hK _ ?_; clear hK K)
                with_reducible refine wpStill_nil ?_
                change wpList _ _ _ _ _ (w9).drew
                go_wp2_with (go_at_call 32; refine (awake11_any _).mono ?_; rintro e w9 ⟨rfl, hb9⟩)
                have HB9 : Hid (Below w.heap.size w w9) := below_next (HB9.out.drew) hb9 HB9.out.drew.size
                go_ret
                exact ⟨rfl, HB9.out⟩
end Go.Proofs.Ytddceidepmckiaa
