/-
  The statement BwtHeads: its walk.
-/
import Derived.Test.YtddceidepmckiaaBwtTells
namespace Go.Proofs.Ytddceidepmckiaa
open Go.RowKit

theorem bwt_head (ds : List (List Nat)) (hb : ∀ d ∈ ds, ∀ c ∈ d, c < 256) (i : Nat) (hi : i < ds.length) : (bwtOf ds).getD i 0 = if 0 < (ds.getD i []).length then (ds.getD i []).getD ((ds.getD i []).length - 1) 0 + 1 else 0 := by
  have := (way_sa ds hb i hi 0 (Nat.zero_le _)).2.2
  rw [itL_zero] at this
  exact this
theorem rk_zero_all (L : List Nat) : rkC L 0 L.length = stC L 1 := by
  have := stC_succ L 0
  rw [stC_zero] at this
  rw [rkC_all, this]; omega
theorem st_all (L : List Nat) (h : ∀ c ∈ L, c ≤ 256) : stC L 256 + rkC L 256 L.length = L.length := by
  rw [rkC_all, ← stC_succ]
  exact below_all L _ 257 (fun x hx => by have := h x hx; omega)
set_option maxRecDepth 100000 in
set_option maxHeartbeats 2000000 in
theorem bheads_walk (w : World) (a : Option Addr) (cap : Nat) (A : Nat → Option Addr) (C : Nat → Nat) (ds : List (List Nat)) (hin : DocsIn w a A C ds) :
    Calls Try.prog 8 #[.slice a ds.length cap] w fun e w' => e = .returned (.bool true) ∧ Below w.heap.size w w' := by
  have HF := Lib.hid (few_any w a cap A C ds hin.many hin.docs hin.long)
  have hix := run_ix (P := Try.prog) 22 (by kernel_rfl) size_bytes a ds.length cap hin.docs.top.at_ .i64
  have HIN := Lib.hid hin
  clear hin
  go_enter Try.func8, Try.ntmps8
  go_wp2_with fail
  refine HF.out.mono ?_
  rintro e w' ⟨b, rfl, hfew, rfl⟩
  cases b with
  | false =>
    clear hfew
    go_wp2_with (go_at_call 32; refine (awake11_any _).mono ?_; rintro e w1 ⟨rfl, hb⟩)
    go_ret
    exact ⟨rfl, hb⟩
  | true =>
    obtain ⟨hf1, hf2, hf3⟩ := hfew rfl
    have HFEW := Lib.hid (FewP.mk hf1 hf2 hf3 HIN.out.byte)
    clear hfew hf2 HF
    have HOK := Lib.hid HFEW.out.ok
    have hall := HOK.out.all
    go_wp2_with fail
    refine (strings_any w a cap A C ds (by omega) HIN.out.docs).mono ?_
    rintro e w1 ⟨ax, cx, rfl, hrs, hb1⟩
    have HS1 := Lib.hid hrs
    have HB1 := Lib.hid hb1
    clear hrs hb1
    go_wp2_with fail
    refine (refbwt_any w1 ax cx ds HS1.out HFEW.out.byte (by omega)).mono ?_
    rintro e w2 ⟨a3, c3, rfl, ho3, hb2⟩
    have HR2 := Lib.hid (symVs_row ho3)
    have HB2 : Hid (Below w.heap.size w w2) := below_next HB1.out hb2 HB1.out.size
    clear ho3 hb2 HS1 HB1
    go_wp2_with fail
    refine (docs_yes w2 a3 _ ds HOK.out HR2.out).mono ?_
    rintro e w3 ⟨a4, A4, rfl, hd4, hb3⟩
    have hixd := run_ix (P := Try.prog) 22 (by kernel_rfl) size_bytes a4 ds.length ds.length hd4.top.at_ .i64
    have HR3 := Lib.hid (HR2.out.kept hb3)
    have HB3 : Hid (Below w.heap.size w w3) := below_next HB2.out hb3 HB2.out.size
    have HD3 := Lib.hid (HIN.out.docs.kept HB3.out)
    have HD4 := Lib.hid hd4
    clear hb3 hd4 HR2 HB2
    have hbl : (bwtOf ds).length ≤ 3040 := by rw [bwtOf_len]; exact hf3
    have hdl : ds.length ≤ (bwtOf ds).length := by rw [bwtOf_len]; exact len_le_row ds
    have HHD := Lib.hid (bwt_head ds HFEW.out.byte)
    have HLE := Lib.hid (bwtOf_le ds HFEW.out.byte)
    have HZ0 : Hid (rkC (bwtOf ds) 0 (bwtOf ds).length = ds.length) := by rw [rk_zero_all, bwt_zeros]; rfl
    have HZ1 := Lib.hid (bwt_zeros ds)
    have HST := Lib.hid (st_all (bwtOf ds) HLE.out)
    generalize bwtOf ds = L at *
    have hixl := run_ix (P := Try.prog) 52 (by kernel_rfl) size_u16 a3 L.length c3 HR3.out.at_ .i64
    go_wp2_with fail
    go_loopw [6, 7] (fun v6 v7 wr => ∃ i m : Nat, i ≤ L.length ∧ v7 = .int .i64 i ∧ v6 = .int .i64 ((rkC L 0 i : Nat) : Int) ∧ wr = w3.drewN m) (fun _ v7 _ => L.length - (intOf v7).toNat)
    case atStart => exact ⟨0, 0, Nat.zero_le _, rfl, by rw [rkC_zero]; rfl, rfl⟩
    case round =>
      obtain ⟨i, m, hi, rfl, rfl, rfl⟩ := hrel
      have hrl := rkC_le L 0 i
      by_cases hlt : i < L.length
      · have HNX := Lib.hid (rkC_succ L 0 i hlt)
        have d0 : w3.cell? ⟨bOf a3, oOf a3 + i, none⟩ = some (.int .u16 ((L.getD i 0 : Nat) : Int)) := HR3.out.cell i hlt
        generalize hM : rkC L 0 i = M at *
        clear hM
        by_cases hid : i < ds.length
        · have hhd := HHD.out i hid
          obtain ⟨d, hd⟩ : ∃ d, d = ds.getD i [] := ⟨_, rfl⟩
          have d1 : w3.cell? ⟨bOf a, oOf a + i, none⟩ = some (.slice (A i) d.length (C i)) := by rw [hd]; exact HD3.out.top.cell i hid
          have d2 : w3.cell? ⟨bOf a4, oOf a4 + i, none⟩ = some (.slice (A4 i) d.length d.length) := by rw [hd]; exact HD4.out.top.cell i hid
          have hr1 := HD3.out.each i hid
          have hr2 := HD4.out.each i hid
          have hby := HFEW.out.byte _ (doc_mem hid)
          rw [← hd] at hhd hr1 hr2 hby
          have hlong : d.length ≤ 2000 := by rw [hd]; exact HOK.out.long _ (doc_mem hid)
          have hc1 : ∀ q, (convert 23 9 (.slice (A i) d.length (C i))).run Try.prog (w3.drewN q) = .ok (.string (sB d)) (w3.drewN q) := fun q => conv_str _ _ d _ (hr1.drewN q)
          have hc2 : ∀ q, (convert 23 9 (.slice (A4 i) d.length d.length)).run Try.prog (w3.drewN q) = .ok (.string (sB d)) (w3.drewN q) := fun q => conv_str _ _ d _ (hr2.drewN q)
          have hixb := run_ix (P := Try.prog) 23 (by kernel_rfl) size_u8 (A i) d.length (C i) hr1.at_ .i64
          clear hd
          by_cases h0 : 0 < d.length
          · obtain ⟨k, hk⟩ : ∃ k, k = d.length - 1 := ⟨_, rfl⟩
            have hkl : k < d.length := by omega
            have d4 : w3.cell? ⟨bOf (A i), oOf (A i) + k, none⟩ = some (.int .u8 ((d.getD k 0 : Nat) : Int)) := hr1.cell k hkl
            rw [if_pos h0, ← hk] at hhd
            have hcb := hby _ (getD_mem' hkl)
            generalize d.getD k 0 = c at *
            rw [hhd] at d0 HNX
            rw [if_neg (by omega)] at HNX
            have y0 : (0 : Int) < (d.length : Int) := by omega
            have y1 : (d.length : Int) - 1 = (k : Int) := by omega
            have y2 : IntKind.i64.wrap ((d.length : Int) - 1) = (k : Int) := by rw [y1]; exact IntWalk.i64_in _ (by omega)
            have x1 : IntKind.u16.wrap (c : Int) = (c : Int) := IntWalk.u16_in _ (by omega)
            have x2 : IntKind.u16.wrap ((c : Int) + 1) = ((c + 1 : Nat) : Int) := by rw [show (c : Int) + 1 = ((c + 1 : Nat) : Int) by omega]; exact IntWalk.u16_in _ (by omega)
            have x3 : (((c : Int) + 1) == 0) = false := by rw [beq_eq_false_iff_ne]; omega
            clear hhd hby hr1 hr2 hk
            generalize sB d = sd at *
            go_wp2_with fail
            go_quiet (fail)
            clear y1 y2 x1 x2 hixb d4
            rw [World.drewN_drewN]
            obtain ⟨wq, hwq⟩ : ∃ wq, wq = w3.drewN (m + nq) := ⟨_, rfl⟩
            have e0 : wq.cell? ⟨bOf a3, oOf a3 + i, none⟩ = some (.int .u16 ((c : Int) + 1)) := by rw [hwq]; exact d0
            have e1 : wq.cell? ⟨bOf a, oOf a + i, none⟩ = some (.slice (A i) d.length (C i)) := by rw [hwq]; exact d1
            have e2 : wq.cell? ⟨bOf a4, oOf a4 + i, none⟩ = some (.slice (A4 i) d.length d.length) := by rw [hwq]; exact d2
            have hc3 : ∀ q, (convert 23 9 (.slice (A i) d.length (C i))).run Try.prog (wq.drewN q) = .ok (.string sd) (wq.drewN q) := fun q => by rw [hwq, World.drewN_drewN]; exact hc1 _
            have hc4 : ∀ q, (convert 23 9 (.slice (A4 i) d.length d.length)).run Try.prog (wq.drewN q) = .ok (.string sd) (wq.drewN q) := fun q => by rw [hwq, World.drewN_drewN]; exact hc2 _
            have HWQ := Lib.hid hwq
            rw [← hwq]
            have hsd : (sd.toList == sd.toList) = true := by simp
            clear hwq d0 d1 d2 hc1 hc2
            go_wp2_with fail
            go_quiet (fail)
            go_wp2_with fail
            go_roundw
            case rel => exact ⟨i + 1, _, by omega, by go_num, by (rw [HNX.out]) <;> rfl, by rw [HWQ.out, World.drewN_drewN]⟩
            case measure => simp [intOf]; omega
          · rw [if_neg h0] at hhd
            rw [hhd] at d0 HNX
            rw [if_pos rfl] at HNX
            have y0 : decide ((0 : Int) < (d.length : Int)) = false := decide_eq_false (by omega)
            clear hhd hby hr1 hr2
            generalize sB d = sd at *
            obtain ⟨wq, hwq⟩ : ∃ wq, wq = w3.drewN m := ⟨_, rfl⟩
            have e0 : wq.cell? ⟨bOf a3, oOf a3 + i, none⟩ = some (.int .u16 0) := by rw [hwq]; exact d0
            have e1 : wq.cell? ⟨bOf a, oOf a + i, none⟩ = some (.slice (A i) d.length (C i)) := by rw [hwq]; exact d1
            have e2 : wq.cell? ⟨bOf a4, oOf a4 + i, none⟩ = some (.slice (A4 i) d.length d.length) := by rw [hwq]; exact d2
            have hc3 : ∀ q, (convert 23 9 (.slice (A i) d.length (C i))).run Try.prog (wq.drewN q) = .ok (.string sd) (wq.drewN q) := fun q => by rw [hwq, World.drewN_drewN]; exact hc1 _
            have hc4 : ∀ q, (convert 23 9 (.slice (A4 i) d.length d.length)).run Try.prog (wq.drewN q) = .ok (.string sd) (wq.drewN q) := fun q => by rw [hwq, World.drewN_drewN]; exact hc2 _
            have HWQ := Lib.hid hwq
            rw [← hwq]
            have hsd : (sd.toList == sd.toList) = true := by simp
            clear hwq d0 d1 d2 hc1 hc2
            go_wp2_with fail
            go_quiet (fail)
            go_wp2_with fail
            go_roundw
            case rel => exact ⟨i + 1, _, by omega, by go_num, by (rw [HNX.out]) <;> go_num, by rw [HWQ.out, World.drewN_drewN]⟩
            case measure => simp [intOf]; omega
        · have hidd : decide ((i : Int) < (ds.length : Int)) = false := by simp; omega
          by_cases h0 : L.getD i 0 = 0
          · rw [h0] at d0 HNX
            rw [if_pos rfl] at HNX
            have d0' : w3.cell? ⟨bOf a3, oOf a3 + i, none⟩ = some (.int .u16 0) := d0
            clear d0 h0
            go_wp2_with fail
            go_roundw
            case rel => exact ⟨i + 1, m, by omega, by go_num, by (rw [HNX.out]) <;> go_num, rfl⟩
            case measure => simp [intOf]; omega
          · rw [if_neg h0] at HNX
            have t5 : (((L.getD i 0 : Nat) : Int) == 0) = false := by rw [beq_eq_false_iff_ne]; omega
            clear h0
            generalize L.getD i 0 = c at *
            go_wp2_with fail
            go_roundw
            case rel => exact ⟨i + 1, m, by omega, by go_num, by (rw [HNX.out]) <;> rfl, rfl⟩
            case measure => simp [intOf]; omega
      · obtain rfl : i = L.length := by omega
        have hd : decide ((L.length : Int) < (L.length : Int)) = false := by simp
        rw [HZ0.out]
        have HR5 := Lib.hid (HR3.out.drewN m)
        have HB5 : Hid (Below w.heap.size w (w3.drewN m)) := below_drewN HB3.out m
        generalize w3.drewN m = w5 at *
        have hzv := zero_arr
        clear hrl hlt hi
        go_wp2_with fail
        refine (starts_any w5 a3 c3 L (by omega) HR5.out).mono ?_
        rintro e w6 ⟨rfl, hb6⟩
        have HS0 := Lib.hid (store_new w6 (stC L))
        have r1 := arr_new w6 (stC L)
        have hb7 : Below w.heap.size w (w6.alloc (.cells (arrV (stC L)) 57)) := by
          have := below_next HB5.out hb6 HB5.out.size
          exact this.alloc this.size _
        have hb7' : Below w5.heap.size w5 (w6.alloc (.cells (arrV (stC L)) 57)) := hb6.alloc hb6.size _
        have HB7 := Lib.hid hb7
        have HR7 := Lib.hid (HR5.out.kept hb7')
        have q0 : (w6.alloc (.cells (arrV (stC L)) 57)).cell? ⟨w6.heap.size, 0, none⟩ = some (.int .i64 0) := (r1.cell (i := 0) (by omega)).trans (by rw [stC_zero]; rfl)
        have q1 : (w6.alloc (.cells (arrV (stC L)) 57)).cell? ⟨w6.heap.size, 1, none⟩ = some (.int .i64 (ds.length : Int)) := (r1.cell (i := 1) (by omega)).trans (by rw [HZ1.out])
        have q2 : (w6.alloc (.cells (arrV (stC L)) 57)).cell? ⟨w6.heap.size, 256, none⟩ = some (.int .i64 ((stC L 256 : Nat) : Int)) := r1.cell (i := 256) (by omega)
        have j0 : ∀ W, (Instr.indexAt 57 (.pointer (some ⟨w6.heap.size, 0, none⟩)) (.int .i64 0)).run Try.prog W = .ok (.pointer (some ⟨w6.heap.size, 0, none⟩)) W := fun W => ix_arr .i64 W w6.heap.size 0 (by omega)
        have j1 : ∀ W, (Instr.indexAt 57 (.pointer (some ⟨w6.heap.size, 0, none⟩)) (.int .i64 1)).run Try.prog W = .ok (.pointer (some ⟨w6.heap.size, 1, none⟩)) W := fun W => ix_arr .i64 W w6.heap.size 1 (by omega)
        have j2 : ∀ W, (Instr.indexAt 57 (.pointer (some ⟨w6.heap.size, 0, none⟩)) (.int .i64 256)).run Try.prog W = .ok (.pointer (some ⟨w6.heap.size, 256, none⟩)) W := fun W => ix_arr .i64 W w6.heap.size 256 (by omega)
        have hsl := stC_le L 256
        have hrl2 := rkC_le L 256 L.length
        have hst := HST.out
        clear hb6 hb7 hb7' r1
        go_wp2_with (with_reducible refine wpList_store_run rfl _ _ _ rfl HS0.out rfl rfl ?_)
        clear hzv HS0
        generalize hN : w6.heap.size = N at *
        generalize w6.alloc (.cells (arrV (stC L)) 57) = w7 at *
        clear hN
        obtain ⟨s, hs⟩ : ∃ s, s = stC L 256 := ⟨_, rfl⟩
        obtain ⟨r, hr⟩ : ∃ r, r = rkC L 256 L.length := ⟨_, rfl⟩
        have HRR := Lib.hid hr
        rw [← hs] at q2 hsl hst
        rw [← hr] at hrl2 hst
        clear hs hr
        have z1 : IntKind.i64.wrap ((s : Int) + (r : Int)) = (L.length : Int) := by rw [show (s : Int) + (r : Int) = (L.length : Int) by omega]; exact IntWalk.i64_in _ (by omega)
        have hrk : ∀ W, Row W a3 L.length (symV L) → Calls Try.prog 36 #[.slice a3 L.length c3, .int .i64 256, .int .i64 (L.length : Int)] W fun e w' => e = .returned (.int .i64 (r : Int)) ∧ w' = W := fun W hW => by
          have := refrank_any W a3 c3 L (by omega) hW (fun c hc => by have := HLE.out c hc; omega) 256 L.length (Nat.le_refl _)
          rw [← HRR.out] at this
          exact this.mono fun _ _ ⟨he, hw⟩ => ⟨he, hw.symm⟩
        have HRK := Lib.hid hrk
        clear hrk hst hix hixd hixl hsl hrl2 hd hall hf1 hf3 hdl
        refine wp_region_still_tail 29 (by kernel_rfl) (by kernel_rfl) ?_
        simp only [List.take_succ_cons, List.take_zero, List.drop_succ_cons, List.drop_zero]
        repeat still_step
        still_call (HRK.out _ HR7.out.drew)
        repeat still_step
        refine wpStill_nil ?_
        change wpList _ _ _ _ _ w7.drew
        go_wp2_with (go_at_call 32; refine (awake11_any _).mono ?_; rintro e w9 ⟨rfl, hb9⟩)
        have HB9 : Hid (Below w.heap.size w w9) := below_next (HB7.out.drew) hb9 HB7.out.drew.size
        go_ret
        exact ⟨rfl, HB9.out⟩
end Go.Proofs.Ytddceidepmckiaa
