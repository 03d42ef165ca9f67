/-
  The statement WaveRows: its walk.
-/
import Derived.Test.YtfeoiabegcmfbaaWaveAll
import Derived.Test.YtfeoiabegcmfbaaWaveSelects
namespace Go.Proofs.Ytfeoiabegcmfbaa
open Go.RowKit

def AllPost (w : World) (L : List Nat) (most : Nat) (e : Ending) (w' : World) : Prop :=
  ∃ a cap, e = .returned (.tuple #[.slice a (min most L.length) cap, .bool true]) ∧ Row w' a (min most L.length) (fun k => .int .i64 ((L.getD k 0 : Nat) : Int)) ∧ Below w.heap.size w w'
theorem all_row (w : World) (bm : Nat) (al : Option Addr) (cap : Nat) (L : List Nat) (most : Nat) (hm : most ≤ 2000000) (hL : L.length ≤ 100000) (hS : ∀ c ∈ L, c ≤ 256)
    (hC : w.cell? ⟨bm, 0, none⟩ = some (.slice al L.length cap)) (hR : Row w al L.length (fun j => .int .u16 ((L.getD j 0 : Nat) : Int))) :
    Calls Try.prog 16 #[.pointer (some ⟨bm, 0, none⟩), .int .i64 most] w (AllPost w L most) := by
  refine (all_any w bm al cap L most hm hL hS hC hR).mono ?_
  rintro e w' ⟨v, m, rfl, rfl, hown, hb⟩
  obtain ⟨a, cap2, rfl, _, hr, _⟩ := Row.of_owns hown
  refine ⟨a, cap2, rfl, hr.congr fun k hk => ?_, hb⟩
  have h1 : k < most := by omega
  have h2 : k < L.length := by omega
  have h3 : ((allP L L.length).take most)[k]? = some (k, L.getD k 0) := by
    rw [List.getElem?_take, if_pos h1]
    have := allP_pre L (show k + 1 ≤ L.length by omega)
    obtain ⟨t, ht⟩ := this
    rw [← ht, allP_succ, List.append_assoc, List.getElem?_append_right (by rw [allP_len]; omega), allP_len]
    simp
  rw [List.getD_eq_getElem?_getD, List.getElem?_map, h3]
  rfl
theorem size_int (w : World) : (sizeOf (Try.prog.elem 38)).run Try.prog w = .ok 1 w := by kernel_rfl
theorem make_ints (N : Nat) (h : N ≤ 1000000) : ∀ W : World, (Instr.makeSlice 38 (.int .i64 (N : Int)) (.int .i64 (N : Int))).run Try.prog W = .ok (.slice (some ⟨W.heap.size, 0, none⟩) N N) (W.alloc (.cells (madeCells #[.int .i64 0] N) 3)) := by
  intro W
  obtain ⟨i0, hi, hz0, hz1, hz2⟩ := info_parts info_int
  have := run_make (P := Try.prog) W 38 3 i0 _ Try.underlying38 hi hz0 .i64 .i64 N N (by omega) (by omega) (by rw [hz2]; omega) (by omega)
  rw [hz1] at this
  simpa [Value.cells] using this
set_option maxRecDepth 100000 in
set_option maxHeartbeats 2000000 in
theorem wrows_walk (w : World) (a : Option Addr) (len cap : Nat) (f : Nat → Int) (hl : len ≤ maxLen) (hr : Row w a len (fun k => .int .u8 (f k)) ∧ ∀ k, k < len → (Lit.int .u8 (f k)).wf = true) (n : Int) (_ : (Lit.int .i64 n).wf = true) :
    Calls Try.prog 6 #[.slice a len cap, .int .i64 n] w fun e w' => e = .returned (.bool true) ∧ Below w.heap.size w w' := by
  obtain ⟨hr, hwf⟩ := hr
  have hf : ∀ k, k < len → 0 ≤ f k ∧ f k ≤ 255 := fun k hk => bounds_u8 (hwf k hk)
  have em : bits .and .i64 n 1023 = n % 1024 := i64_mask n 10 (by omega)
  obtain ⟨m, hm, hm2⟩ : ∃ m : Nat, n % 1024 = m ∧ m ≤ 1024 := ⟨(n % 1024).toNat, by omega, by omega⟩
  rw [hm] at em
  have HL := Lib.hid (row_any w a len cap (fun k => (f k).toNat) m (by omega) hl (nat_of_ints hr (fun k hk => (hf k hk).1)) (fun k hk => by have := hf k hk; omega))
  clear hr hwf hf hm
  go_enter Try.func6, Try.ntmps6
  go_wp2_with fail
  refine HL.out.mono ?_
  rintro e w1 ⟨a1, cap1, l, rfl, hr1, hl1, hl2, hb1⟩
  have HR1 := Lib.hid hr1
  have HB1 := Lib.hid hb1
  have HSY := Lib.hid hl1
  clear hr1 hb1 hl1 em HL
  go_wp2_with fail
  refine (wnew_any _ a1 cap1 l (by omega) HR1.out HSY.out).mono ?_
  rintro e w2 ⟨bm, al, cap', bv, bw, ba, rfl, hm, hb2⟩
  have HM2 := Lib.hid hm
  have HR2 := Lib.hid (HR1.out.kept hb2)
  have HB2 : Hid (Below w.heap.size w w2) := below_next HB1.out hb2 HB1.out.size
  clear hm hb2 HR1 HB1
  go_wp2_with fail
  refine (all_row w2 bm al cap' l 1048576 (by omega) (by omega) HSY.out HM2.out.cl HM2.out.rl).mono ?_
  rintro e w3 ⟨ax, capx, rfl, hrx, hb3⟩
  have hn1 : min 1048576 l.length = l.length := by omega
  rw [hn1] at hrx
  rw [hn1]
  have HX3 := Lib.hid hrx
  have HM3 := Lib.hid (HM2.out.kept hb3)
  have HR3 := Lib.hid (HR2.out.kept hb3)
  have HB3 : Hid (Below w.heap.size w w3) := below_next HB2.out hb3 HB2.out.size
  clear hrx hb3 HM2 HR2 HB2 hn1
  go_wp2_with fail
  refine (all_row w3 bm al cap' l 4 (by omega) (by omega) HSY.out HM3.out.cl HM3.out.rl).mono ?_
  rintro e w4 ⟨ay, capy, rfl, hry, hb4⟩
  have HX4 := Lib.hid (HX3.out.kept hb4)
  have HM4 := Lib.hid (HM3.out.kept hb4)
  have HR4 := Lib.hid (HR3.out.kept hb4)
  have HB4 : Hid (Below w.heap.size w w4) := below_next HB3.out hb4 HB3.out.size
  clear hry hb4 HM3 HR3 HB3 HX3
  have hmk : ∀ W : World, (Instr.makeSlice 38 (.int .i64 257) (.int .i64 257)).run Try.prog W = .ok (.slice (some ⟨W.heap.size, 0, none⟩) 257 257) (W.alloc (.cells (madeCells #[.int .i64 0] 257) 3)) := make_ints 257 (by omega)
  have HSET0 := Lib.hid (World.rowIs_made w4 (.int .i64 0) 257 3)
  have HBS : Hid (Below w4.heap.size w4 (w4.alloc (.cells (madeCells #[.int .i64 0] 257) 3))) := (Below.refl _ _).alloc (Nat.le_refl _) _
  have hmin : (if (l.length : Int) < 4 then (l.length : Int) else 4) = ((min 4 l.length : Nat) : Int) := by split <;> omega
  generalize min 4 l.length = y0 at *
  go_wp2_with fail
  clear hmk hmin
  have hixw := run_ix (P := Try.prog) 23 (by kernel_rfl) size_u16 a1 l.length cap1 HR4.out.at_ .i64
  have hixx := run_ix (P := Try.prog) 38 (by kernel_rfl) size_int ax l.length capx HX4.out.at_ .i64
  go_loopw [13] (fun ii wr => ∃ i : Nat, i ≤ l.length ∧ ii = .int .i64 i ∧ wr.rowIs w4.heap.size 3 257 (fun c => .int .i64 ((cnt (eqI l (c : Int)) i : Nat) : Int)) ∧ Below w4.heap.size w4 wr) (fun ii _ => l.length - (intOf ii).toNat)
  case atStart => exact ⟨0, by omega, rfl, HSET0.out.congr fun j _ => by rw [cnt_zero]; rfl, HBS.out⟩
  case round =>
    obtain ⟨i, hi, rfl, hset, hbw⟩ := hrel
    have HMi := Lib.hid (HM4.out.kept hbw)
    by_cases hlt : i < l.length
    · have dw := (HR4.out.kept hbw).cell i hlt
      have dx := (HX4.out.kept hbw).cell i hlt
      have hcb := getD_le l 256 HSY.out i
      obtain ⟨c, hc⟩ : ∃ c, c = l.getD i 0 := ⟨_, rfl⟩
      rw [← hc] at dw dx hcb
      have hq : eqI l (c : Int) i = true := (eqI_iff l c i hlt).2 (by rw [hc])
      have d1 := hset.cell (i := c) (by omega)
      have d2 := hset.frozen c
      have e1 : rkI l (c : Int) (i : Int) = cnt (eqI l (c : Int)) i := by rw [rkI_cnt, Int.toNat_natCast]
      have e2 : rkI l (c : Int) ((i : Int) + 1) = cnt (eqI l (c : Int)) i + 1 := by
        rw [rkI_cnt, show ((i : Int) + 1).toNat = i + 1 by omega, cnt_succ, hq]; rfl
      have e3 : wsel l (c : Int) ((cnt (eqI l (c : Int)) i : Nat) : Int) = (i : Int) := by
        rw [wsel_eqI]; exact sel_some _ _ _ i hlt hq rfl
      have hb := cnt_le (eqI l (c : Int)) i
      have ex : IntKind.i64.wrap (c : Int) = (c : Int) := IntWalk.i64_in _ (by omega)
      have HNX : Hid (∀ j : Nat, j < 257 → cnt (eqI l (j : Int)) (i + 1) = if j = c then cnt (eqI l (c : Int)) i + 1 else cnt (eqI l (j : Int)) i) := fun j hj => by
        rw [cnt_succ]
        by_cases ej : j = c
        · rw [if_pos ej, ej, hq]; rfl
        · rw [if_neg ej]
          have : eqI l (j : Int) i = false := by
            cases h : eqI l (j : Int) i
            · rfl
            · exact absurd ((eqI_iff l j i hlt).1 h) (by rw [← hc]; omega)
          rw [this]; rfl
      have HSETi := Lib.hid hset
      have HBi := Lib.hid hbw
      clear hset hbw hq hc
      generalize cnt (eqI l (c : Int)) i = y at *
      have w1' : IntKind.i64.wrap ((i : Int) + 1) = (i : Int) + 1 := IntWalk.i64_in _ (by omega)
      have w2' : IntKind.i64.wrap ((y : Int) + 1) = (y : Int) + 1 := IntWalk.i64_in _ (by omega)
      go_wp2_with fail
      go_quiet (first
        | (go_at_call 11; exact Calls.quiet_of (wrank_any _ bm al cap' bv bw ba l _ _ (HMi.out.drewN _)))
        | (go_at_call 10; exact Calls.quiet_of (wselect_any _ bm al cap' bv bw ba l _ _ (HMi.out.drewN _))))
      clear e1 e2 e3 ex w1' w2'
      go_wp2
      go_roundw
      case rel => exact ⟨i + 1, by omega, by go_num, ((row_drewN HSETi.out _).set c (.int .i64 ((y : Int) + 1))).congr fun j hj => by
        rw [HNX.out j hj]
        by_cases ej : j = c
        · simp [ej]
        · simp [ej], (below_drewN HBi.out _).setCell (p := ⟨w4.heap.size, c, none⟩) (Nat.le_refl _) _⟩
      case measure => simp [intOf]; omega
    · obtain rfl : i = l.length := by omega
      have HSETn := Lib.hid hset
      have HBn : Hid (Below w.heap.size w wr) := below_next HB4.out hbw HB4.out.size
      clear hset hbw HX4 HR4 hixw hixx HB4 HM4 HSET0 HBS
      generalize w4.heap.size = bs at *
      have hd : decide ((l.length : Int) < l.length) = false := by simp
      go_wp2_with fail
      clear hi hlt hd
      obtain ⟨wn, hwn⟩ : ∃ wn : World, wn = wr := ⟨_, rfl⟩
      subst hwn
      go_loopw [15, 16] (fun ss cc wi => ∃ c : Nat, c ≤ 257 ∧ cc = .int .i64 c ∧ ss = .int .i64 ((cnt (ltI l (c : Int)) l.length : Nat) : Int) ∧ ∃ j, wi = wn.drewN j) (fun _ cc _ => 257 - (intOf cc).toNat)
      case atStart => exact ⟨0, by omega, rfl, by rw [Int.ofNat_zero, tot_zero]; rfl, 0, rfl⟩
      case round =>
        obtain ⟨c, hc, rfl, rfl, j0, hw0⟩ := hrel
        have HW0 := Lib.hid hw0
        clear hw0
        have HSETj : Hid (wr.rowIs bs 3 257 (fun c => .int .i64 ((cnt (eqI l (c : Int)) l.length : Nat) : Int))) := by rw [HW0.out]; exact row_drewN HSETn.out _
        have HMj : Hid (MatAt wr bm al cap' bv bw ba l) := by rw [HW0.out]; exact HMi.out.drewN _
        by_cases hlt : (c : Int) < 257
        · have d1 : wr.cell? ⟨bs, c, none⟩ = some (.int .i64 ((cnt (eqI l (c : Int)) l.length : Nat) : Int)) := HSETj.out.cell (i := c) (by omega)
          have e1 : rkI l (c : Int) (l.length : Int) = cnt (eqI l (c : Int)) l.length := by rw [rkI_cnt, Int.toNat_natCast]
          have e2 : lsI l (c : Int) (l.length : Int) = cnt (ltI l (c : Int)) l.length := by rw [lsI_cnt, Int.toNat_natCast]
          have hb1 := cnt_le (eqI l (c : Int)) l.length
          have hb2 := cnt_le (ltI l (c : Int)) l.length
          have HTN : Hid (cnt (ltI l (c : Int)) l.length + cnt (eqI l (c : Int)) l.length = cnt (ltI l ((c + 1 : Nat) : Int)) l.length) := lt_eq_lt l (c : Int) l.length
          generalize cnt (eqI l (c : Int)) l.length = y at *
          generalize cnt (ltI l (c : Int)) l.length = z at *
          go_wp2_with fail
          go_quiet (first
            | (go_at_call 9; exact Calls.quiet_of (wcount_any _ bm al cap' bv bw ba l _ (HMj.out.drewN _)))
            | (go_at_call 14; exact Calls.quiet_of (less_any _ bm al cap' bv bw ba l _ _ (HMj.out.drewN _))))
          clear e1 e2
          go_wp2
          go_roundw
          case rel => exact ⟨c + 1, by omega, by go_num, by (rw [← HTN.out]) <;> go_num, _, by rw [HW0.out, World.drewN_drewN]⟩
          case measure => simp [intOf]; omega
        · obtain rfl : c = 257 := by omega
          have e1 : lsI l 257 (l.length : Int) = l.length := by rw [lsI_cnt, Int.toNat_natCast]; exact tot_end l HSY.out
          have e2 : rkI l (-1) (l.length : Int) = 0 := rfl
          have e3 : rkI l 257 (l.length : Int) = 0 := by
            rw [rkI_cnt, Int.toNat_natCast]
            refine cnt_none _ _ fun j hj => ?_
            have := getD_le l 256 HSY.out j
            unfold eqI; rw [decide_eq_false (show ¬ (((l.getD j 0 : Nat) : Int) = 257) by omega)]; simp
          go_wp2_with (first
            | (go_at_call 11; (with_reducible refine (wrank_any _ bm al cap' bv bw ba l _ _ (by first | exact HMj.out | exact HMj.out.drewN _)).mono ?_); rintro e w' ⟨rfl, k1, rfl⟩)
            | (go_at_call 10; (with_reducible refine (wselect_any _ bm al cap' bv bw ba l _ _ (by first | exact HMj.out | exact HMj.out.drewN _)).mono ?_); rintro e w' ⟨rfl, k1, rfl⟩)
            | (go_at_call 14; (with_reducible refine (less_any _ bm al cap' bv bw ba l _ _ (by first | exact HMj.out | exact HMj.out.drewN _)).mono ?_); rintro e w' ⟨rfl, k1, rfl⟩)
            | (go_at_call 12; (with_reducible refine (wget_any _ bm al cap' bv bw ba l _ (by first | exact HMj.out | exact HMj.out.drewN _)).mono ?_); rintro e w' ⟨rfl, k1, rfl⟩)
            | (go_at_call 9; (with_reducible refine (wcount_any _ bm al cap' bv bw ba l _ (by first | exact HMj.out | exact HMj.out.drewN _)).mono ?_); rintro e w' ⟨rfl, k1, rfl⟩)
            | (go_at_call 13; refine (wawake_any _).mono ?_; rintro e w7 ⟨rfl, hb7⟩)
            | fail)
          go_ret
          have hB9 : Below w.heap.size w wr := by rw [HW0.out]; exact below_drewN HBn.out _
          exact ⟨rfl, below_next (below_drewN hB9 _) hb7 hB9.size⟩
end Go.Proofs.Ytfeoiabegcmfbaa
