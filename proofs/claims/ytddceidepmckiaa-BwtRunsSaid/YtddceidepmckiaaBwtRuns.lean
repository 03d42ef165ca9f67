/-
  The statement BwtRuns: its walk.
-/
import Derived.Test.YtddceidepmckiaaBwtRunsLaw
import Derived.Test.YtddceidepmckiaaBwtCls
import Derived.Test.YtddceidepmckiaaRowCap
namespace Go.Proofs.Ytddceidepmckiaa
open Go.RowKit

def symT (L : List Nat) (n : Nat) : List Nat := (runsTo L n).map fun y => y.1
theorem symT_len (L : List Nat) (n : Nat) : (symT L n).length = n := by unfold symT; rw [List.length_map, runsTo_len]
theorem runsTo_get (L : List Nat) {k n : Nat} (h : k < n) : (runsTo L n)[k]? = some (rnR L k) := by
  have h1 := runsTo_take L (show k + 1 ≤ n by omega)
  have h2 := congrArg (fun l => l[k]?) h1
  simp only [List.getElem?_take_of_lt (show k < k + 1 by omega)] at h2
  rw [h2, runsTo_succ, List.getElem?_append_right (by rw [runsTo_len]; exact Nat.le_refl _), runsTo_len]
  simp
theorem symT_at (L : List Nat) {k n : Nat} (h : k < n) : (symT L n).getD k 0 = (rnR L k).1 := by
  unfold symT; rw [List.getD_eq_getElem?_getD, List.getElem?_map, runsTo_get L h]; rfl
theorem symsR_row {w : World} {base cap n : Nat} {a : Option Addr} {L : List Nat} (h : w.ownsRow base 56 1 (.slice a n cap) n (symsR (runsTo L n))) : Row w a n (symV (symT L n)) := by
  refine (owns_row h).1.congr fun k hk => ?_
  rw [List.getD_eq_getElem?_getD]
  show (symsR _)[k]?.getD undef = .int .u16 (((symT L n).getD k 0 : Nat) : Int)
  rw [symT_at L hk]
  unfold symsR
  rw [List.getElem?_map, runsTo_get L hk]; rfl
theorem lensR_row {w : World} {base cap n : Nat} {a : Option Addr} {L : List Nat} (h : w.ownsRow base 3 1 (.slice a n cap) n (lensR (runsTo L n))) : Row w a n (fun k => .int .i64 (((rnR L k).2 : Nat) : Int)) := by
  refine (owns_row h).1.congr fun k hk => ?_
  rw [List.getD_eq_getElem?_getD]
  unfold lensR
  rw [List.getElem?_map, runsTo_get L hk]; rfl
theorem cut_to16 (a : Option Addr) (n cap k : Nat) (h : k ≤ n) (hc : n ≤ cap) (h1 : n = 0 ∨ a = some ⟨bOf a, oOf a, none⟩) (h0 : a = none → cap = 0) : ∀ W : World, (Instr.slice 52 (.slice a n cap) none (some (.int .i64 (k : Int))) none).run Try.prog W = .ok (.slice a k cap) W := by
  intro W
  cases a with
  | none =>
    obtain rfl : cap = 0 := h0 rfl
    obtain rfl : n = 0 := by omega
    obtain rfl : k = 0 := by omega
    simp [Instr.slice, run_underlying Try.underlying52, Instr.sliceBounds, run_sliceBound]
  | some ad =>
    simp [Instr.slice, run_underlying Try.underlying52, Instr.sliceBounds, run_sliceBound, show (0 : Int) ≤ k by omega, show (k : Int) ≤ cap by omega]
    intro _
    cases ad
    simp [Addr.add]
set_option maxRecDepth 100000 in
set_option maxHeartbeats 4000000 in
theorem bruns_walk (w : World) (a : Option Addr) (len cap : Nat) (f : Nat → Int) (hl : len ≤ maxLen) (hr : Row w a len (fun k => .int .u16 (f k)) ∧ ∀ k, k < len → (Lit.int .u16 (f k)).wf = true) (most : Int) (_ : (Lit.int .i64 most).wf = true) :
    Calls Try.prog 14 #[.slice a len cap, .int .i64 most] w fun e w' => e = .returned (.bool true) ∧ Below w.heap.size w w' := by
  obtain ⟨L, hd, hdr, -⟩ := syms_list hr
  subst hd
  unfold maxLen at hl
  have HR := Lib.hid hdr
  clear hr hdr
  by_cases h300 : (500 : Int) < (L.length : Int)
  · go_enter Try.func14, Try.ntmps14
    go_wp2_with (go_at_call 32; refine (awake11_any _).mono ?_; rintro e w1 ⟨rfl, hb⟩)
    go_ret
    exact ⟨rfl, hb⟩
  · have h3d : decide ((500 : Int) < (L.length : Int)) = false := by simp; omega
    have hL : L.length ≤ 500 := by omega
    obtain ⟨N, hNL, hN⟩ := ends_R L
    have HN := Lib.hid hN
    have HRU := Lib.hid (runs_any w a cap L (by omega) HR.out N hN 1000 (by omega))
    obtain ⟨i2, hi2, hza2, hzb2, hzc2⟩ := info_parts info_u16'
    clear h300 hl hN
    go_enter Try.func14, Try.ntmps14
    go_wp2_with fail
    refine HRU.out.mono ?_
    rintro e w1 ⟨v5, v6, mN, rfl, hmN, ho5, ho6, hb1⟩
    obtain rfl : mN = N := by omega
    obtain ⟨a5, c5, rfl, hc5, hn5, -⟩ := owns_clip ho5
    obtain ⟨a6, c6, rfl, -⟩ := owns_clip ho6
    have HA := Lib.hid (symsR_row ho5)
    have HL6 := Lib.hid (lensR_row ho6)
    have hix5 := run_ix (P := Try.prog) 52 (by kernel_rfl) size_u16 a5 mN c5 HA.out.at_ .i64
    have hix6 := run_ix (P := Try.prog) 28 (by kernel_rfl) size_int a6 mN c6 HL6.out.at_ .i64
    have HB1 := Lib.hid hb1
    clear ho5 ho6 hb1 HRU hmN h3d
    go_wp2_with fail
    go_loopw [7, 8] (fun v7 v8 wr => ∃ i : Nat, i ≤ mN ∧ v8 = .int .i64 (i : Int) ∧ wr.ownsRow w1.heap.size 56 1 v7 (posR L i) (symVs (L.take (posR L i))) ∧ Below w1.heap.size w1 wr) (fun _ v8 _ => mN - (intOf v8).toNat)
    case atStart => exact ⟨0, Nat.zero_le _, rfl, by rw [posR_zero]; exact World.ownsRow_nil _ _ _ _, Below.refl _ _⟩
    case round =>
      obtain ⟨i, hi, rfl, hown, hbel⟩ := hrel
      have HO := Lib.hid hown
      have HB := Lib.hid hbel
      clear hown hbel
      by_cases hlt : i < mN
      · obtain ⟨r1, r2, r3⟩ := HN.out.run i hlt
        have hp1 := (HN.out.le (i + 1) (by omega)).2
        have HSY := Lib.hid (fun k hk => HN.out.sym i k hlt hk)
        have d5 : wr.cell? ⟨bOf a5, oOf a5 + i, none⟩ = some (.int .u16 (((rnR L i).1 : Nat) : Int)) := ((HA.out.kept HB.out).cell i hlt).trans (congrArg (fun x : Nat => some (Value.int .u16 (x : Int))) (symT_at L hlt))
        have d6 : wr.cell? ⟨bOf a6, oOf a6 + i, none⟩ = some (.int .i64 (((rnR L i).2 : Nat) : Int)) := (HL6.out.kept HB.out).cell i hlt
        have HUN := Lib.hid (fun q (hq : i = q + 1) => (by subst hq; exact HN.out.unlike q hlt : (rnR L i).1 ≠ (rnR L q).1))
        have HP5 := Lib.hid (fun q (hq : q < mN) => ((HA.out.kept HB.out).cell q hq).trans (congrArg (fun x : Nat => some (Value.int .u16 (x : Int))) (symT_at L hq)))
        have HR3 := Lib.hid r3
        generalize (rnR L i).1 = c at *
        generalize (rnR L i).2 = n at *
        generalize posR L i = p at *
        have hpn : p + n ≤ L.length := by omega
        have t1 : decide ((n : Int) < 1) = false := by simp; omega
        have t2 : decide ((L.length : Int) < (n : Int)) = false := by simp; omega
        have t3 : decide (L.length < n) = false := by simp; omega
        have t4 : decide (n < 1) = false := by simp; omega
        have hx5 := fun W => hix5 W i hlt
        have hx6 := fun W => hix6 W i hlt
        clear r3
        have hgo : ∃ nq, True := ⟨0, trivial⟩
        by_cases h0 : i = 0
        · have y0 : decide ((0 : Int) < (i : Int)) = false := by rw [h0]; rfl
          have y1 : decide (0 < i) = false := by rw [h0]; rfl
          clear h0
          go_wp2_with fail
          go_quiet (fail)
          clear t1 t2 t3 t4 y0 y1
          have HO1 := Lib.hid (owns_drewN HO.out nq)
          have HB2 : Hid (Below w1.heap.size w1 (wr.drewN nq)) := below_drewN HB.out nq
          have d5' : (wr.drewN nq).cell? ⟨bOf a5, oOf a5 + i, none⟩ = some (.int .u16 (c : Int)) := d5
          have d6' : (wr.drewN nq).cell? ⟨bOf a6, oOf a6 + i, none⟩ = some (.int .i64 (n : Int)) := d6
          have hl5 := World.block_lt_of_cell? _ _ d5'
          have hl6 := World.block_lt_of_cell? _ _ d6'
          simp only at hl5 hl6
          have HL5 := Lib.hid hl5
          have HL6' := Lib.hid hl6
          clear hl5 hl6 d5 d6 HO HB hgo
          have HD5 := Lib.hid d5'
          have HD6 := Lib.hid d6'
          have HBA : Hid (bOf a5 < w1.heap.size) := HA.out.lt (by omega)
          have HBL : Hid (bOf a6 < w1.heap.size) := HL6.out.lt (by omega)
          clear d5' d6'
          generalize wr.drewN nq = wo at *
          go_wp2_with fail
          go_loopw [7, 9] (fun v7 v9 wi => ∃ k : Nat, k ≤ n ∧ v9 = .int .i64 (k : Int) ∧ wi.ownsRow w1.heap.size 56 1 v7 (p + k) (symVs (L.take (p + k))) ∧ Below w1.heap.size w1 wi ∧ wi.cell? ⟨bOf a5, oOf a5 + i, none⟩ = some (.int .u16 (c : Int)) ∧ wi.cell? ⟨bOf a6, oOf a6 + i, none⟩ = some (.int .i64 (n : Int))) (fun _ v9 _ => n - (intOf v9).toNat)
          case atStart => exact ⟨0, Nat.zero_le _, rfl, HO1.out, HB2.out, HD5.out, HD6.out⟩
          case round =>
            obtain ⟨k, hk, rfl, hown, hbel, e5, e6⟩ := hrel
            have HOi := Lib.hid hown
            have HBi := Lib.hid hbel
            have hsi := hbel.size
            have HE5 := Lib.hid e5
            have HE6 := Lib.hid e6
            clear hown hbel
            by_cases hkn : k < n
            · have HNX := Lib.hid (HSY.out k hkn)
              go_wp2_with (at_builtin; refine wpList_append_own _ rfl _ _ 52 rfl w1.heap.size 56 i2 (.int .u16 0) 1 2 Try.underlying52 hi2 hza2 hzb2 hzc2 rfl (by decide) _ _ _ rfl (HOi.out.alloc _) ⟨wr.heap.size, 0, none⟩ 1 1 [.int .u16 (c : Int)] rfl rfl (cell_one_new _ _ _) (by simp [Value.oneCell']) (by simp only [maxLen]; omega) (by omega) (by simp; omega) ?_; intro v' w2 hown' hgrow _)
              have hlt' := HOi.out.lt
              have HOj : Hid (w2.ownsRow w1.heap.size 56 1 v' (p + (k + 1)) (symVs (L.take (p + (k + 1))))) := (by rw [← Nat.add_assoc, HNX.out, show symVs (L.take (p + k) ++ [c]) = symVs (L.take (p + k)) ++ [.int .u16 (c : Int)] by unfold symVs; rw [List.map_append]; rfl]; exact hown' : World.ownsRow _ _ _ _ _ _ _)
              have HBj : Hid (Below w1.heap.size w1 w2) := (HBi.out.alloc hsi _).grown hgrow (by simp; omega) (fun g hg => (hlt' g hg).1)
              have HF5 : Hid (w2.cell? ⟨bOf a5, oOf a5 + i, none⟩ = some (.int .u16 (c : Int))) := (HBj.out.cell (p := ⟨bOf a5, oOf a5 + i, none⟩) HBA.out).trans ((HBi.out.cell (p := ⟨bOf a5, oOf a5 + i, none⟩) HBA.out).symm.trans HE5.out)
              have HF6 : Hid (w2.cell? ⟨bOf a6, oOf a6 + i, none⟩ = some (.int .i64 (n : Int))) := (HBj.out.cell (p := ⟨bOf a6, oOf a6 + i, none⟩) HBL.out).trans ((HBi.out.cell (p := ⟨bOf a6, oOf a6 + i, none⟩) HBL.out).symm.trans HE6.out)
              clear hown' hgrow hlt'
              go_wp2
              go_roundw
              case rel => exact ⟨k + 1, by omega, by go_num, HOj.out, HBj.out, HF5.out, HF6.out⟩
              case measure => simp [intOf]; omega
            · obtain rfl : k = n := by omega
              have hkd : decide ((k : Int) < (k : Int)) = false := by simp
              go_wp2_with fail
              go_roundw
              case rel => exact ⟨i + 1, by omega, by go_num, by rw [← HR3.out]; exact HOi.out, HBi.out⟩
              case measure => simp [intOf]; omega
        · obtain ⟨q, hq⟩ : ∃ q, i = q + 1 := ⟨i - 1, by omega⟩
          have hql : q < mN := by omega
          have d7 : wr.cell? ⟨bOf a5, oOf a5 + q, none⟩ = some (.int .u16 (((rnR L q).1 : Nat) : Int)) := HP5.out q hql
          have hcc := HUN.out q hq
          have hx7 := fun W => hix5 W q hql
          generalize (rnR L q).1 = c' at *
          have y0 : (0 : Int) < (i : Int) := by omega
          have y1 : (0 : Nat) < i := by omega
          have y2 : IntKind.i64.wrap ((i : Int) - 1) = (q : Int) := by rw [show (i : Int) - 1 = (q : Int) by omega]; exact IntWalk.i64_in _ (by omega)
          have y4 : ((c : Int) == (c' : Int)) = false := by rw [beq_eq_false_iff_ne]; omega
          clear h0 hq hcc
          go_wp2_with fail
          go_quiet (fail)
          clear t1 t2 t3 t4 y0 y1 y2 y4 hx7 d7
          have HO1 := Lib.hid (owns_drewN HO.out nq)
          have HB2 : Hid (Below w1.heap.size w1 (wr.drewN nq)) := below_drewN HB.out nq
          have d5' : (wr.drewN nq).cell? ⟨bOf a5, oOf a5 + i, none⟩ = some (.int .u16 (c : Int)) := d5
          have d6' : (wr.drewN nq).cell? ⟨bOf a6, oOf a6 + i, none⟩ = some (.int .i64 (n : Int)) := d6
          have hl5 := World.block_lt_of_cell? _ _ d5'
          have hl6 := World.block_lt_of_cell? _ _ d6'
          simp only at hl5 hl6
          have HL5 := Lib.hid hl5
          have HL6' := Lib.hid hl6
          clear hl5 hl6 d5 d6 HO HB hgo
          have HD5 := Lib.hid d5'
          have HD6 := Lib.hid d6'
          have HBA : Hid (bOf a5 < w1.heap.size) := HA.out.lt (by omega)
          have HBL : Hid (bOf a6 < w1.heap.size) := HL6.out.lt (by omega)
          clear d5' d6'
          generalize wr.drewN nq = wo at *
          go_wp2_with fail
          go_loopw [7, 9] (fun v7 v9 wi => ∃ k : Nat, k ≤ n ∧ v9 = .int .i64 (k : Int) ∧ wi.ownsRow w1.heap.size 56 1 v7 (p + k) (symVs (L.take (p + k))) ∧ Below w1.heap.size w1 wi ∧ wi.cell? ⟨bOf a5, oOf a5 + i, none⟩ = some (.int .u16 (c : Int)) ∧ wi.cell? ⟨bOf a6, oOf a6 + i, none⟩ = some (.int .i64 (n : Int))) (fun _ v9 _ => n - (intOf v9).toNat)
          case atStart => exact ⟨0, Nat.zero_le _, rfl, HO1.out, HB2.out, HD5.out, HD6.out⟩
          case round =>
            obtain ⟨k, hk, rfl, hown, hbel, e5, e6⟩ := hrel
            have HOi := Lib.hid hown
            have HBi := Lib.hid hbel
            have hsi := hbel.size
            have HE5 := Lib.hid e5
            have HE6 := Lib.hid e6
            clear hown hbel
            by_cases hkn : k < n
            · have HNX := Lib.hid (HSY.out k hkn)
              go_wp2_with (at_builtin; refine wpList_append_own _ rfl _ _ 52 rfl w1.heap.size 56 i2 (.int .u16 0) 1 2 Try.underlying52 hi2 hza2 hzb2 hzc2 rfl (by decide) _ _ _ rfl (HOi.out.alloc _) ⟨wr.heap.size, 0, none⟩ 1 1 [.int .u16 (c : Int)] rfl rfl (cell_one_new _ _ _) (by simp [Value.oneCell']) (by simp only [maxLen]; omega) (by omega) (by simp; omega) ?_; intro v' w2 hown' hgrow _)
              have hlt' := HOi.out.lt
              have HOj : Hid (w2.ownsRow w1.heap.size 56 1 v' (p + (k + 1)) (symVs (L.take (p + (k + 1))))) := (by rw [← Nat.add_assoc, HNX.out, show symVs (L.take (p + k) ++ [c]) = symVs (L.take (p + k)) ++ [.int .u16 (c : Int)] by unfold symVs; rw [List.map_append]; rfl]; exact hown' : World.ownsRow _ _ _ _ _ _ _)
              have HBj : Hid (Below w1.heap.size w1 w2) := (HBi.out.alloc hsi _).grown hgrow (by simp; omega) (fun g hg => (hlt' g hg).1)
              have HF5 : Hid (w2.cell? ⟨bOf a5, oOf a5 + i, none⟩ = some (.int .u16 (c : Int))) := (HBj.out.cell (p := ⟨bOf a5, oOf a5 + i, none⟩) HBA.out).trans ((HBi.out.cell (p := ⟨bOf a5, oOf a5 + i, none⟩) HBA.out).symm.trans HE5.out)
              have HF6 : Hid (w2.cell? ⟨bOf a6, oOf a6 + i, none⟩ = some (.int .i64 (n : Int))) := (HBj.out.cell (p := ⟨bOf a6, oOf a6 + i, none⟩) HBL.out).trans ((HBi.out.cell (p := ⟨bOf a6, oOf a6 + i, none⟩) HBL.out).symm.trans HE6.out)
              clear hown' hgrow hlt'
              go_wp2
              go_roundw
              case rel => exact ⟨k + 1, by omega, by go_num, HOj.out, HBj.out, HF5.out, HF6.out⟩
              case measure => simp [intOf]; omega
            · obtain rfl : k = n := by omega
              have hkd : decide ((k : Int) < (k : Int)) = false := by simp
              go_wp2_with fail
              go_roundw
              case rel => exact ⟨i + 1, by omega, by go_num, by rw [← HR3.out]; exact HOi.out, HBi.out⟩
              case measure => simp [intOf]; omega
      · obtain rfl : i = mN := by omega
        have hdd : decide ((i : Int) < (i : Int)) = false := by simp
        rw [HN.out.fin, List.take_length] at HO
        clear hix5 hix6 hlt
        obtain ⟨N, hNN⟩ : ∃ N, N = i := ⟨_, rfl⟩
        subst hNN
        obtain ⟨a7, c7, hv7, -⟩ := owns_clip HO.out
        subst hv7
        have HR7 := Lib.hid (symVs_row HO.out)
        have em : bits .and .i64 most 7 = most % 8 := i64_mask most 3 (by omega)
        obtain ⟨M, hM, hM2⟩ : ∃ M : Nat, most % 8 = M ∧ M ≤ 7 := ⟨(most % 8).toNat, by omega, by omega⟩
        rw [hM] at em
        have HBw : Hid (Below w.heap.size w wr) := below_next HB1.out HB.out HB1.out.size
        have HRU := Lib.hid (runs_any wr a cap L (by omega) (HR.out.kept HBw.out) N HN.out M (by omega))
        have HA1 := Lib.hid (HA.out.kept HB.out)
        clear hM HO HB HA HL6
        go_wp2_with fail
        refine HRU.out.mono ?_
        rintro e w2 ⟨v10, v11, mm, rfl, hmm, ho10, ho11, hb2⟩
        obtain ⟨a10, c10, rfl, -⟩ := owns_clip ho10
        obtain ⟨a11, c11, rfl, -⟩ := owns_clip ho11
        by_cases hMN : M ≤ N
        · obtain rfl : M = mm := by omega
          have hmi : (M : Int) ≤ (N : Int) := by omega
          clear hmm
          have HR10 := Lib.hid (symsR_row ho10)
          have HR8 := Lib.hid (HR7.out.kept hb2)
          have HA2 := Lib.hid (HA1.out.kept hb2)
          have HB2 : Hid (Below w.heap.size w w2) := below_next HBw.out hb2 HBw.out.size
          have HRL := Lib.hid (HR.out.kept HB2.out)
          have hmmN : M ≤ N := by omega
          have hct := cut_to16 a5 N c5 M hmmN hc5 HA2.out.at_ hn5
          have HSM := Lib.hid (samesyms_any w2 a7 a c7 cap L L (by omega) (by omega) HR8.out HRL.out)
          rw [decide_eq_true (rfl : L = L)] at HSM
          clear ho10 ho11 hb2 HRU HR7 HA1
          go_wp2_with fail
          refine HSM.out.mono ?_
          rintro e w' ⟨rfl, q1, rfl⟩
          have HX := Lib.hid (samesyms_any (w2.drewN q1) a10 a5 c10 c5 (symT L M) (symT L M) (by rw [symT_len]; omega) (by rw [symT_len]; omega) (by rw [symT_len]; exact HR10.out.drewN q1) (by
            rw [symT_len]
            exact ((HA2.out.take hmmN).congr fun k hk => by
              show Value.int .u16 (((symT L N).getD k 0 : Nat) : Int) = Value.int .u16 (((symT L M).getD k 0 : Nat) : Int)
              exact congrArg (fun x : Nat => Value.int .u16 (x : Int)) ((symT_at L (show k < N by omega)).trans (symT_at L hk).symm)).drewN q1))
          rw [decide_eq_true (rfl : symT L M = symT L M), symT_len] at HX
          have HB3 : Hid (Below w.heap.size w (w2.drewN q1)) := below_drewN HB2.out q1
          clear HSM HR8 HA2 HR10 HRL
          generalize w2.drewN q1 = w3 at *
          go_wp2_with fail
          with_reducible refine HX.out.mono ?_
          rintro e w' ⟨rfl, q2, rfl⟩
          have HB4 : Hid (Below w.heap.size w (w3.drewN q2)) := below_drewN HB3.out q2
          generalize w3.drewN q2 = w4 at *
          go_wp2_with (go_at_call 32; refine (awake11_any _).mono ?_; rintro e w5 ⟨rfl, hb5⟩)
          have HB5 : Hid (Below w.heap.size w w5) := below_next HB4.out hb5 HB4.out.size
          go_ret
          exact ⟨rfl, HB5.out⟩
        · obtain rfl : N = mm := by omega
          have hmi : (N : Int) < (M : Int) := by omega
          have hmj : decide ((M : Int) ≤ (N : Int)) = false := by simp; omega
          clear hmm hMN
          have HR10 := Lib.hid (symsR_row ho10)
          have HR8 := Lib.hid (HR7.out.kept hb2)
          have HA2 := Lib.hid (HA1.out.kept hb2)
          have HB2 : Hid (Below w.heap.size w w2) := below_next HBw.out hb2 HBw.out.size
          have HRL := Lib.hid (HR.out.kept HB2.out)
          have hmmN : N ≤ N := by omega
          have hct := cut_to16 a5 N c5 N hmmN hc5 HA2.out.at_ hn5
          have HSM := Lib.hid (samesyms_any w2 a7 a c7 cap L L (by omega) (by omega) HR8.out HRL.out)
          rw [decide_eq_true (rfl : L = L)] at HSM
          clear ho10 ho11 hb2 HRU HR7 HA1
          go_wp2_with fail
          refine HSM.out.mono ?_
          rintro e w' ⟨rfl, q1, rfl⟩
          have HX := Lib.hid (samesyms_any (w2.drewN q1) a10 a5 c10 c5 (symT L N) (symT L N) (by rw [symT_len]; omega) (by rw [symT_len]; omega) (by rw [symT_len]; exact HR10.out.drewN q1) (by
            rw [symT_len]
            exact ((HA2.out.take hmmN).congr fun k hk => by
              show Value.int .u16 (((symT L N).getD k 0 : Nat) : Int) = Value.int .u16 (((symT L N).getD k 0 : Nat) : Int)
              exact congrArg (fun x : Nat => Value.int .u16 (x : Int)) ((symT_at L (show k < N by omega)).trans (symT_at L hk).symm)).drewN q1))
          rw [decide_eq_true (rfl : symT L N = symT L N), symT_len] at HX
          have HB3 : Hid (Below w.heap.size w (w2.drewN q1)) := below_drewN HB2.out q1
          clear HSM HR8 HA2 HR10 HRL
          generalize w2.drewN q1 = w3 at *
          go_wp2_with fail
          with_reducible refine HX.out.mono ?_
          rintro e w' ⟨rfl, q2, rfl⟩
          have HB4 : Hid (Below w.heap.size w (w3.drewN q2)) := below_drewN HB3.out q2
          generalize w3.drewN q2 = w4 at *
          go_wp2_with (go_at_call 32; refine (awake11_any _).mono ?_; rintro e w5 ⟨rfl, hb5⟩)
          have HB5 : Hid (Below w.heap.size w w5) := below_next HB4.out hb5 HB4.out.size
          go_ret
          exact ⟨rfl, HB5.out⟩
end Go.Proofs.Ytddceidepmckiaa
