/-
  What the statements' helper gathers of the runs of a row.
-/
import Derived.Test.YtddceidepmckiaaBwtRunsOf
namespace Go.Proofs.Ytddceidepmckiaa
open Go.RowKit Go.Shelf
attribute [local go_sem] Oper.semAt_some

theorem cell_one_new' {w : World} {k : Nat} (h : w.heap.size = k) (x : Value) (t : TypeId) : ∀ j u, [x][j]? = some u → (w.alloc (.cells #[x] t)).cell? ((⟨k, 0, none⟩ : Addr).add j) = some u := by
  subst h; exact cell_one_new w x t
def symsR (l : List (Nat × Nat)) : List Value := l.map fun y : Nat × Nat => Value.int .u16 (y.1 : Int)
def lensR (l : List (Nat × Nat)) : List Value := l.map fun y : Nat × Nat => Value.int .i64 (y.2 : Int)
theorem symsR_snoc (l : List (Nat × Nat)) (y : Nat × Nat) : symsR (l ++ [y]) = symsR l ++ [Value.int .u16 (y.1 : Int)] := by simp [symsR]
theorem lensR_snoc (l : List (Nat × Nat)) (y : Nat × Nat) : lensR (l ++ [y]) = lensR l ++ [Value.int .i64 (y.2 : Int)] := by simp [lensR]
def RunsPost (w : World) (L : List Nat) (N most : Nat) (e : Ending) (w' : World) : Prop :=
  ∃ v u m, e = .returned (.tuple #[v, u]) ∧ m = min most N ∧ w'.ownsRow w.heap.size 56 1 v m (symsR (runsTo L m)) ∧ w'.ownsRow w.heap.size 3 1 u m (lensR (runsTo L m)) ∧ Below w.heap.size w w'
set_option maxRecDepth 100000 in
set_option maxHeartbeats 2000000 in
theorem runs_any (w : World) (a : Option Addr) (cap : Nat) (L : List Nat) (hL : L.length ≤ 1000) (hr : Row w a L.length (symV L)) (N : Nat) (hN : EndsR L N) (most : Nat) (hm : most ≤ 2000000) :
    Calls Try.prog 46 #[.slice a L.length cap, .int .i64 most] w (RunsPost w L N most) := by
  refine (callsIn_wide (n := 3)).1 ?_
  have hwf : ∀ f, Fence.wide.fn f = True := fun _ => rfl
  obtain ⟨i0, hi, hz0, hz1, hz2⟩ := info_parts info_u16'
  obtain ⟨i1, hi1, hy0, hy1, hy2⟩ := info_parts info_int'
  refine callsIn_of_wp_marks Try.func46 rfl trivial ?_ rfl
  simp only [Try.ntmps46, List.size_toArray, List.length_cons, List.length_nil, Nat.reduceAdd, Nat.reduceSub, Array.replicate_succ, Array.replicate_zero, List.push_toArray, List.append_toArray, List.nil_append, List.cons_append]
  have HR := Lib.hid hr
  have HN := Lib.hid hN
  clear hr hN
  have hnf := nilf2
  have bM := (Boxed.new w 3 (.int .i64 most)).alloc (.cells #[.slice none 0 0] 52) |>.alloc (.cells #[.slice none 0 0] 28)
  have bA := (Boxed.new (w.alloc (.cells #[.int .i64 most] 3)) 52 (.slice none 0 0)).alloc (.cells #[.slice none 0 0] 28)
  have bB := Boxed.new ((w.alloc (.cells #[.int .i64 most] 3)).alloc (.cells #[.slice none 0 0] 52)) 28 (.slice none 0 0)
  rw [World.size_alloc] at bA
  rw [World.size_alloc, World.size_alloc] at bB
  have hB0 : Below w.heap.size w (((w.alloc (.cells #[.int .i64 most] 3)).alloc (.cells #[.slice none 0 0] 52)).alloc (.cells #[.slice none 0 0] 28)) :=
    (((Below.refl _ w).alloc (Nat.le_refl _) _).alloc (by simp) _).alloc (by simp; omega) _
  have hs3 : (((w.alloc (.cells #[.int .i64 most] 3)).alloc (.cells #[.slice none 0 0] 52)).alloc (.cells #[.slice none 0 0] 28)).heap.size = w.heap.size + 3 := by simp
  gi_wp2_with fail
  generalize (((w.alloc (.cells #[.int .i64 most] 3)).alloc (.cells #[.slice none 0 0] 52)).alloc (.cells #[.slice none 0 0] 28)) = W3 at *
  have HF := Lib.hid (runsF_any W3 a cap L hL (HR.out.kept hB0))
  refine (callsIn_wide.2 HF.out).mono ?_
  rintro e w4 ⟨a4, c4, rfl, hc4, hr4, hb4, hlo4, hlt4⟩
  rw [hs3] at hc4 hlo4 hlt4 ⊢
  have hs4 := hb4.size
  have hb5 := hb4
  rw [hs3] at hs4 hb4
  have BM : Boxed w4 w.heap.size 3 (.int .i64 most) := (hb4.block _ (by omega)).trans bM
  have BA : Boxed w4 (w.heap.size + 1) 52 (.slice none 0 0) := (hb4.block _ (by omega)).trans bA
  have BB : Boxed w4 (w.heap.size + 1 + 1) 28 (.slice none 0 0) := (hb4.block _ (by omega)).trans bB
  have hB4 : Below w.heap.size w w4 := hB0.trans (hb4.mono (by omega))
  gi_wp2_with fail
  have hlen : (runsTo L N).length = N := runsTo_len L N
  have hNL : N ≤ L.length := by have := HN.out.le N (Nat.le_refl _); omega
  refine wpIn_rangeFunc_ownG rfl (by omega) (gf := 82) (lb := #[.pointer (some ⟨w.heap.size + 3, 0, none⟩)]) rfl trivial (enters_of Try.func82 (by kernel_rfl) rfl)
    (runs_stops 2 (by omega) (w.heap.size + 3) w4.heap.size (fun b => b = w.heap.size + 1 ∨ b = w.heap.size + 1 + 1) a4 c4 L N hL HN.out w4 hc4 hr4 (by omega) ⟨by omega, by omega⟩ (by
      rcases Nat.eq_zero_or_pos L.length with h | h
      · exact .inl h
      · exact .inr ⟨hr4.lt h, by omega⟩))
    kpX_t (kpX_b (by omega)) (Below.refl _ _) (fun _ => rfl)
    (fun pre W => ((∃ v, Boxed W (w.heap.size + 1) 52 v ∧ W.ownsRow w4.heap.size 56 1 v pre.length (symsR pre) ∧ pre.length ≤ most) ∧ (∃ u, Boxed W (w.heap.size + 1 + 1) 28 u ∧ W.ownsRow w4.heap.size 3 1 u pre.length (lensR pre) ∧ True)) ∧ Boxed W w.heap.size 3 (.int .i64 most) ∧ Below w.heap.size w4 W)
    (fun c pre W => ((∃ v, Boxed W (w.heap.size + 1) 52 v ∧ W.ownsRow w4.heap.size 56 1 v (pre.take most).length (symsR (pre.take most)) ∧ (c = .exit 0 ∧ most < pre.length)) ∧ (∃ u, Boxed W (w.heap.size + 1 + 1) 28 u ∧ W.ownsRow w4.heap.size 3 1 u (pre.take most).length (lensR (pre.take most)) ∧ True)) ∧ Below w.heap.size w4 W)
    (OwnFrom.and (OwnFrom.and (Own.from (holdsRow_own w4.heap.size (w.heap.size + 1) 52 56 1 (fun pre : List (Nat × Nat) => pre.length) (fun pre => symsR pre) (fun pre v => pre.length ≤ most)) _) (Own.from (holdsRow_own w4.heap.size (w.heap.size + 1 + 1) 28 3 1 (fun pre : List (Nat × Nat) => pre.length) (fun pre => lensR pre) (fun _ _ => True)) _)) (OwnFrom.and (Own.from (boxed_own w.heap.size 3 (fun _ => .int .i64 most)) _) (ownFrom_below (by omega) (by omega))))
    (fun c => OwnFrom.and (OwnFrom.and (Own.from (holdsRow_own w4.heap.size (w.heap.size + 1) 52 56 1 (fun pre : List (Nat × Nat) => (pre.take most).length) (fun pre => symsR (pre.take most)) (fun pre v => c = .exit 0 ∧ most < pre.length)) _) (Own.from (holdsRow_own w4.heap.size (w.heap.size + 1 + 1) 28 3 1 (fun pre : List (Nat × Nat) => (pre.take most).length) (fun pre => lensR (pre.take most)) (fun _ _ => True)) _)) (ownFrom_below (by omega) (by omega)))
    ⟨⟨⟨_, BA, World.ownsRow_nil _ _ _ _, Nat.zero_le _⟩, ⟨_, BB, World.ownsRow_nil _ _ _ _, trivial⟩⟩, BM, Below.refl _ _⟩
    (fun y => { tmps := #[.slice a L.length cap, .int .i64 most, undef, .pointer (some ⟨w.heap.size, 0, none⟩), .slice none 0 0, .slice none 0 0, .pointer (some ⟨w.heap.size + 1, 0, none⟩), .pointer (some ⟨w.heap.size + 1 + 1, 0, none⟩), .func (.func 82) #[] #[.pointer (some ⟨w.heap.size + 3, 0, none⟩)], .int .u16 (y.1 : Int), .int .i64 (y.2 : Int), .slice a L.length cap, .func (.func 82) #[] #[.pointer (some ⟨w.heap.size + 3, 0, none⟩)], .func (.func 82) #[] #[.pointer (some ⟨w.heap.size + 3, 0, none⟩)], .bool false, .func (.func 82) #[] #[.pointer (some ⟨w.heap.size + 3, 0, none⟩)], .int .u16 (y.1 : Int), .int .i64 (y.2 : Int), undef, undef, undef, undef, undef, undef, undef, undef, undef, undef, undef, undef, undef, undef], defers := [] }) ?assign ?body ?done ?stop
  case assign =>
    intro l x W K hK
    unfold rnV
    gi_wp2
    exact hK
  case body =>
    rintro l pre x W ⟨⟨⟨v, hv, hrow, hle⟩, ⟨u, hu, hru, _⟩⟩, hM, hB⟩ hlt
    obtain ⟨x1, x2⟩ := x
    have hc := hv.cell
    have hcu := hu.cell
    have hcM := hM.cell
    have hs := hB.size
    have hlt2 : pre.length < 100000 := by omega
    obtain ⟨a', cap', rfl, _⟩ := Row.of_owns hrow
    obtain ⟨ua, uc, rfl, _⟩ := Row.of_owns hru
    have HV2 := Lib.hid hv
    have HU2 := Lib.hid hu
    have HM2 := Lib.hid hM
    have HO := Lib.hid hrow
    have HP := Lib.hid hru
    have HB2 := Lib.hid hB
    clear hv hM hrow hB hu hru
    by_cases hge : (most : Int) ≤ (pre.length : Int)
    · gi_wp2
      have e : (pre ++ [(x1, x2)]).take most = pre := by rw [List.take_append_of_le_length (by omega), List.take_of_length_le (by omega)]
      refine ⟨KeepsFrom.refl _ _, ⟨⟨_, HV2.out, ?_, rfl, by simp; omega⟩, ⟨_, HU2.out, ?_⟩⟩, HB2.out⟩
      · rw [e]; exact HO.out
      · rw [e]; exact ⟨HP.out, trivial⟩
    · clear hlen
      gi_wp2_with (first
        | (gi_at_builtin; refine wpListIn_append_own _ rfl _ _ 52 rfl w4.heap.size 56 i0 (.int .u16 0) 1 2 Try.underlying52 hi hz0 hz1 hz2 rfl (by decide) _ _ _ rfl (HO.out.alloc _) ⟨W.heap.size, 0, none⟩ 1 1 [.int .u16 (x1 : Int)] rfl rfl (cell_one_new _ _ _) (by simp [Value.oneCell']) (by simp only [maxLen]; omega) (by omega) (by simp; omega) ?_; intro v' w1 hown' hgrow _; obtain ⟨g', cap2, rfl⟩ := ownsRow_succ hown'; obtain ⟨hv1, hv2, hr2, hk2, hb2, hb3⟩ := boxed_appended (n0 := w.heap.size) HV2.out HO.out (by omega) (by omega) (by omega) hown' hgrow; have hP2 := other_row (by decide) HP.out HO.out (v' := .slice (some ⟨g', 0, none⟩) (pre.length + 1) cap2) hgrow (show w.heap.size + 1 < w4.heap.size by omega); have hu1 : Boxed w1 (w.heap.size + 1 + 1) 28 (.slice ua pre.length uc) := (HU2.out.alloc _).kept hgrow (fun h => by have := (HO.out.lt _ h.symm).1; omega); have hcu1 := hu1.cell; have hfu1 := hu1.frozen; have hc1 := hv1.cell; have hf1 := hv1.frozen; have HR2 := Lib.hid hr2; have HK2 := Lib.hid hk2; have HBB := Lib.hid hb2; have HB3 := Lib.hid hb3; have HP2 := Lib.hid hP2; have HVB := Lib.hid hv2; clear hr2 hk2 hb2 hb3 hP2 hv2 hown' hgrow; have HU3 : Hid (Boxed (w1.setCell ⟨w.heap.size + 1, 0, none⟩ (.slice (some ⟨g', 0, none⟩) (pre.length + 1) cap2)) (w.heap.size + 1 + 1) 28 (.slice ua pre.length uc)) := (HBB.out _ (by omega) (by omega)).trans HU2.out; have HM3 : Hid (Boxed (w1.setCell ⟨w.heap.size + 1, 0, none⟩ (.slice (some ⟨g', 0, none⟩) (pre.length + 1) cap2)) w.heap.size 3 (.int .i64 most)) := (HBB.out _ (by omega) (by omega)).trans HM2.out; have HSZ1 := Lib.hid (show (w1.setCell ⟨w.heap.size + 1, 0, none⟩ (.slice (some ⟨g', 0, none⟩) (pre.length + 1) cap2)).heap.size = w1.heap.size by simp [World.setCell]); have hsW1 : w4.heap.size ≤ (w1.setCell ⟨w.heap.size + 1, 0, none⟩ (.slice (some ⟨g', 0, none⟩) (pre.length + 1) cap2)).heap.size := Nat.le_trans hs HK2.out.size; have hsW2 : w4.heap.size ≤ w1.heap.size := (by have := hsW1; rw [HSZ1.out] at this; exact this))
        | (gi_at_builtin; refine wpListIn_append_own _ rfl _ _ 28 rfl w4.heap.size 3 i1 (.int .i64 0) 1 8 Try.underlying28 hi1 hy0 hy1 hy2 rfl (by decide) _ _ _ rfl (HP2.out.alloc _) ⟨w1.heap.size, 0, none⟩ 1 1 [.int .i64 (x2 : Int)] rfl rfl (cell_one_new' HSZ1.out _ _) (by simp [Value.oneCell']) (by simp only [maxLen]; omega) (by omega) (by simp; omega) ?_; intro v' w2 hown' hgrow _; obtain ⟨g2, cap3, rfl⟩ := ownsRow_succ hown'; obtain ⟨hv1, hv2, hr2, hk2, hb2, hb3⟩ := boxed_appended (n0 := w.heap.size) HU3.out HP2.out (by omega) (by omega) (by omega) hown' hgrow; have hP3 := other_row (by decide) HR2.out HP2.out (v' := .slice (some ⟨g2, 0, none⟩) (pre.length + 1) cap3) hgrow (show w.heap.size + 1 + 1 < w4.heap.size by omega); have hc1 := hv1.cell; have hf1 := hv1.frozen; have HR3 := Lib.hid hr2; have HK3 := Lib.hid hk2; have HBC := Lib.hid hb2; have HB4 := Lib.hid hb3; have HP3 := Lib.hid hP3; have HVC := Lib.hid hv2; clear hr2 hk2 hb2 hb3 hP3 hv2 hown' hgrow))
      trace_state
      refine ⟨(HK2.out.trans HK3.out).from _, fun b hb hx => (HBC.out b hb (fun e => hx (.inr e))).trans (HBB.out b hb (fun e => hx (.inl e))), ⟨⟨_, (HBC.out _ (by omega) (by omega)).trans HVB.out, ?_, by simp; omega⟩, ⟨_, HVC.out, ?_⟩⟩, (HBC.out _ (by omega) (by omega)).trans HM3.out, (HB2.out.trans HB3.out).trans HB4.out⟩
      · rw [symsR_snoc, List.length_append]; exact HP3.out
      · rw [lensR_snoc, List.length_append]; exact HR3.out
  case done =>
    rintro D ys W hD rfl ⟨⟨⟨v, hv, hrow, hle⟩, ⟨u, hu, hru, _⟩⟩, hM, hB⟩ hK
    have hc := hv.cell
    have hcu := hu.cell
    obtain ⟨a', cap', rfl, _⟩ := Row.of_owns hrow
    obtain ⟨ua, uc, rfl, _⟩ := Row.of_owns hru
    rw [hlen] at hrow hru hle hc hcu
    have hKq : ∀ q, (W.drewN q).heap[D]? = some (.deferred (some [])) := fun _ => hK
    have hrow2 := fun q => owns_lower (ownsRow_putObj (owns_drewN hrow q) (.deferred none) (hKq q) rfl) (show w.heap.size ≤ w4.heap.size by omega)
    have hru2 := fun q => owns_lower (ownsRow_putObj (owns_drewN hru q) (.deferred none) (hKq q) rfl) (show w.heap.size ≤ w4.heap.size by omega)
    have hb2 : ∀ q, Below w.heap.size w ((W.drewN q).putObj D (.deferred none)) := fun q => (hB4.trans (below_drewN hB q)).trans (belowK_b (w := w) (Nat.le_refl _) (W.drewN q) D _ _ (by omega) (hKq q) rfl rfl)
    have HR2 := Lib.hid hrow2
    have HU2 := Lib.hid hru2
    have HB2 := Lib.hid hb2
    have HKq := Lib.hid hKq
    have HL := Lib.hid hlen
    clear hlen hrow2 hru2 hb2 hKq hrow hru hv hu hM hB hK
    gi_wp2
    gi_big_quiet_th (fail)
    gi_wp2
    refine ⟨by simp, .inl ⟨_, _, rfl, run_takeDeferred (HKq.out nq), ?_⟩⟩
    exact ⟨_, results_tmp2 rfl _ _ _, .slice a' N cap', .slice ua N uc, N, rfl, (Nat.min_eq_right hle).symm, HR2.out nq, HU2.out nq, HB2.out nq⟩
  case stop =>
    rintro D c pre W hD hpre ⟨⟨⟨v, hv, hrow, rfl, hlt⟩, ⟨u, hu, hru, _⟩⟩, hB⟩ hK
    have hpl : pre.length ≤ N := by have := hpre.length_le; rw [hlen] at this; exact this
    have e : pre.take most = runsTo L most := by
      obtain ⟨t, ht⟩ := hpre
      rw [← runsTo_take L (show most ≤ N by omega), ← ht, List.take_append_of_le_length (by omega)]
    rw [e, runsTo_len] at hrow hru
    have hc := hv.cell
    have hcu := hu.cell
    obtain ⟨a', cap', rfl, _⟩ := Row.of_owns hrow
    obtain ⟨ua, uc, rfl, _⟩ := Row.of_owns hru
    have hKq : ∀ q, (W.drewN q).heap[D]? = some (.deferred (some [])) := fun _ => hK
    have hrow2 := fun q => owns_lower (ownsRow_putObj (owns_drewN hrow q) (.deferred none) (hKq q) rfl) (show w.heap.size ≤ w4.heap.size by omega)
    have hru2 := fun q => owns_lower (ownsRow_putObj (owns_drewN hru q) (.deferred none) (hKq q) rfl) (show w.heap.size ≤ w4.heap.size by omega)
    have hb2 : ∀ q, Below w.heap.size w ((W.drewN q).putObj D (.deferred none)) := fun q => (hB4.trans (below_drewN hB q)).trans (belowK_b (w := w) (Nat.le_refl _) (W.drewN q) D _ _ (by omega) (hKq q) rfl rfl)
    have HR2 := Lib.hid hrow2
    have HU2 := Lib.hid hru2
    have HB2 := Lib.hid hb2
    have HKq := Lib.hid hKq
    clear hlen hrow2 hru2 hb2 hKq hrow hru hv hu hB hK e
    gi_wp2
    gi_big_quiet_th (fail)
    gi_wp2
    refine ⟨by simp, .inl ⟨_, _, rfl, run_takeDeferred (HKq.out nq), ?_⟩⟩
    exact ⟨_, results_tmp2 rfl _ _ _, .slice a' most cap', .slice ua most uc, most, rfl, (Nat.min_eq_left (show most ≤ N by omega)).symm, HR2.out nq, HU2.out nq, HB2.out nq⟩
end Go.Proofs.Ytddceidepmckiaa
