/-
  bwt.Runs: the iterator over the runs of a row, its contract.
-/
import Derived.Test.YtddceidepmckiaaRunMath
import Derived.Test.YtddceidepmckiaaBwtStarts
import Derived.Sort.BigQuietIn
namespace Go.Proofs.Ytddceidepmckiaa
open Go.RowKit Go.Shelf
attribute [local go_sem] Oper.semAt_some

theorem info_u16' : (Try.prog.info? 56).map (fun i => (i.zero, i.size, i.bytes)) = some (some (.int .u16 0), 1, 2) := by kernel_rfl
def rnV (y : Nat × Nat) : Array Value := #[.int .u16 (y.1 : Int), .int .i64 (y.2 : Int)]
set_option maxRecDepth 100000 in
set_option maxHeartbeats 1000000 in
theorem runs1_in (n : Nat) (hn : 1 ≤ n) (l Bn n₀ : Nat) (x : Nat → Prop) (a : Option Addr) (cap : Nat) (L : List Nat) (N B0 : Nat) (hL : L.length ≤ 1000) (hN : EndsR L N) (J Jx : List (Nat × Nat) → World → Prop) (hA : AbidesFrom B0 J)
    (hY : ∀ (pre : List (Nat × Nat)) (y : Nat × Nat) (W : World), J pre W → pre.length < N → YieldAt Fence.wide (n - 1) Try.prog l (rnV y) W fun e W' =>
      (e = .returned (.bool true) ∧ J (pre ++ [y]) W' ∧ KpX n₀ x W W') ∨ (e = .returned (.bool false) ∧ Jx (pre ++ [y]) W'))
    (W : World) (hBn : W.cell? ⟨Bn, 0, none⟩ = some (.slice a L.length cap)) (hV : Row W a L.length (symV L)) (h0 : J [] W)
    (g1 : Bn < n₀ ∧ ¬ x Bn) (g2 : L.length = 0 ∨ (bOf a < n₀ ∧ ¬ x (bOf a))) :
    CallsIn Fence.wide n Try.prog 82 #[.func (.yield l) #[] #[], .pointer (some ⟨Bn, 0, none⟩)] W fun e W' => (∃ v, e = .returned v) ∧
      ((∃ ys, ys = runsTo L N ∧ J ys W') ∨ (∃ pre, pre <+: runsTo L N ∧ Jx pre W')) := by
  have hwf : ∀ f, Fence.wide.fn f = True := fun _ => rfl
  have hixP := fun (W : World) p hp => run_ix (P := Try.prog) 52 (by kernel_rfl) size_u16 a L.length cap hV.at_ .i64 W p hp
  refine callsIn_of_wp Try.func82 rfl trivial ?_ rfl
  simp only [Try.ntmps82, List.size_toArray, List.length_cons, List.length_nil, Nat.reduceAdd, Nat.reduceSub, Array.replicate_succ, Array.replicate_zero, List.push_toArray, List.append_toArray, List.nil_append, List.cons_append]
  have HY := Lib.hid hY
  have HV := Lib.hid hV
  have H0 := Lib.hid h0
  have HBn := Lib.hid hBn
  have HN := Lib.hid hN
  have HAJ := Lib.hid hA
  have HIX := Lib.hid hixP
  clear hY hV h0 hN hA hixP
  gi_wp2
  clear hBn
  gi_loopw [3] (fun i wr => ∃ j : Nat, j ≤ N ∧ i = .int .i64 ((posR L j : Nat) : Int) ∧ J (runsTo L j) wr ∧ Row wr a L.length (symV L) ∧ wr.cell? ⟨Bn, 0, none⟩ = some (.slice a L.length cap)) (fun i _ => L.length - (intOf i).toNat)
  case atStart => exact ⟨0, Nat.zero_le _, by rw [posR_zero]; rfl, by rw [runsTo_zero]; exact H0.out, HV.out, HBn.out⟩
  case round =>
    obtain ⟨j, hj, rfl, hJ, hV, hB⟩ := hrel
    have hpl := (HN.out.le j hj).2
    obtain ⟨p, hp⟩ : ∃ p, p = posR L j := ⟨_, rfl⟩
    rw [← hp] at hpl ⊢
    have HP := Lib.hid hp
    have HJ := Lib.hid hJ
    have HR := Lib.hid hV
    have HB := Lib.hid hB
    clear hp hJ hV
    obtain ⟨wo, hwo⟩ : ∃ wo : World, wo = wr := ⟨_, rfl⟩
    subst hwo
    by_cases hlt : p < L.length
    · have dp : wo.cell? ⟨bOf a, oOf a + p, none⟩ = some (.int .u16 ((L.getD p 0 : Nat) : Int)) := HR.out.cell p hlt
      gi_wp2
      gi_loopw [4] (fun v4 wi => ∃ e m : Nat, p < e ∧ e ≤ L.length ∧ v4 = .int .i64 (e : Int) ∧ (∀ q, p ≤ q → q < e → L.getD q 0 = L.getD p 0) ∧ wi = wo.drewN m) (fun v4 _ => L.length - (intOf v4).toNat)
      case atStart => exact ⟨p + 1, 0, by omega, by omega, by go_num, fun q h1 h2 => by rw [show q = p by omega], rfl⟩
      case round =>
        obtain ⟨e, m, he1, he2, rfl, heq, rfl⟩ := hrel
        have HEQ := Lib.hid heq
        clear heq
        by_cases he : e < L.length
        · have d0 : wo.cell? ⟨bOf a, oOf a + e, none⟩ = some (.int .u16 ((L.getD e 0 : Nat) : Int)) := HR.out.cell e he
          have hx1 := fun W => HIX.out W e he
          have hx2 := fun W => HIX.out W p hlt
          have hei : (e : Int) < (L.length : Int) := by omega
          by_cases hs : L.getD e 0 = L.getD p 0
          · have HS := Lib.hid hs
            rw [hs] at d0
            clear hs
            generalize L.getD p 0 = c at *
            gi_wp2
            gi_big_quiet_th (fail)
            gi_wp2
            go_roundw
            case rel => exact ⟨e + 1, _, by omega, by omega, by go_num, fun q h1 h2 => by
              by_cases h : q < e
              · exact HEQ.out q h1 h
              · obtain rfl : q = e := by omega
                exact HS.out, rfl⟩
            case measure => simp [intOf]; omega
          · obtain ⟨c0, hc0⟩ : ∃ c0, c0 = L.getD p 0 := ⟨_, rfl⟩
            obtain ⟨c1, hc1⟩ : ∃ c1, c1 = L.getD e 0 := ⟨_, rfl⟩
            have hne : ((c1 : Int) == (c0 : Int)) = false := by rw [beq_eq_false_iff_ne]; omega
            rw [← hc1] at d0
            rw [← hc0] at dp
            clear hc0 hc1
            have HE0 : Hid (e = runEnd L p) := runEnd_one L p e he1 he2 HEQ.out (.inr hs)
            clear hs
            gi_wp2
            gi_big_quiet_th (fail)
            rw [World.drewN_drewN]
            obtain ⟨mm, hmm⟩ : ∃ mm, mm = m + nq := ⟨_, rfl⟩
            rw [← hmm]
            clear hmm hne d0 hx1 hx2 dp hei hB
            have HE : Hid (e = posR L (j + 1)) := by rw [posR_succ L j (by rw [← HP.out]; exact hlt), ← HP.out]; exact HE0.out
            have hrn : rnR L j = (L.getD p 0, e - p) := by rw [rnR_def, ← HE.out, ← HP.out]
            have HRN := Lib.hid hrn
            clear hrn
            have HJw := Lib.hid (abides_drewN HAJ.out HJ.out mm)
            have HRw := Lib.hid (HR.out.drewN mm)
            have hcw : (wo.drewN mm).cell? ⟨Bn, 0, none⟩ = some (.slice a L.length cap) := HB.out
            have dpw : (wo.drewN mm).cell? ⟨bOf a, oOf a + p, none⟩ = some (.int .u16 ((L.getD p 0 : Nat) : Int)) := HRw.out.cell p hlt
            generalize wo.drewN mm = wx at *
            have hjN : j < N := by
              rcases Nat.lt_or_ge j N with h | h
              · exact h
              · obtain rfl : j = N := by omega
                have := HN.out.fin
                rw [← HP.out] at this
                omega
            obtain ⟨fn, tmps, assign, body, hy, hR⟩ := HY.out (runsTo L j) (rnR L j) wx HJw.out (by rw [runsTo_len]; exact hjN)
            rw [HRN.out] at hR hy
            unfold rnV at hy
            simp only at hy
            have HYR := Lib.hid hR
            have HX := Lib.hid (runsTo_succ L j)
            rw [HRN.out] at HX
            generalize L.getD p 0 = c at *
            obtain ⟨nn, hnn⟩ : ∃ nn, nn = e - p := ⟨_, rfl⟩
            rw [← hnn] at HYR HX hy
            have hz1 : (e : Int) - (p : Int) = (nn : Int) := by omega
            have hz2 : IntKind.i64.wrap ((e : Int) - (p : Int)) = (nn : Int) := by rw [hz1]; exact IntWalk.i64_in _ (by omega)
            clear hR hnn
            have hixp := fun W => HIX.out W p hlt
            gi_wp2
            refine HYR.out.mono ?_
            rintro e0 W3 (⟨rfl, hJ3, hk3⟩ | ⟨rfl, hJx3⟩)
            · have HJ3 := Lib.hid hJ3
              have HR3 : Hid (Row W3 a L.length (symV L)) := row_of_block HRw.out (g2.elim .inl (fun h => .inr (hk3 _ h.1 h.2)))
              have HB3 : Hid (W3.cell? ⟨Bn, 0, none⟩ = some (.slice a L.length cap)) := (cell_kpX hk3 (p := ⟨Bn, 0, none⟩) g1.1 g1.2).trans hcw
              clear hJ3 hk3 hcw dpw
              gi_wp2
              go_roundw
              case rel => exact ⟨j + 1, by omega, by rw [← HE.out], by rw [HX.out]; exact HJ3.out, HR3.out, HB3.out⟩
              case measure => simp [intOf]; omega
            · gi_wp2
              refine bodyPost_ret (results_none rfl _ _ _) rfl ?_
              exact ⟨⟨_, rfl⟩, .inr ⟨_, by rw [← HX.out]; exact runsTo_pre L (by omega), hJx3⟩⟩
        · obtain rfl : e = L.length := by omega
          have hei : decide ((L.length : Int) < (L.length : Int)) = false := by simp
          have HE0 : Hid (L.length = runEnd L p) := runEnd_one L p _ he1 he2 HEQ.out (.inl rfl)
          gi_wp2
          gi_big_quiet_th (fail)
          rw [World.drewN_drewN]
          obtain ⟨mm, hmm⟩ : ∃ mm, mm = m + nq := ⟨_, rfl⟩
          rw [← hmm]
          clear hmm dp hei hB he
          have HE : Hid (L.length = posR L (j + 1)) := by rw [posR_succ L j (by rw [← HP.out]; exact hlt), ← HP.out]; exact HE0.out
          have hrn : rnR L j = (L.getD p 0, L.length - p) := by rw [rnR_def, ← HE.out, ← HP.out]
          have HRN := Lib.hid hrn
          clear hrn
          have HJw := Lib.hid (abides_drewN HAJ.out HJ.out mm)
          have HRw := Lib.hid (HR.out.drewN mm)
          have hcw : (wo.drewN mm).cell? ⟨Bn, 0, none⟩ = some (.slice a L.length cap) := HB.out
          have dpw : (wo.drewN mm).cell? ⟨bOf a, oOf a + p, none⟩ = some (.int .u16 ((L.getD p 0 : Nat) : Int)) := HRw.out.cell p hlt
          generalize wo.drewN mm = wx at *
          have hjN : j < N := by
            rcases Nat.lt_or_ge j N with h | h
            · exact h
            · obtain rfl : j = N := by omega
              have := HN.out.fin
              rw [← HP.out] at this
              omega
          obtain ⟨fn, tmps, assign, body, hy, hR⟩ := HY.out (runsTo L j) (rnR L j) wx HJw.out (by rw [runsTo_len]; exact hjN)
          rw [HRN.out] at hR hy
          unfold rnV at hy
          simp only at hy
          have HYR := Lib.hid hR
          have HX := Lib.hid (runsTo_succ L j)
          rw [HRN.out] at HX
          generalize L.getD p 0 = c at *
          obtain ⟨nn, hnn⟩ : ∃ nn, nn = L.length - p := ⟨_, rfl⟩
          rw [← hnn] at HYR HX hy
          have hz1 : (L.length : Int) - (p : Int) = (nn : Int) := by omega
          have hz2 : IntKind.i64.wrap ((L.length : Int) - (p : Int)) = (nn : Int) := by rw [hz1]; exact IntWalk.i64_in _ (by omega)
          clear hR hnn
          have hixp := fun W => HIX.out W p hlt
          gi_wp2
          refine HYR.out.mono ?_
          rintro e0 W3 (⟨rfl, hJ3, hk3⟩ | ⟨rfl, hJx3⟩)
          · have HJ3 := Lib.hid hJ3
            have HR3 : Hid (Row W3 a L.length (symV L)) := row_of_block HRw.out (g2.elim .inl (fun h => .inr (hk3 _ h.1 h.2)))
            have HB3 : Hid (W3.cell? ⟨Bn, 0, none⟩ = some (.slice a L.length cap)) := (cell_kpX hk3 (p := ⟨Bn, 0, none⟩) g1.1 g1.2).trans hcw
            clear hJ3 hk3 hcw dpw
            gi_wp2
            go_roundw
            case rel => exact ⟨j + 1, by omega, by rw [← HE.out], by rw [HX.out]; exact HJ3.out, HR3.out, HB3.out⟩
            case measure => simp [intOf]; omega
          · gi_wp2
            refine bodyPost_ret (results_none rfl _ _ _) rfl ?_
            exact ⟨⟨_, rfl⟩, .inr ⟨_, by rw [← HX.out]; exact runsTo_pre L (by omega), hJx3⟩⟩
    · have hpi : decide ((p : Int) < (L.length : Int)) = false := by simp; omega
      have hjn : runsTo L j = runsTo L N := by
        rcases Nat.lt_or_ge j N with h | h
        · have := HN.out.go j h
          rw [← HP.out] at this
          omega
        · rw [show j = N by omega]
      have HJN := Lib.hid hjn
      clear hjn
      gi_wp2
      go_end0
      exact ⟨⟨_, rfl⟩, .inl ⟨_, HJN.out, HJ.out⟩⟩
theorem runs_stops (n : Nat) (hn : 1 ≤ n) (Bn n₀ : Nat) (x : Nat → Prop) (a : Option Addr) (cap : Nat) (L : List Nat) (N : Nat) (hL : L.length ≤ 1000) (hN : EndsR L N) (w : World) 
    (hc : w.cell? ⟨Bn, 0, none⟩ = some (.slice a L.length cap)) (hV : Row w a L.length (symV L)) (hB : Bn < w.heap.size) (g1 : Bn < n₀ ∧ ¬ x Bn) (g2 : L.length = 0 ∨ (bOf a < n₀ ∧ ¬ x (bOf a))) :
    SeqStopsK Fence.wide n Try.prog 82 #[.pointer (some ⟨Bn, 0, none⟩)] rnV (KpX n₀ x) (fun ys => ys = runsTo L N) (fun pre => pre <+: runsTo L N) N w :=
  fun l J Jx W hW hA _ hY h0 =>
  runs1_in n hn l Bn n₀ x a cap L N _ hL hN J Jx hA hY W ((hW.cell (p := ⟨Bn, 0, none⟩) hB).trans hc) (hV.kept hW) h0 g1 g2
end Go.Proofs.Ytddceidepmckiaa
