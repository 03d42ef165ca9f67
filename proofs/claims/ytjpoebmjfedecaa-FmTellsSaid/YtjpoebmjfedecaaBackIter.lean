/-
  back.Walk: the iterator over the rows that are come to, its contract.
-/
import Derived.Test.YtjpoebmjfedecaaBackAwake
namespace Go.Proofs.Ytjpoebmjfedecaa
open Go.RowKit Go.Shelf
attribute [local go_sem] Oper.semAt_some

/-- all blocks of a world lie as they lay -/
def Keeps (w W : World) : Prop := ∀ b, b < w.heap.size → W.heap[b]? = w.heap[b]?
theorem Keeps.of_below {w W : World} (h : Below w.heap.size w W) : Keeps w W := fun b hb => h.block b hb
theorem Keeps.drewN {w W : World} (h : Keeps w W) (k : Nat) : Keeps w (W.drewN k) := h
theorem Keeps.cell {w W : World} (h : Keeps w W) {p : Addr} {v : Value} (hc : w.cell? p = some v) : W.cell? p = some v :=
  (World.cell?_of_block (h p.block (World.block_lt_of_cell? w _ hc))).trans hc
theorem IdxAt.keeps {w W : World} {bx bm : Nat} {al : Option Addr} {cap : Nat} {L : List Nat} (h : IdxAt w bx bm al cap L) (hk : Keeps w W) : IdxAt W bx bm al cap L := by
  have hlt : bx < w.heap.size := World.block_lt_of_cell? w _ h.c0
  have hs : w.heap.size ≤ W.heap.size := by
    have h1 := hk (w.heap.size - 1) (by omega)
    have h2 : w.heap[w.heap.size - 1]? = some (w.heap[w.heap.size - 1]'(by omega)) := Array.getElem?_eq_getElem _
    have := (Array.getElem?_eq_some_iff.1 (h1.trans h2)).1
    omega
  have hb : Below w.heap.size w { W with os := w.os, tape := w.tape, output := w.output } := ⟨rfl, rfl, rfl, hs, hk⟩
  have h' := h.kept hb
  obtain ⟨a2, c2, bv, bw, ba, hm⟩ := h'.mt
  exact ⟨h'.c0, h'.c1, h'.cs, ⟨h'.rl.at_, h'.rl.cell⟩, a2, c2, bv, bw, ba, ⟨hm.cl, ⟨hm.rl.at_, hm.rl.cell⟩, hm.cv, hm.cz, fun k hk => (hm.vv k hk).of_blocks rfl rfl rfl, hm.sy, hm.small⟩⟩
/-- what comes of so many rounds -/
def wkTo (L : List Nat) (r k : Nat) : List (Nat × Fin 256) := (List.range k).map fun q => (itL L r (q + 1), byF (L.getD (itL L r q) 0 - 1))
theorem wkTo_zero (L : List Nat) (r : Nat) : wkTo L r 0 = [] := rfl
theorem wkTo_succ (L : List Nat) (r k : Nat) : wkTo L r (k + 1) = wkTo L r k ++ [(itL L r (k + 1), byF (L.getD (itL L r k) 0 - 1))] := by unfold wkTo; rw [List.range_succ, List.map_append]; rfl
theorem wkTo_len (L : List Nat) (r k : Nat) : (wkTo L r k).length = k := by simp [wkTo]
theorem wkTo_pre (L : List Nat) (r : Nat) {k n : Nat} (h : k ≤ n) : wkTo L r k <+: wkTo L r n := by
  obtain ⟨m, rfl⟩ := Nat.le.dest h
  refine ⟨((List.range m).map (k + ·)).map (fun q => (itL L r (q + 1), byF (L.getD (itL L r q) 0 - 1))), ?_⟩
  unfold wkTo
  rw [← List.map_append, ← List.range_add]
theorem wkTo_take (L : List Nat) (r : Nat) {j n : Nat} (h : j ≤ n) : (wkTo L r n).take j = wkTo L r j := by
  unfold wkTo
  rw [← List.map_take, List.take_range, Nat.min_eq_left h]
theorem wkTo_at (L : List Nat) (r : Nat) {k n : Nat} (h : k < n) : (wkTo L r n)[k]? = some (itL L r (k + 1), byF (L.getD (itL L r k) 0 - 1)) := by
  have h1 := wkTo_take L r (show k + 1 ≤ n by omega)
  have h2 := congrArg (fun l => l[k]?) h1
  simp only [List.getElem?_take_of_lt (show k < k + 1 by omega)] at h2
  rw [h2, wkTo_succ, List.getElem?_append_right (by rw [wkTo_len]; exact Nat.le_refl _), wkTo_len]
  simp
attribute [irreducible] wkTo
set_option maxRecDepth 100000 in
set_option maxHeartbeats 1000000 in
theorem walk1_in (n : Nat) (hn : 1 ≤ n) (l B1 B2 n₀ : Nat) (x : Nat → Prop) (w0 : World) (bx bm : Nat) (al : Option Addr) (cap : Nat) (L : List Nat) (hI : IdxAt w0 bx bm al cap L) (hx : ∀ b, x b → w0.heap.size ≤ b) (hn0 : w0.heap.size ≤ n₀)
    (r M : Nat) (hr : r < L.length) (hE : EndsL L r M) (hM : M < L.length) (J Jx : List (Nat × Fin 256) → World → Prop) (hA : ∀ s W k, J s W → J s (World.drewN W k))
    (hY : ∀ (pre : List (Nat × Fin 256)) (y : Nat × Fin 256) (W : World), J pre W → pre.length < M → (wkTo L r M)[pre.length]? = some y → YieldAt Fence.wide (n - 1) Try.prog l (bwV y) W fun e W' =>
      (e = .returned (.bool true) ∧ J (pre ++ [y]) W' ∧ KpX n₀ x W W') ∨ (e = .returned (.bool false) ∧ Jx (pre ++ [y]) W'))
    (W : World) (h1 : W.cell? ⟨B1, 0, none⟩ = some (.int .i64 (r : Int))) (h2 : W.cell? ⟨B2, 0, none⟩ = some (.pointer (some ⟨bx, 0, none⟩))) (hk0 : Keeps w0 W) (h0 : J [] W)
    (g2 : B2 < n₀ ∧ ¬ x B2) :
    CallsIn Fence.wide n Try.prog 64 #[.func (.yield l) #[] #[], .pointer (some ⟨B1, 0, none⟩), .pointer (some ⟨B2, 0, none⟩)] W fun e W' => (∃ v, e = .returned v) ∧
      ((∃ ys, ys = wkTo L r M ∧ J ys W') ∨ (∃ pre, pre <+: wkTo L r M ∧ Jx pre W')) := by
  have hwf : ∀ f, Fence.wide.fn f = True := fun _ => rfl
  have hsy : ∀ c ∈ L, c ≤ 256 := by obtain ⟨_, _, _, _, _, hm⟩ := hI.mt; exact hm.sy
  have hsm : L.length ≤ 100000 := by obtain ⟨_, _, _, _, _, hm⟩ := hI.mt; exact hm.small
  refine callsIn_of_wp Try.func64 rfl trivial ?_ rfl
  simp only [Try.ntmps64, List.size_toArray, List.length_cons, List.length_nil, Nat.reduceAdd, Nat.reduceSub, Array.replicate_succ, Array.replicate_zero, List.push_toArray, List.append_toArray, List.nil_append, List.cons_append]
  have HLN := Lib.hid (blen_any W bx bm al cap L (hI.keeps hk0))
  have HY := Lib.hid hY
  have HI := Lib.hid hI
  have H0 := Lib.hid h0
  have HK0 := Lib.hid hk0
  have HE := Lib.hid hE
  have HAJ := Lib.hid hA
  have HIT := Lib.hid (fun k => itL_lt L hsy r hr k)
  have HSY := Lib.hid hsy
  have H2 := Lib.hid h2
  have HX := Lib.hid hx
  clear hY hI h0 hk0 hE hA hsy hx
  gi_wp2_with (gi_at_call 13; refine (callsIn_wide.2 HLN.out).mono ?_; rintro e w' ⟨rfl, rfl⟩)
  clear h1 h2
  gi_loopw [4, 10] (fun v4 v10 wr => ∃ k : Nat, k ≤ M ∧ v4 = .int .i64 ((itL L r k : Nat) : Int) ∧ v10 = .int .i64 (k : Int) ∧ J (wkTo L r k) wr ∧ Keeps w0 wr ∧ wr.cell? ⟨B2, 0, none⟩ = some (.pointer (some ⟨bx, 0, none⟩))) (fun _ v10 _ => L.length - (intOf v10).toNat)
  case atStart => exact ⟨0, Nat.zero_le _, by rw [itL_zero], rfl, by rw [wkTo_zero]; exact H0.out, HK0.out, H2.out⟩
  case round =>
    obtain ⟨k, hk, rfl, rfl, hJ, hK, hB⟩ := hrel
    have hil := HIT.out k
    have hil2 := HIT.out (k + 1)
    have HJ := Lib.hid hJ
    have HK := Lib.hid hK
    have HB := Lib.hid hB
    have hkn : (k : Int) < (L.length : Int) := by omega
    have HIS := Lib.hid (itL_succ L r k)
    have HX1 := Lib.hid (wkTo_succ L r k)
    clear hJ hK
    by_cases hkM : k < M
    · have hnz := HE.out.goes k hkM
      have hle := HSY.out _ (getD_mem' hil)
      have HWA := Lib.hid (wkTo_at L r hkM)
      have HST := Lib.hid (bstep_yes wr bx bm al cap L (HI.out.keeps HK.out) (itL L r k) hil hnz)
      have HSM := Lib.hid (fun q => bsym_any (wr.drewN q) bx bm al cap L (HI.out.keeps (HK.out.drewN q)) ((itL L r k : Nat) : Int))
      rw [wget_in L _ hil] at HSM
      rw [← HIS.out] at HST
      generalize itL L r k = i at *
      generalize hi2 : itL L r (k + 1) = i2 at *
      have HI2 := Lib.hid hi2
      clear hi2
      generalize hcc : L.getD i 0 = c at *
      have hcz : ((c - 1 : Nat) : Int) = (c : Int) - 1 := by omega
      have hw1 : IntKind.u8.wrap ((c : Int) - 1) = ((c - 1 : Nat) : Int) := by rw [← hcz]; exact IntWalk.u8_in _ (by omega)
      have hbv := byF_val (c - 1) (by omega)
      clear hcc
      gi_wp2_with (gi_at_call 65; refine (callsIn_wide.2 HST.out).mono ?_; rintro e w' ⟨rfl, q1, rfl⟩; have hB2 : (wr.drewN q1).cell? ⟨B2, 0, none⟩ = some (.pointer (some ⟨bx, 0, none⟩)) := HB.out)
      refine (callsIn_wide.2 (HSM.out q1)).mono ?_
      rintro e w' ⟨rfl, q2, rfl⟩
      have HJw := Lib.hid (HAJ.out _ _ q2 (HAJ.out _ _ q1 HJ.out))
      have HKw : Hid (Keeps w0 ((wr.drewN q1).drewN q2)) := (HK.out.drewN q1).drewN q2
      have HBw : Hid (((wr.drewN q1).drewN q2).cell? ⟨B2, 0, none⟩ = some (.pointer (some ⟨bx, 0, none⟩))) := HB.out
      generalize (wr.drewN q1).drewN q2 = wx at *
      obtain ⟨fn, tmps, assign, body, hy, hR⟩ := HY.out (wkTo L r k) (i2, byF (c - 1)) wx HJw.out (by rw [wkTo_len]; exact hkM) (by rw [wkTo_len]; exact HWA.out)
      have HYR := Lib.hid hR
      unfold bwV at hy
      simp only [hbv] at hy
      clear hR hB hB2 hbv HST HSM hcz
      gi_wp2
      refine HYR.out.mono ?_
      rintro e0 W3 (⟨rfl, hJ3, hk3⟩ | ⟨rfl, hJx3⟩)
      · have HJ3 := Lib.hid hJ3
        have HK3 : Hid (Keeps w0 W3) := fun b hb => (hk3 b (by omega) (fun h => by have := HX.out b h; omega)).trans (HKw.out b hb)
        have HB3 : Hid (W3.cell? ⟨B2, 0, none⟩ = some (.pointer (some ⟨bx, 0, none⟩))) := (cell_kpX hk3 (p := ⟨B2, 0, none⟩) g2.1 g2.2).trans HBw.out
        clear hJ3 hk3
        gi_wp2
        go_roundw
        case rel => exact ⟨k + 1, by omega, by rw [HI2.out], by go_num, by rw [HX1.out]; exact HJ3.out, HK3.out, HB3.out⟩
        case measure => simp [intOf]; omega
      · gi_wp2
        refine bodyPost_ret (results_none rfl _ _ _) rfl ?_
        exact ⟨⟨_, rfl⟩, .inr ⟨_, by rw [← HX1.out]; exact wkTo_pre L r (by omega), hJx3⟩⟩
    · obtain rfl : k = M := by omega
      have HST := Lib.hid (bstep_no wr bx bm al cap L (HI.out.keeps HK.out) ((itL L r k : Nat) : Int) (.inr (.inr (by rw [Int.toNat_natCast]; exact HE.out.ends))))
      generalize itL L r k = i at *
      gi_wp2_with (gi_at_call 65; refine (callsIn_wide.2 HST.out).mono ?_; rintro e w' ⟨rfl, q1, rfl⟩)
      refine bodyPost_ret (results_none rfl _ _ _) rfl ?_
      exact ⟨⟨_, rfl⟩, .inl ⟨_, rfl, HAJ.out _ _ q1 HJ.out⟩⟩
set_option maxRecDepth 100000 in
set_option maxHeartbeats 1000000 in
theorem walk1_out (n : Nat) (hn : 1 ≤ n) (l B1 B2 : Nat) (w0 : World) (bx bm : Nat) (al : Option Addr) (cap : Nat) (L : List Nat) (hI : IdxAt w0 bx bm al cap L) (i : Int) (hi : i < 0 ∨ (L.length : Int) ≤ i) (J Jx : List (Nat × Fin 256) → World → Prop) (hA : ∀ s W k, J s W → J s (World.drewN W k))
    (W : World) (h1 : W.cell? ⟨B1, 0, none⟩ = some (.int .i64 i)) (h2 : W.cell? ⟨B2, 0, none⟩ = some (.pointer (some ⟨bx, 0, none⟩))) (hk0 : Keeps w0 W) (h0 : J [] W) :
    CallsIn Fence.wide n Try.prog 64 #[.func (.yield l) #[] #[], .pointer (some ⟨B1, 0, none⟩), .pointer (some ⟨B2, 0, none⟩)] W fun e W' => (∃ v, e = .returned v) ∧
      ((∃ ys, ys = [] ∧ J ys W') ∨ (∃ pre, pre <+: [] ∧ Jx pre W')) := by
  have hwf : ∀ f, Fence.wide.fn f = True := fun _ => rfl
  refine callsIn_of_wp Try.func64 rfl trivial ?_ rfl
  simp only [Try.ntmps64, List.size_toArray, List.length_cons, List.length_nil, Nat.reduceAdd, Nat.reduceSub, Array.replicate_succ, Array.replicate_zero, List.push_toArray, List.append_toArray, List.nil_append, List.cons_append]
  have HLN := Lib.hid (blen_any W bx bm al cap L (hI.keeps hk0))
  have HST := Lib.hid (bstep_no W bx bm al cap L (hI.keeps hk0) i (hi.imp id .inl))
  have H0 := Lib.hid h0
  have HAJ := Lib.hid hA
  clear hI h0 hk0 hA hi
  by_cases hl : L.length = 0
  · have hld : decide ((0 : Int) < (L.length : Int)) = false := by rw [hl]; rfl
    have hln : decide (0 < L.length) = false := by rw [hl]; rfl
    have hlm : ¬ 0 < L.length := by omega
    have hlk : ¬ (0 : Int) < (L.length : Int) := by omega
    clear hl
    gi_wp2_with (gi_at_call 13; refine (callsIn_wide.2 HLN.out).mono ?_; rintro e w' ⟨rfl, rfl⟩)
    refine wpIn_loop_rounds 1 ?_
    rw [roundsIn_succ]
    gi_wp2
    go_end0
    exact ⟨⟨_, rfl⟩, .inl ⟨_, rfl, H0.out⟩⟩
  · have hld : (0 : Int) < (L.length : Int) := by omega
    clear hl
    gi_wp2_with (gi_at_call 13; refine (callsIn_wide.2 HLN.out).mono ?_; rintro e w' ⟨rfl, rfl⟩)
    refine wpIn_loop_rounds 1 ?_
    rw [roundsIn_succ]
    gi_wp2_with (gi_at_call 65; refine (callsIn_wide.2 HST.out).mono ?_; rintro e w' ⟨rfl, q1, rfl⟩)
    refine bodyPost_ret (results_none rfl _ _ _) rfl ?_
    exact ⟨⟨_, rfl⟩, .inl ⟨_, rfl, HAJ.out _ _ q1 H0.out⟩⟩
theorem bwalk_any (w : World) (bx : Nat) (i : Int) :
    Calls Try.prog 43 #[.pointer (some ⟨bx, 0, none⟩), .int .i64 i] w fun e w' => e = .returned (.func (.func 64) #[] #[.pointer (some ⟨w.heap.size + 1, 0, none⟩), .pointer (some ⟨w.heap.size, 0, none⟩)]) ∧ w' = (w.alloc (.cells #[.pointer (some ⟨bx, 0, none⟩)] 23)).alloc (.cells #[.int .i64 i] 3) := by
  go_enter Try.func43, Try.ntmps43
  go_wp2
  go_ret
  exact ⟨rfl, rfl⟩
end Go.Proofs.Ytjpoebmjfedecaa
