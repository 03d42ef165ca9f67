/-
  The places of the bits that are set: the iterator's contract, and what the statements' helper gathers of it.
-/
import Derived.Test.YtamonbpgjhhdhaaBitsLaw
namespace Go.Proofs.Ytamonbpgjhhdhaa
open Go.RowKit Go.Shelf
attribute [local go_sem] Oper.semAt_some

/-- the places of those that are set, in order -/
def onesL (p : Nat → Bool) (n : Nat) : List Nat := (List.range n).filter p
theorem onesL_zero (p : Nat → Bool) : onesL p 0 = [] := rfl
theorem onesL_true (p : Nat → Bool) (k : Nat) (h : p k = true) : onesL p (k + 1) = onesL p k ++ [k] := by simp [onesL, List.range_succ, h]
theorem onesL_false (p : Nat → Bool) (k : Nat) (h : p k = false) : onesL p (k + 1) = onesL p k := by simp [onesL, List.range_succ, h]
theorem onesL_pre (p : Nat → Bool) {k n : Nat} (h : k ≤ n) : onesL p k <+: onesL p n := by
  obtain ⟨m, rfl⟩ := Nat.le.dest h
  refine ⟨((List.range m).map (k + ·)).filter p, ?_⟩
  unfold onesL
  rw [← List.filter_append, ← List.range_add]
theorem onesL_len (p : Nat → Bool) (n : Nat) : (onesL p n).length = cnt p n := by
  induction n with
  | zero => simp [onesL, cnt_zero]
  | succ n ih =>
    rw [cnt_succ]
    cases h : p n
    · rw [onesL_false p n h, ih]; simp
    · rw [onesL_true p n h]; simp [ih]

theorem VecAt.of_blocks {w w' : World} {bv bw ba n : Nat} {p : Nat → Bool} (h : VecAt w bv bw ba n p) (hv : w'.heap[bv]? = w.heap[bv]?) (hw : w'.heap[bw]? = w.heap[bw]?) (ha : w'.heap[ba]? = w.heap[ba]?) : VecAt w' bv bw ba n p := by
  refine ⟨?_, ?_, ?_, fun k hk => ?_, fun k hk => ?_, ?_, h.past, h.small⟩
  · rw [World.cell?_of_block (w := w) hv, h.cn]
  · rw [World.cell?_of_block (w := w) hv, h.cw]
  · rw [World.cell?_of_block (w := w) hv, h.ca]
  · rw [World.cell?_of_block (w := w) (a := ⟨bw, k, none⟩) hw, h.ww k hk]
  · rw [World.cell?_of_block (w := w) (a := ⟨ba, k, none⟩) ha, h.wa k hk]
  · have : w.heap[bw]? = some (w.heap[bw]'h.lw) := Array.getElem?_eq_getElem h.lw
    rw [this] at hw
    exact (Array.getElem?_eq_some_iff.1 hw).1

set_option maxRecDepth 100000 in
set_option maxHeartbeats 1000000 in
theorem ones1_in (n : Nat) (hn : 1 ≤ n) (l Bn n₀ : Nat) (x : Nat → Prop) (bv bw ba N : Nat) (p : Nat → Bool) (J Jx : List Nat → World → Prop)
    (hY : ∀ (pre : List Nat) (i : Nat) (W : World), J pre W → pre.length < (onesL p N).length → YieldAt Fence.wide (n - 1) Try.prog l #[.int .i64 (i : Int)] W fun e W' =>
      (e = .returned (.bool true) ∧ J (pre ++ [i]) W' ∧ KpX n₀ x W W') ∨ (e = .returned (.bool false) ∧ Jx (pre ++ [i]) W'))
    (W : World) (hBn : W.cell? ⟨Bn, 0, none⟩ = some (.pointer (some ⟨bv, 0, none⟩))) (hV : VecAt W bv bw ba N p) (h0 : J [] W)
    (g1 : Bn < n₀ ∧ ¬ x Bn) (g2 : bv < n₀ ∧ ¬ x bv) (g3 : bw < n₀ ∧ ¬ x bw) (g4 : ba < n₀ ∧ ¬ x ba) :
    CallsIn Fence.wide n Try.prog 24 #[.func (.yield l) #[] #[], .pointer (some ⟨Bn, 0, none⟩)] W fun e W' => (∃ v, e = .returned v) ∧
      ((∃ ys, ys = onesL p N ∧ J ys W') ∨ (∃ pre, pre <+: onesL p N ∧ Jx pre W')) := by
  have hwf : ∀ f, Fence.wide.fn f = True := fun _ => rfl
  have cn := hV.cn
  have small := hV.small
  refine callsIn_of_wp Try.func24 rfl trivial ?_ rfl
  simp only [Try.ntmps24, List.size_toArray, List.length_cons, List.length_nil, Nat.reduceAdd, Nat.reduceSub, Array.replicate_succ, Array.replicate_zero, List.push_toArray, List.append_toArray, List.nil_append, List.cons_append]
  have HY := Lib.hid hY
  have HV := Lib.hid hV
  have H0 := Lib.hid h0
  have HBn := Lib.hid hBn
  clear hY hV h0
  gi_wp2
  clear hBn cn
  gi_loopw [8] (fun i wr => ∃ k : Nat, k ≤ N ∧ i = .int .i64 k ∧ J (onesL p k) wr ∧ VecAt wr bv bw ba N p ∧ wr.cell? ⟨Bn, 0, none⟩ = some (.pointer (some ⟨bv, 0, none⟩))) (fun i _ => N - (intOf i).toNat)
  case atStart => exact ⟨0, Nat.zero_le _, rfl, H0.out, HV.out, HBn.out⟩
  case round =>
    obtain ⟨k, hk, rfl, hJ, hV, hB⟩ := hrel
    by_cases hlt : k < N
    · have HV2 := Lib.hid hV
      have HJ := Lib.hid hJ
      cases hp : p k
      · have hg := callsIn_wide (n := n - 1) |>.2 (get_still wr bv bw ba N p (k : Int) hV)
        have e1 : (decide (0 ≤ (k : Int)) && p (k : Int).toNat) = false := by simp [hp]
        rw [e1] at hg
        have HG := Lib.hid hg
        have HX := Lib.hid (onesL_false p k hp)
        clear hg e1 hV hJ hp
        gi_wp2_with (gi_at_call 11; refine HG.out.mono ?_; rintro e w' ⟨rfl, rfl⟩)
        go_roundw
        case rel => exact ⟨k + 1, by omega, by go_num, by rw [HX.out]; exact HJ.out, HV2.out, hB⟩
        case measure => simp [intOf]; omega
      · have hg := callsIn_wide (n := n - 1) |>.2 (get_still wr bv bw ba N p (k : Int) hV)
        have e1 : (decide (0 ≤ (k : Int)) && p (k : Int).toNat) = true := by simp [hp]
        rw [e1] at hg
        have HG := Lib.hid hg
        have HX := Lib.hid (onesL_true p k hp)
        obtain ⟨fn, tmps, assign, body, hy, hR⟩ := HY.out (onesL p k) k wr hJ (by
          have h1 := (onesL_pre p (show k + 1 ≤ N by omega)).length_le
          rw [HX.out] at h1
          simp at h1
          omega)
        have HR := Lib.hid hR
        clear hg e1 hV hJ hp hR
        gi_wp2_with (gi_at_call 11; refine HG.out.mono ?_; rintro e w' ⟨rfl, rfl⟩)
        refine HR.out.mono ?_
        rintro e W3 (⟨rfl, hJ3, hk3⟩ | ⟨rfl, hJx3⟩)
        · have hV3 : VecAt W3 bv bw ba N p := HV2.out.of_blocks (hk3 _ g2.1 g2.2) (hk3 _ g3.1 g3.2) (hk3 _ g4.1 g4.2)
          have hB3 : W3.cell? ⟨Bn, 0, none⟩ = some (.pointer (some ⟨bv, 0, none⟩)) := (cell_kpX hk3 (p := ⟨Bn, 0, none⟩) g1.1 g1.2).trans hB
          have HV3 := Lib.hid hV3
          have HJ3 := Lib.hid hJ3
          have HB3 := Lib.hid hB3
          clear hV3 hJ3 hB3 hk3
          gi_wp2
          go_roundw
          case rel => exact ⟨k + 1, by omega, by go_num, by rw [HX.out]; exact HJ3.out, HV3.out, HB3.out⟩
          case measure => simp [intOf]; omega
        · gi_wp2
          refine bodyPost_ret (results_none rfl _ _ _) rfl ?_
          exact ⟨⟨_, rfl⟩, .inr ⟨onesL p k ++ [k], by rw [← HX.out]; exact onesL_pre p (by omega), hJx3⟩⟩
    · obtain rfl : k = N := by omega
      clear hV hB
      gi_wp2
      go_end0
      exact ⟨⟨_, rfl⟩, .inl ⟨_, rfl, hJ⟩⟩
theorem ones_stops (n : Nat) (hn : 1 ≤ n) (Bn n₀ : Nat) (x : Nat → Prop) (bv bw ba N : Nat) (p : Nat → Bool) (w : World) (hn₀ : n₀ ≤ w.heap.size)
    (hc : w.cell? ⟨Bn, 0, none⟩ = some (.pointer (some ⟨bv, 0, none⟩))) (hV : VecAt w bv bw ba N p) (g1 : Bn < n₀ ∧ ¬ x Bn) (g2 : bv < n₀ ∧ ¬ x bv) (g3 : bw < n₀ ∧ ¬ x bw) (g4 : ba < n₀ ∧ ¬ x ba) :
    SeqStopsK Fence.wide n Try.prog 24 #[.pointer (some ⟨Bn, 0, none⟩)] (fun i : Nat => #[Value.int .i64 (i : Int)]) (KpX n₀ x) (fun ys => ys = onesL p N) (fun pre => pre <+: onesL p N) (onesL p N).length w :=
  fun l J Jx W hW _ _ hY h0 =>
  ones1_in n hn l Bn n₀ x bv bw ba N p J Jx hY W ((hW.cell (p := ⟨Bn, 0, none⟩) (by show Bn < _; omega)).trans hc) (hV.kept hW) h0 g1 g2 g3 g4

theorem onesF_any (w : World) (pv : Option Addr) :
    Calls Try.prog 23 #[.pointer pv] w fun e w' => e = .returned (.func (.func 24) #[] #[.pointer (some ⟨w.heap.size, 0, none⟩)]) ∧ w' = w.alloc (.cells #[.pointer pv] 24) := by
  go_enter Try.func23, Try.ntmps23
  go_wp2
  go_ret
  exact ⟨rfl, rfl⟩

theorem nilf (A : Array Value) (W : World) : (binOp .eql 48 (.func (.func 24) #[] A) .nilFunc).run Try.prog W = .ok (.bool false) W := by kernel_rfl

set_option maxRecDepth 100000 in
set_option maxHeartbeats 1000000 in
theorem ones_any (w : World) (bv bw ba N : Nat) (p : Nat → Bool) (most : Nat) (hm : most ≤ 2000000) (hV : VecAt w bv bw ba N p) :
    Calls Try.prog 15 #[.pointer (some ⟨bv, 0, none⟩), .int .i64 most] w fun e w' => ∃ v m, e = .returned v ∧ m = ((onesL p N).take most).length ∧
      w'.ownsRow (w.heap.size + 3) 3 1 v m (((onesL p N).take most).map fun i : Nat => Value.int .i64 (i : Int)) ∧ Below w.heap.size w w' := by
  refine (callsIn_wide (n := 3)).1 ?_
  have hwf : ∀ f, Fence.wide.fn f = True := fun _ => rfl
  obtain ⟨i0, hi, hz0, hz1, hz2⟩ := info_parts info_int
  refine callsIn_of_wp_marks Try.func15 rfl trivial ?_ rfl
  simp only [Try.ntmps15, List.size_toArray, List.length_cons, List.length_nil, Nat.reduceAdd, Nat.reduceSub, Array.replicate_succ, Array.replicate_zero, List.push_toArray, List.append_toArray, List.nil_append, List.cons_append]
  have HV := Lib.hid hV
  clear hV
  have hnf := nilf
  gi_wp2_with (gi_at_call 23; refine (callsIn_wide.2 (onesF_any _ _)).mono ?_; rintro e w' ⟨rfl, rfl⟩)
  have bM := Boxed.new w 3 (.int .i64 most)
  have bO := Boxed.new (w.alloc (.cells #[.int .i64 most] 3)) 32 (.slice none 0 0)
  have bN := Boxed.new ((w.alloc (.cells #[.int .i64 most] 3)).alloc (.cells #[.slice none 0 0] 32)) 24 (.pointer (some ⟨bv, 0, none⟩))
  rw [World.size_alloc] at bO
  rw [World.size_alloc, World.size_alloc] at bN
  have hB0 : Below w.heap.size w (((w.alloc (.cells #[.int .i64 most] 3)).alloc (.cells #[.slice none 0 0] 32)).alloc (.cells #[.pointer (some ⟨bv, 0, none⟩)] 24)) :=
    (((Below.refl _ w).alloc (Nat.le_refl _) _).alloc (by simp) _).alloc (by simp; omega) _
  have hV0 := HV.out.kept hB0
  have bO2 := bO.alloc (.cells #[.pointer (some ⟨bv, 0, none⟩)] 24)
  have bM2 := (bM.alloc (.cells #[.slice none 0 0] 32)).alloc (.cells #[.pointer (some ⟨bv, 0, none⟩)] 24)
  have hs3 : (((w.alloc (.cells #[.int .i64 most] 3)).alloc (.cells #[.slice none 0 0] 32)).alloc (.cells #[.pointer (some ⟨bv, 0, none⟩)] 24)).heap.size = w.heap.size + 3 := by simp
  clear bO bM
  generalize (((w.alloc (.cells #[.int .i64 most] 3)).alloc (.cells #[.slice none 0 0] 32)).alloc (.cells #[.pointer (some ⟨bv, 0, none⟩)] 24)) = W3 at *
  have l1 := World.block_lt_of_cell? w _ HV.out.cn
  have l2 := HV.out.lw
  have l3 := World.block_lt_of_cell? w _ (HV.out.wa 0 (by omega))
  dsimp only at l1 l3
  have hlen : (onesL p N).length ≤ N := by rw [onesL_len]; exact cnt_le _ _
  have hsm := HV.out.small
  refine wpIn_rangeFunc_ownG rfl (by omega) (gf := 24) (lb := #[.pointer (some ⟨w.heap.size + 1 + 1, 0, none⟩)]) rfl trivial (enters_of Try.func24 (by kernel_rfl) rfl)
    (ones_stops 2 (by omega) (w.heap.size + 1 + 1) (w.heap.size + 3) (fun b => b = w.heap.size + 1) bv bw ba N p _ (by omega) bN.cell hV0 ⟨by omega, by omega⟩ ⟨by omega, by omega⟩ ⟨by omega, by omega⟩ ⟨by omega, by omega⟩)
    kpX_t (kpX_b (by omega)) (Below.refl _ _) (fun _ => rfl)
    (fun pre W => (∃ v, Boxed W (w.heap.size + 1) 32 v ∧ W.ownsRow (w.heap.size + 3) 3 1 v pre.length (pre.map fun i : Nat => Value.int .i64 (i : Int)) ∧ pre.length ≤ most) ∧ Boxed W w.heap.size 3 (.int .i64 most) ∧ Below w.heap.size W3 W)
    (fun c pre W => (∃ v, Boxed W (w.heap.size + 1) 32 v ∧ W.ownsRow (w.heap.size + 3) 3 1 v (pre.take most).length ((pre.take most).map fun i : Nat => Value.int .i64 (i : Int)) ∧ (c = .exit 0 ∧ most < pre.length)) ∧ Below w.heap.size W3 W)
    (OwnFrom.and (Own.from (holdsRow_own (w.heap.size + 3) (w.heap.size + 1) 32 3 1 (fun pre : List Nat => pre.length) (fun pre : List Nat => pre.map fun i : Nat => Value.int .i64 (i : Int)) (fun (pre : List Nat) v => pre.length ≤ most)) _) (OwnFrom.and (Own.from (boxed_own w.heap.size 3 (fun _ => .int .i64 most)) _) (ownFrom_below (by omega) (by omega))))
    (fun c => OwnFrom.and (Own.from (holdsRow_own (w.heap.size + 3) (w.heap.size + 1) 32 3 1 (fun pre : List Nat => (pre.take most).length) (fun pre : List Nat => (pre.take most).map fun i : Nat => Value.int .i64 (i : Int)) (fun (pre : List Nat) v => c = .exit 0 ∧ most < pre.length)) _) (ownFrom_below (by omega) (by omega)))
    ⟨⟨_, bO2, World.ownsRow_nil _ _ _ _, Nat.zero_le _⟩, bM2, Below.refl _ _⟩
    (fun x => { tmps := #[.pointer (some ⟨bv, 0, none⟩), .int .i64 most, undef, .pointer (some ⟨w.heap.size, 0, none⟩), .slice none 0 0, .pointer (some ⟨w.heap.size + 1, 0, none⟩), .func (.func 24) #[] #[.pointer (some ⟨w.heap.size + 1 + 1, 0, none⟩)], .int .i64 (x : Int), .pointer (some ⟨bv, 0, none⟩), .func (.func 24) #[] #[.pointer (some ⟨w.heap.size + 1 + 1, 0, none⟩)], .func (.func 24) #[] #[.pointer (some ⟨w.heap.size + 1 + 1, 0, none⟩)], .bool false, .func (.func 24) #[] #[.pointer (some ⟨w.heap.size + 1 + 1, 0, none⟩)], .int .i64 (x : Int), undef, undef, undef, undef, undef, undef, undef, undef, undef], defers := [] }) ?assign ?body ?done ?stop
  case assign =>
    intro l x W K hK
    gi_wp2
    exact hK
  case body =>
    rintro l pre x W ⟨⟨v, hv, hrow, hle⟩, hM, hB⟩ hlt
    have hc := hv.cell
    have hcM := hM.cell
    have hs := hB.size
    have hlt2 : pre.length < 100000 := by omega
    obtain ⟨a', cap', rfl, _⟩ := Row.of_owns hrow
    have HV2 := Lib.hid hv
    have HM2 := Lib.hid hM
    have HO := Lib.hid hrow
    have HB2 := Lib.hid hB
    clear hv hM hrow hB
    by_cases hge : (most : Int) ≤ (pre.length : Int)
    · gi_wp2
      refine ⟨KeepsFrom.refl _ _, ⟨_, HV2.out, ?_, rfl, by simp; omega⟩, HB2.out⟩
      have e : (pre ++ [x]).take most = pre := by rw [List.take_append_of_le_length (by omega), List.take_of_length_le (by omega)]
      rw [e]; exact HO.out
    · gi_wp2_with (gi_at_builtin; refine wpListIn_append_own _ rfl _ _ 32 rfl (w.heap.size + 3) 3 i0 (.int .i64 0) 1 8 Try.underlying32 hi hz0 hz1 hz2 rfl (by decide) _ _ _ rfl (HO.out.alloc _) ⟨W.heap.size, 0, none⟩ 1 1 [.int .i64 (x : Int)] rfl rfl (cell_one_new _ _ _) (by simp [Value.oneCell']) (by simp only [maxLen]; omega) (by omega) (by simp; omega) ?_; intro v' w1 hown' hgrow _; obtain ⟨g', cap2, rfl⟩ := ownsRow_succ hown'; obtain ⟨hv1, hv2, hr2, hk2, hb2, hb3⟩ := boxed_appended (n0 := w.heap.size) HV2.out HO.out (by omega) (by omega) (by omega) hown' hgrow; have hc1 := hv1.cell; have hf1 := hv1.frozen)
      refine ⟨hk2.from _, fun b hb hx => hb2 b hb hx, ⟨_, hv2, by simpa using hr2, by simp; omega⟩, ?_, HB2.out.trans hb3⟩
      exact (hb2 w.heap.size (by omega) (by omega)).trans HM2.out
  case done =>
    rintro D ys W hD rfl ⟨⟨v, hv, hrow, hle⟩, hM, hB⟩ hK
    have hc := hv.cell
    obtain ⟨a', cap', rfl, _⟩ := Row.of_owns hrow
    have hrow2 := ownsRow_putObj hrow (.deferred none) hK rfl
    have hb2 : Below w.heap.size w (W.putObj D (.deferred none)) := (hB0.trans hB).trans (belowK_b (w := w) (Nat.le_refl _) W D _ _ (by omega) hK rfl rfl)
    gi_wp2
    refine ⟨by simp, .inl ⟨_, _, rfl, run_takeDeferred hK, ?_⟩⟩
    refine ⟨_, results_tmp rfl _ _ _, _, _, rfl, rfl, ?_, hb2⟩
    rw [List.take_of_length_le hle]
    exact hrow2
  case stop =>
    rintro D c pre W hD hpre ⟨⟨v, hv, hrow, rfl, hlt⟩, hB⟩ hK
    have e : pre.take most = (onesL p N).take most := by
      obtain ⟨t, ht⟩ := hpre
      rw [← ht, List.take_append_of_le_length (by omega)]
    rw [e] at hrow
    generalize hL : ((onesL p N).take most).length = L at hrow
    have HL := Lib.hid hL
    have hc := hv.cell
    obtain ⟨a', cap', rfl, _⟩ := Row.of_owns hrow
    have hrow2 := ownsRow_putObj hrow (.deferred none) hK rfl
    have hb2 : Below w.heap.size w (W.putObj D (.deferred none)) := (hB0.trans hB).trans (belowK_b (w := w) (Nat.le_refl _) W D _ _ (by omega) hK rfl rfl)
    clear hL e
    gi_wp2
    refine ⟨by simp, .inl ⟨_, _, rfl, run_takeDeferred hK, ?_⟩⟩
    refine ⟨_, results_tmp rfl _ _ _, _, _, rfl, HL.out.symm, ?_, hb2⟩
    exact hrow2

theorem ones_row (w : World) (bv bw ba N : Nat) (p : Nat → Bool) (most : Int) (h0 : 0 ≤ most) (hm : most ≤ 2000000) (hV : VecAt w bv bw ba N p) :
    Calls Try.prog 15 #[.pointer (some ⟨bv, 0, none⟩), .int .i64 most] w fun e w' => ∃ a m cap, e = .returned (.slice a m cap) ∧ m = ((onesL p N).take most.toNat).length ∧
      Row w' a m (fun k => .int .i64 (((onesL p N).getD k 0 : Nat) : Int)) ∧ Below w.heap.size w w' ∧ w'.ownsRow (w.heap.size + 3) 3 1 (.slice a m cap) m (((onesL p N).take most.toNat).map fun i : Nat => Value.int .i64 (i : Int)) := by
  obtain ⟨most, rfl⟩ := Int.eq_ofNat_of_zero_le h0
  rw [Int.toNat_natCast]
  refine (ones_any w bv bw ba N p most (by omega) hV).mono ?_
  rintro e w' ⟨v, m, rfl, hm, hown, hb⟩
  obtain ⟨a, cap, rfl, hc, hr, hlow, _⟩ := Row.of_owns hown
  refine ⟨a, m, cap, rfl, hm, hr.congr fun k hk => ?_, hb, hown⟩
  rw [hm] at hk
  have h2 : k < (onesL p N).length := by have := List.length_take_le' most (onesL p N); omega
  have h3 : k < most := by have := List.length_take_le most (onesL p N); omega
  simp [List.getD_eq_getElem?_getD, h3, List.getElem?_eq_getElem h2]

end Go.Proofs.Ytamonbpgjhhdhaa
