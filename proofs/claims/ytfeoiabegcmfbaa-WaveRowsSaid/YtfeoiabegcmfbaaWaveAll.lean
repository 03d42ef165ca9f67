/-
  All symbols in turn: the iterator's contract, and what the statements' helper gathers of it.
-/
import Derived.Test.YtfeoiabegcmfbaaWaveLaw
namespace Go.Proofs.Ytfeoiabegcmfbaa
open Go.RowKit Go.Shelf
attribute [local go_sem] Oper.semAt_some

/-- the places with their symbols, in order -/
def allP (l : List Nat) (k : Nat) : List (Nat × Nat) := (List.range k).map fun j => (j, l.getD j 0)
theorem allP_zero (l : List Nat) : allP l 0 = [] := rfl
theorem allP_succ (l : List Nat) (k : Nat) : allP l (k + 1) = allP l k ++ [(k, l.getD k 0)] := by simp [allP, List.range_succ]
theorem allP_len (l : List Nat) (k : Nat) : (allP l k).length = k := by simp [allP]
theorem allP_pre (l : List Nat) {k n : Nat} (h : k ≤ n) : allP l k <+: allP l n := by
  obtain ⟨m, rfl⟩ := Nat.le.dest h
  induction m with
  | zero => exact List.prefix_rfl
  | succ m ih => exact (ih (by omega)).trans ⟨[(k + m, l.getD (k + m) 0)], (allP_succ l (k + m)).symm⟩
theorem allP_last (l : List Nat) (n : Nat) (p : List (Nat × Nat)) (x : Nat × Nat) (h : p ++ [x] <+: allP l n) : x.1 = p.length := by
  obtain ⟨t, ht⟩ := h
  have h1 : (allP l n)[p.length]? = some x := by rw [← ht]; simp
  unfold allP at h1
  rw [List.getElem?_map] at h1
  by_cases hn : p.length < n
  · rw [List.getElem?_range hn] at h1
    cases h1; rfl
  · rw [List.getElem?_eq_none (by simp; omega)] at h1
    cases h1
theorem row_kpX {n₀ : Nat} {x : Nat → Prop} {W W' : World} {a : Option Addr} {n : Nat} {f : Nat → Value} (h : Row W a n f) (hk : KpX n₀ x W W') (g : n = 0 ∨ (bOf a < n₀ ∧ ¬ x (bOf a))) : Row W' a n f :=
  ⟨h.at_, fun k hkn => by
    rcases g with g | g
    · omega
    · exact (cell_kpX hk (p := ⟨bOf a, oOf a + k, none⟩) g.1 g.2).trans (h.cell k hkn)⟩
/-- a last one with the wrong place -/
def badEnd (pre : List (Nat × Nat)) : Prop := ∃ (q : List (Nat × Nat)) (x : Nat × Nat), pre = q ++ [x] ∧ x.1 ≠ q.length
theorem badEnd_of (pre : List (Nat × Nat)) (x : Nat × Nat) (h : x.1 ≠ pre.length) : badEnd (pre ++ [x]) := ⟨pre, x, rfl, h⟩
theorem badEnd_no (l : List Nat) (n : Nat) (pre : List (Nat × Nat)) (h : pre <+: allP l n) : ¬ badEnd pre := by
  rintro ⟨q, x, rfl, hx⟩
  exact hx (allP_last l n q x h)
attribute [irreducible] allP badEnd

set_option maxRecDepth 100000 in
set_option maxHeartbeats 1000000 in
theorem all1_in (n : Nat) (hn : 1 ≤ n) (l Bn n₀ : Nat) (x : Nat → Prop) (bm : Nat) (al : Option Addr) (cap : Nat) (L : List Nat) (hL : L.length ≤ 100000) (hS : ∀ c ∈ L, c ≤ 256) (J Jx : List (Nat × Nat) → World → Prop)
    (hY : ∀ (pre : List (Nat × Nat)) (i : Nat × Nat) (W : World), J pre W → pre.length < L.length → YieldAt Fence.wide (n - 1) Try.prog l #[.int .i64 (i.1 : Int), .int .i64 (i.2 : Int)] W fun e W' =>
      (e = .returned (.bool true) ∧ J (pre ++ [i]) W' ∧ KpX n₀ x W W') ∨ (e = .returned (.bool false) ∧ Jx (pre ++ [i]) W'))
    (W : World) (hBn : W.cell? ⟨Bn, 0, none⟩ = some (.pointer (some ⟨bm, 0, none⟩))) (hC : W.cell? ⟨bm, 0, none⟩ = some (.slice al L.length cap)) (hR : Row W al L.length (fun j => .int .u16 ((L.getD j 0 : Nat) : Int))) (h0 : J [] W)
    (g3 : L.length = 0 ∨ (bOf al < n₀ ∧ ¬ x (bOf al))) :
    CallsIn Fence.wide n Try.prog 33 #[.func (.yield l) #[] #[], .pointer (some ⟨Bn, 0, none⟩)] W fun e W' => (∃ v, e = .returned v) ∧
      ((∃ ys, ys = allP L L.length ∧ J ys W') ∨ (∃ pre, pre <+: allP L L.length ∧ Jx pre W')) := by
  have hwf : ∀ f, Fence.wide.fn f = True := fun _ => rfl
  refine callsIn_of_wp Try.func33 rfl trivial ?_ rfl
  simp only [Try.ntmps33, List.size_toArray, List.length_cons, List.length_nil, Nat.reduceAdd, Nat.reduceSub, Array.replicate_succ, Array.replicate_zero, List.push_toArray, List.append_toArray, List.nil_append, List.cons_append]
  have hix := run_ix (P := Try.prog) 23 (by kernel_rfl) size_u16 al L.length cap hR.at_ .i64
  have HY := Lib.hid hY
  have HR := Lib.hid hR
  have H0 := Lib.hid h0
  have HS := Lib.hid hS
  clear hY hR h0 hS
  gi_wp2
  clear hBn hC
  gi_loopw [10] (fun i wr => ∃ k : Nat, k ≤ L.length ∧ i = .int .i64 k ∧ J (allP L k) wr ∧ Row wr al L.length (fun j => .int .u16 ((L.getD j 0 : Nat) : Int))) (fun i _ => L.length - (intOf i).toNat)
  case atStart => exact ⟨0, Nat.zero_le _, rfl, by rw [allP_zero]; exact H0.out, HR.out⟩
  case round =>
    obtain ⟨k, hk, rfl, hJ, hrow⟩ := hrel
    by_cases hlt : k < L.length
    · have d := hrow.cell k hlt
      have HX := Lib.hid (allP_succ L k)
      have hxb := getD_le L 256 HS.out k
      obtain ⟨fn, tmps, assign, body, hy, hR2⟩ := HY.out (allP L k) (k, L.getD k 0) wr hJ (by rw [allP_len]; exact hlt)
      have HR2 := Lib.hid hR2
      have HRow := Lib.hid hrow
      clear hR2 hJ hrow
      generalize L.getD k 0 = c at *
      have ex : IntKind.i64.wrap (c : Int) = (c : Int) := IntWalk.i64_in _ (by omega)
      gi_wp2_with fail
      refine HR2.out.mono ?_
      rintro e W3 (⟨rfl, hJ3, hk3⟩ | ⟨rfl, hJx3⟩)
      · have HR3 := Lib.hid (row_kpX HRow.out hk3 g3)
        have HJ3 := Lib.hid hJ3
        clear hJ3 hk3
        gi_wp2
        go_roundw
        case rel => exact ⟨k + 1, by omega, by go_num, by rw [HX.out]; exact HJ3.out, HR3.out⟩
        case measure => simp [intOf]; omega
      · gi_wp2
        refine bodyPost_ret (results_none rfl _ _ _) rfl ?_
        exact ⟨⟨_, rfl⟩, .inr ⟨allP L k ++ [(k, c)], by rw [← HX.out]; exact allP_pre L (by omega), hJx3⟩⟩
    · have hkn : k = L.length := by omega
      clear hrow
      gi_wp2
      go_end0
      exact ⟨⟨_, rfl⟩, .inl ⟨_, by rw [hkn], hJ⟩⟩

theorem all_stops (n : Nat) (hn : 1 ≤ n) (Bn n₀ : Nat) (x : Nat → Prop) (bm : Nat) (al : Option Addr) (cap : Nat) (L : List Nat) (hL : L.length ≤ 100000) (hS : ∀ c ∈ L, c ≤ 256) (w : World) (hn₀ : n₀ ≤ w.heap.size)
    (hc : w.cell? ⟨Bn, 0, none⟩ = some (.pointer (some ⟨bm, 0, none⟩))) (hC : w.cell? ⟨bm, 0, none⟩ = some (.slice al L.length cap)) (hR : Row w al L.length (fun j => .int .u16 ((L.getD j 0 : Nat) : Int)))
    (g1 : Bn < n₀) (g2 : bm < n₀) (g3 : L.length = 0 ∨ (bOf al < n₀ ∧ ¬ x (bOf al))) :
    SeqStopsK Fence.wide n Try.prog 33 #[.pointer (some ⟨Bn, 0, none⟩)] (fun i : Nat × Nat => #[Value.int .i64 (i.1 : Int), Value.int .i64 (i.2 : Int)]) (KpX n₀ x) (fun ys => ys = allP L L.length) (fun pre => pre <+: allP L L.length) L.length w :=
  fun l J Jx W hW _ _ hY h0 =>
  all1_in n hn l Bn n₀ x bm al cap L hL hS J Jx hY W ((hW.cell (p := ⟨Bn, 0, none⟩) (by show Bn < _; omega)).trans hc) ((hW.cell (p := ⟨bm, 0, none⟩) (by show bm < _; omega)).trans hC) (hR.kept hW) h0 g3

theorem allF_any (w : World) (pv : Option Addr) :
    Calls Try.prog 26 #[.pointer pv] w fun e w' => e = .returned (.func (.func 33) #[] #[.pointer (some ⟨w.heap.size, 0, none⟩)]) ∧ w' = w.alloc (.cells #[.pointer pv] 25) := by
  go_enter Try.func26, Try.ntmps26
  go_wp2
  go_ret
  exact ⟨rfl, rfl⟩

theorem nilf2 (A : Array Value) (W : World) : (binOp .eql 55 (.func (.func 33) #[] A) .nilFunc).run Try.prog W = .ok (.bool false) W := by kernel_rfl

theorem results_cell_cell {fn : Func} {p u : Tmp} {ty ty' : TypeId} (h : fn.results = #[.cell p ty, .cell u ty']) (tmps : Array Value) (P : Program) (w : World) :
    (results fn tmps).run P w =
      ((asAddr (tmps.getD p undef)).run P w).andThen fun a w₁ => ((loadVar ty a).run P w₁).andThen fun v w₂ => ((asAddr (tmps.getD u undef)).run P w₂).andThen fun a' w₃ => ((loadVar ty' a').run P w₃).andThen fun v' w₄ => .ok (.tuple #[v, v']) w₄ := by
  simp only [results, h]
  simp [Sem.run_bind, Result.andThen]

set_option maxRecDepth 100000 in
set_option maxHeartbeats 1000000 in
theorem all_any (w : World) (bm : Nat) (al : Option Addr) (cap : Nat) (L : List Nat) (most : Nat) (hm : most ≤ 2000000) (hL : L.length ≤ 100000) (hS : ∀ c ∈ L, c ≤ 256)
    (hC : w.cell? ⟨bm, 0, none⟩ = some (.slice al L.length cap)) (hR : Row w al L.length (fun j => .int .u16 ((L.getD j 0 : Nat) : Int))) :
    Calls Try.prog 16 #[.pointer (some ⟨bm, 0, none⟩), .int .i64 most] w fun e w' => ∃ v m, e = .returned (.tuple #[v, .bool true]) ∧ m = min most L.length ∧
      w'.ownsRow (w.heap.size + 5) 3 1 v m (((allP L L.length).take most).map fun i : Nat × Nat => Value.int .i64 (i.2 : Int)) ∧ Below w.heap.size w w' := by
  refine (callsIn_wide (n := 3)).1 ?_
  have hwf : ∀ f, Fence.wide.fn f = True := fun _ => rfl
  obtain ⟨i0, hi, hz0, hz1, hz2⟩ := info_parts info_int
  refine callsIn_of_wp_marks Try.func16 rfl trivial ?_ rfl
  simp only [Try.ntmps16, List.size_toArray, List.length_cons, List.length_nil, Nat.reduceAdd, Nat.reduceSub, Array.replicate_succ, Array.replicate_zero, List.push_toArray, List.append_toArray, List.nil_append, List.cons_append]
  have HC := Lib.hid hC
  have HR := Lib.hid hR
  have HS := Lib.hid hS
  clear hC hR hS
  have hnf := nilf2
  gi_wp2_with (gi_at_call 26; refine (callsIn_wide.2 (allF_any _ _)).mono ?_; rintro e w' ⟨rfl, rfl⟩)
  have bM := Boxed.new w 3 (.int .i64 most)
  have bR := Boxed.new (w.alloc (.cells #[.int .i64 most] 3)) 38 (.slice none 0 0)
  have bK := Boxed.new ((w.alloc (.cells #[.int .i64 most] 3)).alloc (.cells #[.slice none 0 0] 38)) 4 (.bool false)
  have bO := Boxed.new (((w.alloc (.cells #[.int .i64 most] 3)).alloc (.cells #[.slice none 0 0] 38)).alloc (.cells #[.bool false] 4)) 38 (.slice none 0 0)
  have bN := Boxed.new ((((w.alloc (.cells #[.int .i64 most] 3)).alloc (.cells #[.slice none 0 0] 38)).alloc (.cells #[.bool false] 4)).alloc (.cells #[.slice none 0 0] 38)) 25 (.pointer (some ⟨bm, 0, none⟩))
  simp only [World.size_alloc] at bR bK bO bN
  have bM2 := (((bM.alloc (.cells #[.slice none 0 0] 38)).alloc (.cells #[.bool false] 4)).alloc (.cells #[.slice none 0 0] 38)).alloc (.cells #[.pointer (some ⟨bm, 0, none⟩)] 25)
  have bR2 := ((bR.alloc (.cells #[.bool false] 4)).alloc (.cells #[.slice none 0 0] 38)).alloc (.cells #[.pointer (some ⟨bm, 0, none⟩)] 25)
  have bK2 := (bK.alloc (.cells #[.slice none 0 0] 38)).alloc (.cells #[.pointer (some ⟨bm, 0, none⟩)] 25)
  have bO2 := bO.alloc (.cells #[.pointer (some ⟨bm, 0, none⟩)] 25)
  have hB0 : Below w.heap.size w (((((w.alloc (.cells #[.int .i64 most] 3)).alloc (.cells #[.slice none 0 0] 38)).alloc (.cells #[.bool false] 4)).alloc (.cells #[.slice none 0 0] 38)).alloc (.cells #[.pointer (some ⟨bm, 0, none⟩)] 25)) :=
    (((((Below.refl _ w).alloc (Nat.le_refl _) _).alloc (by simp) _).alloc (by simp; omega) _).alloc (by simp; omega) _).alloc (by simp; omega) _
  have hs3 : (((((w.alloc (.cells #[.int .i64 most] 3)).alloc (.cells #[.slice none 0 0] 38)).alloc (.cells #[.bool false] 4)).alloc (.cells #[.slice none 0 0] 38)).alloc (.cells #[.pointer (some ⟨bm, 0, none⟩)] 25)).heap.size = w.heap.size + 5 := by simp
  have l1 := World.block_lt_of_cell? w _ HC.out
  dsimp only at l1
  have l2 : L.length = 0 ∨ bOf al < w.heap.size := by
    by_cases h : L.length = 0
    · exact .inl h
    · exact .inr (HR.out.lt (by omega))
  have l3 : L.length = 0 ∨ (bOf al < w.heap.size + 5 ∧ ¬ (fun b => b = w.heap.size + 1 + 1 + 1) (bOf al)) := by
    rcases l2 with h | h
    · exact .inl h
    · exact .inr ⟨by omega, by show ¬ bOf al = _; omega⟩
  have hC0 := (hB0.cell (p := ⟨bm, 0, none⟩) l1).trans HC.out
  have hR0 := HR.out.kept hB0
  clear bO bM bR bK HC HR
  generalize (((((w.alloc (.cells #[.int .i64 most] 3)).alloc (.cells #[.slice none 0 0] 38)).alloc (.cells #[.bool false] 4)).alloc (.cells #[.slice none 0 0] 38)).alloc (.cells #[.pointer (some ⟨bm, 0, none⟩)] 25)) = W3 at *
  refine wpIn_rangeFunc_ownG rfl (by omega) (gf := 33) (lb := #[.pointer (some ⟨w.heap.size + 1 + 1 + 1 + 1, 0, none⟩)]) rfl trivial (enters_of Try.func33 (by kernel_rfl) rfl)
    (all_stops 2 (by omega) (w.heap.size + 1 + 1 + 1 + 1) (w.heap.size + 5) (fun b => b = w.heap.size + 1 + 1 + 1) bm al cap L hL HS.out _ (by omega) bN.cell hC0 hR0 (by omega) (by omega) l3)
    kpX_t (kpX_b (by omega)) (Below.refl _ _) (fun _ => rfl)
    (fun pre W => (∃ v, Boxed W (w.heap.size + 1 + 1 + 1) 38 v ∧ W.ownsRow (w.heap.size + 5) 3 1 v pre.length (pre.map fun i : Nat × Nat => Value.int .i64 (i.2 : Int)) ∧ pre.length ≤ most) ∧ Boxed W w.heap.size 3 (.int .i64 most) ∧ Boxed W (w.heap.size + 1) 38 (.slice none 0 0) ∧ Boxed W (w.heap.size + 1 + 1) 4 (.bool false) ∧ Below w.heap.size W3 W)
    (fun c pre W => badEnd pre ∨ ((∃ v, Boxed W (w.heap.size + 1 + 1 + 1) 38 v ∧ W.ownsRow (w.heap.size + 5) 3 1 v (pre.take most).length ((pre.take most).map fun i : Nat × Nat => Value.int .i64 (i.2 : Int)) ∧ (c = .exit 0 ∧ most < pre.length)) ∧ Boxed W (w.heap.size + 1) 38 (.slice none 0 0) ∧ Boxed W (w.heap.size + 1 + 1) 4 (.bool false) ∧ Below w.heap.size W3 W))
    (OwnFrom.and (Own.from (holdsRow_own (w.heap.size + 5) (w.heap.size + 1 + 1 + 1) 38 3 1 (fun pre : List (Nat × Nat) => pre.length) (fun pre : List (Nat × Nat) => pre.map fun i : Nat × Nat => Value.int .i64 (i.2 : Int)) (fun (pre : List (Nat × Nat)) v => pre.length ≤ most)) _) (OwnFrom.and (Own.from (boxed_own w.heap.size 3 (fun _ => .int .i64 most)) _) (OwnFrom.and (Own.from (boxed_own (w.heap.size + 1) 38 (fun _ => .slice none 0 0)) _) (OwnFrom.and (Own.from (boxed_own (w.heap.size + 1 + 1) 4 (fun _ => .bool false)) _) (ownFrom_below (by omega) (by omega))))))
    (fun c pre W W' row hs hg hr => hs.imp id fun h => (OwnFrom.and (Own.from (holdsRow_own (w.heap.size + 5) (w.heap.size + 1 + 1 + 1) 38 3 1 (fun pre : List (Nat × Nat) => (pre.take most).length) (fun pre : List (Nat × Nat) => (pre.take most).map fun i : Nat × Nat => Value.int .i64 (i.2 : Int)) (fun (pre : List (Nat × Nat)) v => c = .exit 0 ∧ most < pre.length)) _) (OwnFrom.and (Own.from (boxed_own (w.heap.size + 1) 38 (fun _ => .slice none 0 0)) _) (OwnFrom.and (Own.from (boxed_own (w.heap.size + 1 + 1) 4 (fun _ => .bool false)) _) (ownFrom_below (by omega) (by omega))))) pre W W' row h hg hr)
    ⟨⟨_, bO2, World.ownsRow_nil _ _ _ _, Nat.zero_le _⟩, bM2, bR2, bK2, Below.refl _ _⟩
    (fun x => { tmps := #[.pointer (some ⟨bm, 0, none⟩), .int .i64 most, undef, .pointer (some ⟨w.heap.size, 0, none⟩), .pointer (some ⟨w.heap.size + 1, 0, none⟩), .pointer (some ⟨w.heap.size + 1 + 1, 0, none⟩), .pointer (some ⟨w.heap.size + 1 + 1 + 1, 0, none⟩), .func (.func 33) #[] #[.pointer (some ⟨w.heap.size + 1 + 1 + 1 + 1, 0, none⟩)], .int .i64 (x.1 : Int), .int .i64 (x.2 : Int), .pointer (some ⟨bm, 0, none⟩), .func (.func 33) #[] #[.pointer (some ⟨w.heap.size + 1 + 1 + 1 + 1, 0, none⟩)], .func (.func 33) #[] #[.pointer (some ⟨w.heap.size + 1 + 1 + 1 + 1, 0, none⟩)], .bool false, .func (.func 33) #[] #[.pointer (some ⟨w.heap.size + 1 + 1 + 1 + 1, 0, none⟩)], .int .i64 (x.1 : Int), .int .i64 (x.2 : Int), undef, undef, undef, undef, undef, undef, undef, undef, undef, undef, undef, undef, undef], defers := [] }) ?assign ?body ?done ?stop
  case assign =>
    intro l x W K hK
    gi_wp2
    exact hK
  case body =>
    rintro l pre x W ⟨⟨v, hv, hrow, hle⟩, hM, hRb, hKb, hB⟩ hlt
    have hc := hv.cell
    have hcM := hM.cell
    have hcR := hRb.cell
    have hcK := hKb.cell
    have hfR := hRb.frozen
    have hfK := hKb.frozen
    have hs := hB.size
    have hlt2 : pre.length < 100000 := by omega
    obtain ⟨a', cap', rfl, _⟩ := Row.of_owns hrow
    have HV2 := Lib.hid hv
    have HM2 := Lib.hid hM
    have HRb := Lib.hid hRb
    have HKb := Lib.hid hKb
    have HO := Lib.hid hrow
    have HB2 := Lib.hid hB
    clear hv hM hrow hB hRb hKb
    by_cases hge : (most : Int) ≤ (pre.length : Int)
    · gi_wp2
      refine ⟨KeepsFrom.refl _ _, .inr ⟨⟨_, HV2.out, ?_, rfl, by simp; omega⟩, HRb.out, HKb.out, HB2.out⟩⟩
      have e : (pre ++ [x]).take most = pre := by rw [List.take_append_of_le_length (by omega), List.take_of_length_le (by omega)]
      rw [← List.map_take, e, show min most (pre ++ [x]).length = pre.length by simp; omega]; exact HO.out
    · by_cases hx : (x.1 : Int) = (pre.length : Int)
      · have t1 : ((x.1 : Int) != (pre.length : Int)) = false := by simp [hx]
        obtain ⟨xi, xc⟩ := x
        dsimp only at hx t1 ⊢
        obtain rfl : xi = pre.length := by omega
        clear hx
        gi_wp2_with (gi_at_builtin; refine wpListIn_append_own _ rfl _ _ 38 rfl (w.heap.size + 5) 3 i0 (.int .i64 0) 1 8 Try.underlying38 hi hz0 hz1 hz2 rfl (by decide) _ _ _ rfl (HO.out.alloc _) ⟨W.heap.size, 0, none⟩ 1 1 [.int .i64 (xc : Int)] rfl rfl (cell_one_new _ _ _) (by simp [Value.oneCell']) (by simp only [maxLen]; omega) (by omega) (by simp; omega) ?_; intro v' w1 hown' hgrow _; obtain ⟨g', cap2, rfl⟩ := ownsRow_succ hown'; obtain ⟨hv1, hv2, hr2, hk2, hb2, hb3⟩ := boxed_appended (n0 := w.heap.size) HV2.out HO.out (by omega) (by omega) (by omega) hown' hgrow; have hc1 := hv1.cell; have hf1 := hv1.frozen)
        refine ⟨hk2.from _, fun b hb hx => hb2 b hb hx, ⟨_, hv2, by simpa using hr2, by simp; omega⟩, ?_, ?_, ?_, HB2.out.trans hb3⟩
        · exact (hb2 w.heap.size (by omega) (by omega)).trans HM2.out
        · exact (hb2 (w.heap.size + 1) (by omega) (by omega)).trans HRb.out
        · exact (hb2 (w.heap.size + 1 + 1) (by omega) (by omega)).trans HKb.out
      · have t1 : ((x.1 : Int) != (pre.length : Int)) = true := by simp [hx]
        have hx2 : x.1 ≠ pre.length := by omega
        clear hx
        gi_wp2
        exact ⟨((KeepsOthers.setCell _ _ _).trans (KeepsOthers.setCell _ _ _)).from _, .inl (badEnd_of pre x hx2)⟩
  case done =>
    rintro D ys W hD rfl ⟨⟨v, hv, hrow, hle⟩, hM, hRb, hKb, hB⟩ hK
    have hc := hv.cell
    have hcR := hRb.cell
    have hcK := hKb.cell
    have hfR := hRb.frozen
    have hfK := hKb.frozen
    obtain ⟨a', cap', rfl, _⟩ := Row.of_owns hrow
    have HRow := Lib.hid hrow
    have HB2 := Lib.hid hB
    have HK := Lib.hid hK
    have HRb := Lib.hid hRb
    have HKb := Lib.hid hKb
    clear hrow hB hK hRb hKb
    gi_wp2
    have hK2 : ((W.setCell ⟨w.heap.size + 1, 0, none⟩ (Value.slice a' (allP L L.length).length cap')).setCell ⟨w.heap.size + 1 + 1, 0, none⟩ (Value.bool true)).heap[D]? = some (.deferred (some [])) :=
      (Below.heap_setCell _ _ _ D (by show D ≠ w.heap.size + 1 + 1; omega)).trans ((Below.heap_setCell _ _ _ D (by show D ≠ w.heap.size + 1; omega)).trans HK.out)
    refine ⟨by simp, .inl ⟨_, _, rfl, run_takeDeferred hK2, ?_⟩⟩
    have q1 : Boxed ((W.setCell ⟨w.heap.size + 1, 0, none⟩ (Value.slice a' (allP L L.length).length cap')).setCell ⟨w.heap.size + 1 + 1, 0, none⟩ (Value.bool true)) (w.heap.size + 1) 38 (Value.slice a' (allP L L.length).length cap') := (HRb.out.set _).other (by omega) _
    have q2 : Boxed ((W.setCell ⟨w.heap.size + 1, 0, none⟩ (Value.slice a' (allP L L.length).length cap')).setCell ⟨w.heap.size + 1 + 1, 0, none⟩ (Value.bool true)) (w.heap.size + 1 + 1) 4 (Value.bool true) := (HKb.out.other (by omega) _).set _
    have q3 := (show Boxed (((W.setCell ⟨w.heap.size + 1, 0, none⟩ (Value.slice a' (allP L L.length).length cap')).setCell ⟨w.heap.size + 1 + 1, 0, none⟩ (Value.bool true)).putObj D (.deferred none)) (w.heap.size + 1) 38 _ from (World.putObj_heap_other (by omega)).trans q1).cell
    have q4 := (show Boxed (((W.setCell ⟨w.heap.size + 1, 0, none⟩ (Value.slice a' (allP L L.length).length cap')).setCell ⟨w.heap.size + 1 + 1, 0, none⟩ (Value.bool true)).putObj D (.deferred none)) (w.heap.size + 1 + 1) 4 _ from (World.putObj_heap_other (by omega)).trans q2).cell
    refine ⟨.tuple #[.slice a' (allP L L.length).length cap', .bool true], ?_, _, rfl, ?_, ?_⟩
    · rw [results_cell_cell rfl]
      go_simp
    · have h1 := ownsRow_putObj (ownsRow_setCell_below (ownsRow_setCell_below HRow.out (a := ⟨w.heap.size + 1, 0, none⟩) (by show w.heap.size + 1 < _; omega) (Value.slice a' (allP L L.length).length cap')) (a := ⟨w.heap.size + 1 + 1, 0, none⟩) (by show w.heap.size + 1 + 1 < _; omega) (.bool true)) (.deferred none) hK2 rfl
      have e1 : min most L.length = (allP L L.length).length := by rw [allP_len] at hle ⊢; omega
      rw [e1, List.take_of_length_le (by rw [List.length_map]; exact hle)]
      exact h1
    · have h2 : Below w.heap.size w ((W.setCell ⟨w.heap.size + 1, 0, none⟩ (Value.slice a' (allP L L.length).length cap')).setCell ⟨w.heap.size + 1 + 1, 0, none⟩ (Value.bool true)) := ((hB0.trans HB2.out).setCell (p := ⟨w.heap.size + 1, 0, none⟩) (by show w.heap.size ≤ w.heap.size + 1; omega) _).setCell (p := ⟨w.heap.size + 1 + 1, 0, none⟩) (by show w.heap.size ≤ w.heap.size + 1 + 1; omega) _
      exact h2.trans (belowK_b (w := w) (Nat.le_refl _) _ D _ _ (by omega) hK2 rfl rfl)
  case stop =>
    rintro D c pre W hD hpre hIx hK
    obtain ⟨⟨v, hv, hrow, rfl, hlt⟩, hRb, hKb, hB⟩ := hIx.resolve_left (badEnd_no L L.length pre hpre)
    have e : pre.take most = (allP L L.length).take most := by
      obtain ⟨t, ht⟩ := hpre
      rw [← ht, List.take_append_of_le_length (by omega)]
    rw [e] at hrow
    have hL2 : ((allP L L.length).take most).length = min most L.length := by rw [List.length_take, allP_len]
    rw [hL2] at hrow
    generalize hM : min most L.length = M at *
    have HM := Lib.hid hM
    clear hM hL2 e hIx
    have hc := hv.cell
    have hcR := hRb.cell
    have hcK := hKb.cell
    have hfR := hRb.frozen
    have hfK := hKb.frozen
    obtain ⟨a', cap', rfl, _⟩ := Row.of_owns hrow
    have HRow := Lib.hid hrow
    have HB2 := Lib.hid hB
    have HK := Lib.hid hK
    have HRb := Lib.hid hRb
    have HKb := Lib.hid hKb
    clear hrow hB hK hRb hKb
    gi_wp2
    have hK2 : ((W.setCell ⟨w.heap.size + 1, 0, none⟩ (Value.slice a' M cap')).setCell ⟨w.heap.size + 1 + 1, 0, none⟩ (Value.bool true)).heap[D]? = some (.deferred (some [])) :=
      (Below.heap_setCell _ _ _ D (by show D ≠ w.heap.size + 1 + 1; omega)).trans ((Below.heap_setCell _ _ _ D (by show D ≠ w.heap.size + 1; omega)).trans HK.out)
    refine ⟨by simp, .inl ⟨_, _, rfl, run_takeDeferred hK2, ?_⟩⟩
    have q1 : Boxed ((W.setCell ⟨w.heap.size + 1, 0, none⟩ (Value.slice a' M cap')).setCell ⟨w.heap.size + 1 + 1, 0, none⟩ (Value.bool true)) (w.heap.size + 1) 38 (Value.slice a' M cap') := (HRb.out.set _).other (by omega) _
    have q2 : Boxed ((W.setCell ⟨w.heap.size + 1, 0, none⟩ (Value.slice a' M cap')).setCell ⟨w.heap.size + 1 + 1, 0, none⟩ (Value.bool true)) (w.heap.size + 1 + 1) 4 (Value.bool true) := (HKb.out.other (by omega) _).set _
    have q3 := (show Boxed (((W.setCell ⟨w.heap.size + 1, 0, none⟩ (Value.slice a' M cap')).setCell ⟨w.heap.size + 1 + 1, 0, none⟩ (Value.bool true)).putObj D (.deferred none)) (w.heap.size + 1) 38 _ from (World.putObj_heap_other (by omega)).trans q1).cell
    have q4 := (show Boxed (((W.setCell ⟨w.heap.size + 1, 0, none⟩ (Value.slice a' M cap')).setCell ⟨w.heap.size + 1 + 1, 0, none⟩ (Value.bool true)).putObj D (.deferred none)) (w.heap.size + 1 + 1) 4 _ from (World.putObj_heap_other (by omega)).trans q2).cell
    refine ⟨.tuple #[.slice a' M cap', .bool true], ?_, _, rfl, ?_, ?_⟩
    · rw [results_cell_cell rfl]
      go_simp
    · have h1 := ownsRow_putObj (ownsRow_setCell_below (ownsRow_setCell_below HRow.out (a := ⟨w.heap.size + 1, 0, none⟩) (by show w.heap.size + 1 < _; omega) (Value.slice a' M cap')) (a := ⟨w.heap.size + 1 + 1, 0, none⟩) (by show w.heap.size + 1 + 1 < _; omega) (.bool true)) (.deferred none) hK2 rfl
      rw [← List.map_take, ← HM.out]
      rw [HM.out]
      exact h1
    · have h2 : Below w.heap.size w ((W.setCell ⟨w.heap.size + 1, 0, none⟩ (Value.slice a' M cap')).setCell ⟨w.heap.size + 1 + 1, 0, none⟩ (Value.bool true)) := ((hB0.trans HB2.out).setCell (p := ⟨w.heap.size + 1, 0, none⟩) (by show w.heap.size ≤ w.heap.size + 1; omega) _).setCell (p := ⟨w.heap.size + 1 + 1, 0, none⟩) (by show w.heap.size ≤ w.heap.size + 1 + 1; omega) _
      exact h2.trans (belowK_b (w := w) (Nat.le_refl _) _ D _ _ (by omega) hK2 rfl rfl)
end Go.Proofs.Ytfeoiabegcmfbaa
