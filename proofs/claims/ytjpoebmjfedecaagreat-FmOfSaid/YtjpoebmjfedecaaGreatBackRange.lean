/-
  back.Range, Count: the rows that begin with a text.
-/
import Derived.Test.YtjpoebmjfedecaaGreatBackAsk
namespace Go.Proofs.YtjpoebmjfedecaaGreat
open Go.RowKit Go.Shelf
attribute [local go_sem] Oper.semAt_some

def rgStep (L : List Nat) (p : Nat × Nat) (c : Nat) : Nat × Nat := (stC L (c + 1) + rkC L (c + 1) p.1, stC L (c + 1) + rkC L (c + 1) p.2)
def rgOf (L : List Nat) (pre : List (Nat × Fin 256)) : Nat × Nat := pre.foldl (fun p y => rgStep L p y.2.val) (0, L.length)
theorem rgOf_nil (L : List Nat) : rgOf L [] = (0, L.length) := rfl
theorem rgOf_snoc (L : List Nat) (pre : List (Nat × Fin 256)) (y : Nat × Fin 256) : rgOf L (pre ++ [y]) = rgStep L (rgOf L pre) y.2.val := by unfold rgOf; rw [List.foldl_append]; rfl
theorem rgStep_le (L : List Nat) (p : Nat × Nat) (c : Nat) (h : p.1 ≤ p.2 ∧ p.2 ≤ L.length) : (rgStep L p c).1 ≤ (rgStep L p c).2 ∧ (rgStep L p c).2 ≤ L.length := by
  unfold rgStep
  exact ⟨by have := rkC_mono L (c + 1) h.1 h.2; simp only; omega, st_rk_le L _ _ h.2⟩
theorem foldl_le (L : List Nat) : ∀ (pre : List (Nat × Fin 256)) (p : Nat × Nat), p.1 ≤ p.2 ∧ p.2 ≤ L.length → (pre.foldl (fun p y => rgStep L p y.2.val) p).1 ≤ (pre.foldl (fun p y => rgStep L p y.2.val) p).2 ∧ (pre.foldl (fun p y => rgStep L p y.2.val) p).2 ≤ L.length
  | [], _, h => h
  | y :: pre, p, h => foldl_le L pre _ (rgStep_le L p y.2.val h)
theorem rgOf_le (L : List Nat) (pre : List (Nat × Fin 256)) : (rgOf L pre).1 ≤ (rgOf L pre).2 ∧ (rgOf L pre).2 ≤ L.length := foldl_le L pre _ ⟨Nat.zero_le _, Nat.le_refl _⟩
theorem rgOf_to (L P : List Nat) (hb : ∀ c ∈ P, c < 256) : ∀ k, k ≤ P.length → rgOf L (bwTo P k) = bkR L (P.drop (P.length - k))
  | 0, _ => by rw [bwTo_zero, rgOf_nil, Nat.sub_zero, List.drop_length, bkR_nil]
  | k + 1, h => by
    have hq : P.length - 1 - k < P.length := by omega
    rw [bwTo_succ, rgOf_snoc, rgOf_to L P hb k (by omega), show P.length - (k + 1) = P.length - 1 - k by omega, drop_cons P _ hq, show P.length - 1 - k + 1 = P.length - k by omega, bkR_cons]
    simp only [byF_val _ (hb _ (getD_mem' hq))]
    rfl
theorem rgOf_all (L P : List Nat) (hb : ∀ c ∈ P, c < 256) : rgOf L (bwTo P P.length) = bkR L P := by rw [rgOf_to L P hb _ (Nat.le_refl _), Nat.sub_self, List.drop_zero]
attribute [irreducible] rgOf
theorem keeps_drewN (W : World) (j : Nat) : KeepsOthers W (W.drewN j) := ⟨Nat.le_refl _, fun _ _ h _ => h⟩
def RangePost (w : World) (L P : List Nat) (e : Ending) (w' : World) : Prop :=
  e = .returned (.tuple #[.int .i64 (((bkR L P).1 : Nat) : Int), .int .i64 (((bkR L P).2 : Nat) : Int)]) ∧ Below w.heap.size w w'
set_option maxRecDepth 100000 in
set_option maxHeartbeats 2000000 in
theorem brange_any (w : World) (bx bm : Nat) (al : Option Addr) (cap : Nat) (L : List Nat) (h : IdxAt w bx bm al cap L) (a : Option Addr) (cp : Nat) (P : List Nat) (hP : P.length ≤ 100000) (hPb : ∀ c ∈ P, c < 256) (hr : Row w a P.length (byteV P)) :
    Calls Tryz.prog 39 #[.pointer (some ⟨bx, 0, none⟩), .slice a P.length cp] w (RangePost w L P) := by
  refine (callsIn_wide (n := 3)).1 ?_
  have hwf : ∀ f, Fence.wide.fn f = True := fun _ => rfl
  refine callsIn_of_wp_marks Tryz.func39 rfl trivial ?_ rfl
  simp only [Tryz.ntmps39, List.size_toArray, List.length_cons, List.length_nil, Nat.reduceAdd, Nat.reduceSub, Array.replicate_succ, Array.replicate_zero, List.push_toArray, List.append_toArray, List.nil_append, List.cons_append]
  have hsm : L.length ≤ 100000 := by obtain ⟨_, _, _, _, _, hm⟩ := h.mt; exact hm.small
  have hbx : bx < w.heap.size := World.block_lt_of_cell? w _ h.c0
  have hB0 : Below w.heap.size w (((w.alloc (.cells #[.pointer (some ⟨bx, 0, none⟩)] 58)).alloc (.cells #[.int .i64 0] 3)).alloc (.cells #[.int .i64 0] 3)) :=
    (((Below.refl _ w).alloc (Nat.le_refl _) _).alloc (by simp) _).alloc (by simp; omega) _
  have HI := Lib.hid h
  have HRW := Lib.hid hr
  clear h hr
  have bX := ((Boxed.new w 58 (.pointer (some ⟨bx, 0, none⟩))).alloc (.cells #[.int .i64 0] 3)).alloc (.cells #[.int .i64 0] 3)
  have bL := (Boxed.new (w.alloc (.cells #[.pointer (some ⟨bx, 0, none⟩)] 58)) 3 (.int .i64 0)).alloc (.cells #[.int .i64 0] 3)
  have bH := Boxed.new ((w.alloc (.cells #[.pointer (some ⟨bx, 0, none⟩)] 58)).alloc (.cells #[.int .i64 0] 3)) 3 (.int .i64 0)
  rw [World.size_alloc] at bL
  rw [World.size_alloc, World.size_alloc] at bH
  have HLN := Lib.hid (blen_any _ bx bm al cap L (HI.out.kept hB0))
  gi_wp2_with (gi_at_call 58; refine (callsIn_wide.2 HLN.out).mono ?_; rintro e w' ⟨rfl, rfl⟩)
  refine (callsIn_wide.2 (backward_any _ a P.length cp)).mono ?_
  rintro e w4 ⟨rfl, rfl⟩
  have BX := (((Boxed.new w 58 (.pointer (some ⟨bx, 0, none⟩))).alloc (.cells #[.int .i64 0] 3)).alloc (.cells #[.int .i64 (L.length : Int)] 3)).alloc (.cells #[.slice a P.length cp] 24)
  have BL := ((Boxed.new (w.alloc (.cells #[.pointer (some ⟨bx, 0, none⟩)] 58)) 3 (.int .i64 0)).alloc (.cells #[.int .i64 (L.length : Int)] 3)).alloc (.cells #[.slice a P.length cp] 24)
  have BH := (Boxed.new ((w.alloc (.cells #[.pointer (some ⟨bx, 0, none⟩)] 58)).alloc (.cells #[.int .i64 0] 3)) 3 (.int .i64 (L.length : Int))).alloc (.cells #[.slice a P.length cp] 24)
  have BP := Boxed.new (((w.alloc (.cells #[.pointer (some ⟨bx, 0, none⟩)] 58)).alloc (.cells #[.int .i64 0] 3)).alloc (.cells #[.int .i64 (L.length : Int)] 3)) 24 (.slice a P.length cp)
  rw [World.size_alloc] at BL
  rw [World.size_alloc, World.size_alloc] at BH
  rw [World.size_alloc, World.size_alloc, World.size_alloc] at BP
  have hB4 : Below w.heap.size w ((((w.alloc (.cells #[.pointer (some ⟨bx, 0, none⟩)] 58)).alloc (.cells #[.int .i64 0] 3)).alloc (.cells #[.int .i64 (L.length : Int)] 3)).alloc (.cells #[.slice a P.length cp] 24)) :=
    ((((Below.refl _ w).alloc (Nat.le_refl _) _).alloc (by simp) _).alloc (by simp; omega) _).alloc (by simp; omega) _
  have hs4 : ((((w.alloc (.cells #[.pointer (some ⟨bx, 0, none⟩)] 58)).alloc (.cells #[.int .i64 0] 3)).alloc (.cells #[.int .i64 (L.length : Int)] 3)).alloc (.cells #[.slice a P.length cp] 24)).heap.size = w.heap.size + 4 := by simp
  simp only [World.size_alloc]
  clear bX bL bH hB0 HLN
  gi_wp2_with fail
  generalize ((((w.alloc (.cells #[.pointer (some ⟨bx, 0, none⟩)] 58)).alloc (.cells #[.int .i64 0] 3)).alloc (.cells #[.int .i64 (L.length : Int)] 3)).alloc (.cells #[.slice a P.length cp] 24)) = W4 at *
  have HRW4 := HRW.out.kept hB4
  refine wpIn_rangeFunc_ownG rfl (by omega) (gf := 76) (lb := #[.pointer (some ⟨w.heap.size + 1 + 1 + 1, 0, none⟩)]) rfl trivial (enters_of Tryz.func76 (by kernel_rfl) rfl)
    (backward_stops 2 (by omega) (w.heap.size + 1 + 1 + 1) W4.heap.size (fun b => b = w.heap.size + 1 ∨ b = w.heap.size + 1 + 1) a cp P hP hPb W4 BP.cell HRW4 (by omega) ⟨by omega, by omega⟩ (by
      rcases Nat.eq_zero_or_pos P.length with h | h
      · exact .inl h
      · exact .inr ⟨HRW4.lt h, by have := HRW.out.lt h; omega⟩))
    kpX_t (kpX_b (by omega)) (Below.refl _ _) (fun _ => rfl)
    (fun pre W => (Boxed W (w.heap.size + 1) 3 (.int .i64 (((rgOf L pre).1 : Nat) : Int)) ∧ Boxed W (w.heap.size + 1 + 1) 3 (.int .i64 (((rgOf L pre).2 : Nat) : Int))) ∧ Boxed W w.heap.size 58 (.pointer (some ⟨bx, 0, none⟩)) ∧ Below w.heap.size W4 W)
    (fun _ _ _ => False)
    (OwnFrom.and (OwnFrom.and (Own.from (boxed_own (w.heap.size + 1) 3 (fun pre => .int .i64 (((rgOf L pre).1 : Nat) : Int))) _) (Own.from (boxed_own (w.heap.size + 1 + 1) 3 (fun pre => .int .i64 (((rgOf L pre).2 : Nat) : Int))) _)) (OwnFrom.and (Own.from (boxed_own w.heap.size 58 (fun _ => .pointer (some ⟨bx, 0, none⟩))) _) (ownFrom_below (by omega) (by omega))))
    (fun _ _ _ _ _ h _ _ => h)
    ⟨⟨by rw [rgOf_nil]; exact BL, by rw [rgOf_nil]; exact BH⟩, BX, Below.refl _ _⟩
    (fun y => { tmps := #[.pointer (some ⟨bx, 0, none⟩), .slice a P.length cp, .pointer (some ⟨w.heap.size, 0, none⟩), undef, .pointer (some ⟨w.heap.size + 1, 0, none⟩), .pointer (some ⟨w.heap.size + 1 + 1, 0, none⟩), undef, .int .u8 ((y.2.val : Nat) : Int), .pointer (some ⟨bx, 0, none⟩), .int .i64 (L.length : Int), .slice a P.length cp, .func (.func 76) #[] #[.pointer (some ⟨w.heap.size + 1 + 1 + 1, 0, none⟩)], .int .i64 ((y.1 : Nat) : Int), .int .u8 ((y.2.val : Nat) : Int), undef, undef, undef, undef, undef, undef, undef, undef, undef, undef], defers := [] }) ?assign ?body ?done ?stop
  case assign =>
    intro l x W K hK
    unfold bwV
    gi_wp2
    exact hK
  case stop =>
    rintro D c pre W hD hpre h hK
    exact h.elim
  case body =>
    rintro l pre x W ⟨⟨hL1, hH1⟩, hX, hB⟩ hlt
    obtain ⟨x1, x2⟩ := x
    have hsn := rgOf_snoc L pre (x1, x2)
    unfold rgStep at hsn
    have hle := rgOf_le L pre
    have hBw : Below w.heap.size w W := hB4.trans hB
    have HMO := Lib.hid (bmore_any W bx bm al cap L (HI.out.kept hBw) (rgOf L pre).1 (rgOf L pre).2 x2.val hle.1 hle.2 x2.isLt)
    have c1 := hL1.cell
    have c2 := hH1.cell
    have c3 := hX.cell
    have f1 := hL1.frozen
    have f2 := hH1.frozen
    have HSN := Lib.hid hsn
    have HL1 := Lib.hid hL1
    have HH1 := Lib.hid hH1
    have HX := Lib.hid hX
    have HB := Lib.hid hB
    clear hsn hL1 hH1 hX hB hBw
    generalize (rgOf L pre).1 = lo at *
    generalize (rgOf L pre).2 = hi at *
    gi_wp2_with (gi_at_call 60; refine (CallsIn.inRound l (callsIn_wide.2 HMO.out)).mono ?_; rintro e w' ⟨rfl, j, rfl⟩)
    have z1 : (((stC L (x2.val + 1) + rkC L (x2.val + 1) lo : Nat)) : Int) = ((stC L (x2.val + 1) : Nat) : Int) + ((rkC L (x2.val + 1) lo : Nat) : Int) := by omega
    have z2 : (((stC L (x2.val + 1) + rkC L (x2.val + 1) hi : Nat)) : Int) = ((stC L (x2.val + 1) : Nat) : Int) + ((rkC L (x2.val + 1) hi : Nat) : Int) := by omega
    generalize hv1 : ((stC L (x2.val + 1) : Nat) : Int) + ((rkC L (x2.val + 1) lo : Nat) : Int) = v1 at *
    generalize hv2 : ((stC L (x2.val + 1) : Nat) : Int) + ((rkC L (x2.val + 1) hi : Nat) : Int) = v2 at *
    have q1 : Boxed (W.drewN j) (w.heap.size + 1) 3 (.int .i64 (lo : Int)) := HL1.out
    have q2 : Boxed (W.drewN j) (w.heap.size + 1 + 1) 3 (.int .i64 (hi : Int)) := HH1.out
    have q3 : Boxed (W.drewN j) w.heap.size 58 (.pointer (some ⟨bx, 0, none⟩)) := HX.out
    have g1 := grownBy_setCell' (W.drewN j) (w.heap.size + 1) (.int .i64 v1)
    have g2 := grownBy_setCell' ((W.drewN j).setCell ⟨w.heap.size + 1, 0, none⟩ (.int .i64 v1)) (w.heap.size + 1 + 1) (.int .i64 v2)
    have p1 := (q1.set (.int .i64 v1)).kept g2 (by simp)
    have p2 := (q2.kept g1 (by simp)).set (.int .i64 v2)
    have p3 := (q3.kept g1 (by simp)).kept g2 (by simp; omega)
    have hbl : Below w.heap.size W4 (((W.drewN j).setCell ⟨w.heap.size + 1, 0, none⟩ (.int .i64 v1)).setCell ⟨w.heap.size + 1 + 1, 0, none⟩ (.int .i64 v2)) :=
      ((below_drewN HB.out j).setCell (p := ⟨w.heap.size + 1, 0, none⟩) (by simp) _).setCell (p := ⟨w.heap.size + 1 + 1, 0, none⟩) (by simp; omega) _
    refine ⟨(((keeps_drewN W j).trans (KeepsOthers.setCell (W.drewN j) _ _)).trans (KeepsOthers.setCell _ _ _)).from _, kpX_set (kpX_set (kpX_refl W) ⟨w.heap.size + 1, 0, none⟩ (.inl (.inl rfl)) _) ⟨w.heap.size + 1 + 1, 0, none⟩ (.inl (.inr rfl)) _, ⟨?_, ?_⟩, p3, hbl⟩
    · rw [HSN.out]
      simp only [z1]
      exact p1
    · rw [HSN.out]
      simp only [z2]
      exact p2
  case done =>
    rintro D ys W hD rfl ⟨⟨hL1, hH1⟩, hX, hB⟩ hK
    rw [rgOf_all L P hPb] at hL1 hH1
    have c1 := hL1.cell
    have c2 := hH1.cell
    have f1 := hL1.frozen
    have f2 := hH1.frozen
    have HL1 := Lib.hid hL1
    have HH1 := Lib.hid hH1
    have HB := Lib.hid hB
    have HK := Lib.hid hK
    clear hL1 hH1 hX hB hK
    generalize hlo : (bkR L P).1 = lo at *
    generalize hhi : (bkR L P).2 = hi at *
    have HLO := Lib.hid hlo
    have HHI := Lib.hid hhi
    clear hlo hhi
    gi_wp2
    gi_region
    have g1 := grownBy_setCell' W (w.heap.size + 1) (.int .i64 (lo : Int))
    have g2 := grownBy_setCell' (W.setCell ⟨w.heap.size + 1, 0, none⟩ (.int .i64 (lo : Int))) (w.heap.size + 1 + 1) (.int .i64 (hi : Int))
    have hK2 : ((W.setCell ⟨w.heap.size + 1, 0, none⟩ (.int .i64 (lo : Int))).setCell ⟨w.heap.size + 1 + 1, 0, none⟩ (.int .i64 (hi : Int))).drew.heap[D]? = some (.deferred (some [])) :=
      ((KeepsOthers.setCell W ⟨w.heap.size + 1, 0, none⟩ (.int .i64 (lo : Int))).trans (KeepsOthers.setCell _ ⟨w.heap.size + 1 + 1, 0, none⟩ (.int .i64 (hi : Int)))).same D _ HK.out rfl
    have p1 : Boxed ((W.setCell ⟨w.heap.size + 1, 0, none⟩ (.int .i64 (lo : Int))).setCell ⟨w.heap.size + 1 + 1, 0, none⟩ (.int .i64 (hi : Int))).drew (w.heap.size + 1) 3 (.int .i64 (lo : Int)) := (HL1.out.set (.int .i64 (lo : Int))).kept (gb_drew g2) (by simp)
    have p2 : Boxed ((W.setCell ⟨w.heap.size + 1, 0, none⟩ (.int .i64 (lo : Int))).setCell ⟨w.heap.size + 1 + 1, 0, none⟩ (.int .i64 (hi : Int))).drew (w.heap.size + 1 + 1) 3 (.int .i64 (hi : Int)) := (HH1.out.kept g1 (by simp)).set (.int .i64 (hi : Int))
    have hbl : Below w.heap.size w ((W.setCell ⟨w.heap.size + 1, 0, none⟩ (.int .i64 (lo : Int))).setCell ⟨w.heap.size + 1 + 1, 0, none⟩ (.int .i64 (hi : Int))).drew :=
      (((hB4.trans HB.out).setCell (p := ⟨w.heap.size + 1, 0, none⟩) (by simp) _).setCell (p := ⟨w.heap.size + 1 + 1, 0, none⟩) (by simp; omega) _).drew
    generalize ((W.setCell ⟨w.heap.size + 1, 0, none⟩ (.int .i64 (lo : Int))).setCell ⟨w.heap.size + 1 + 1, 0, none⟩ (.int .i64 (hi : Int))).drew = WE at *
    clear c1 c2 f1 f2 g1 g2
    gi_wp2
    refine ⟨by simp, .inl ⟨_, _, rfl, run_takeDeferred hK2, ?_⟩⟩
    have e1 : Boxed (WE.putObj D (.deferred none)) (w.heap.size + 1) 3 (.int .i64 (lo : Int)) := p1.kept (grownBy_putObj' WE D _) (fun e => by injection e; omega)
    have e2 : Boxed (WE.putObj D (.deferred none)) (w.heap.size + 1 + 1) 3 (.int .i64 (hi : Int)) := p2.kept (grownBy_putObj' WE D _) (fun e => by injection e; omega)
    have r1 := e1.cell
    have r2 := e2.cell
    have hbf := hbl.trans (belowK_b (w := w) (Nat.le_refl _) WE D _ (.deferred none) (by omega) hK2 rfl rfl)
    refine ⟨.tuple #[.int .i64 (lo : Int), .int .i64 (hi : Int)], ?_, ?_, hbf⟩
    · simp [results, Tryz.results39, go_sem, r1, r2]
    · rw [HLO.out, HHI.out]
set_option maxRecDepth 100000 in
set_option maxHeartbeats 400000 in
theorem bcount_any (w : World) (bx bm : Nat) (al : Option Addr) (cap : Nat) (L : List Nat) (h : IdxAt w bx bm al cap L) (a : Option Addr) (cp : Nat) (P : List Nat) (hP : P.length ≤ 100000) (hPb : ∀ c ∈ P, c < 256) (hr : Row w a P.length (byteV P)) (hne : 0 < P.length) :
    Calls Tryz.prog 24 #[.pointer (some ⟨bx, 0, none⟩), .slice a P.length cp] w fun e w' => e = .returned (.int .i64 (((bkR L P).2 - (bkR L P).1 : Nat) : Int)) ∧ Below w.heap.size w w' := by
  have hsm : L.length ≤ 100000 := by obtain ⟨_, _, _, _, _, hm⟩ := h.mt; exact hm.small
  have HR := Lib.hid (brange_any w bx bm al cap L h a cp P hP hPb hr)
  have hle := bkR_le L P
  have t0 : ((P.length : Int) == 0) = false := by rw [beq_eq_false_iff_ne]; omega
  clear h hr hne
  go_enter Tryz.func24, Tryz.ntmps24
  go_wp2_with fail
  refine HR.out.mono ?_
  rintro e w1 ⟨rfl, hb1⟩
  generalize hlo : (bkR L P).1 = lo at *
  generalize hhi : (bkR L P).2 = hi at *
  have HLO := Lib.hid hlo
  have HHI := Lib.hid hhi
  clear hlo hhi
  go_wp2
  go_ret
  exact ⟨ret_int (by rw [HLO.out, HHI.out]; omega), hb1⟩
theorem bcount_nil (w : World) (bx : Nat) (a : Option Addr) (cp : Nat) :
    Calls Tryz.prog 24 #[.pointer (some ⟨bx, 0, none⟩), .slice a 0 cp] w fun e w' => e = .returned (.int .i64 0) ∧ w = w' := by
  go_enter Tryz.func24, Tryz.ntmps24
  go_wp2
  go_ret
  exact ⟨rfl, rfl⟩
/-! ### New, Made, Syms -/
def BSymsPost (w : World) (L : List Nat) (e : Ending) (w' : World) : Prop := ∃ a, e = .returned (.slice a L.length L.length) ∧ Row w' a L.length (symV L) ∧ Below w.heap.size w w'
def BMadePost (w : World) (L : List Nat) (e : Ending) (w' : World) : Prop :=
  ∃ bx bm al cap, e = .returned (.pointer (some ⟨bx, 0, none⟩)) ∧ IdxAt w' bx bm al cap L ∧ Below w.heap.size w w' ∧ w.heap.size ≤ bx
end Go.Proofs.YtjpoebmjfedecaaGreat
