/-
  BagTurned: a set that is turned while its iterator goes on ends it all the same.
-/
import Derived.Test.YtoifmfdaghmleaaBagAdd
import Derived.Test.YtoifmfdaghmleaaBagStep
import Derived.Test.YtoifmfdaghmleaaRowOpen
import Derived.Test.YtoifmfdaghmleaaStillIn
set_option linter.unusedVariables false
namespace Go.Proofs.Ytoifmfdaghmleaa
open Go.RowKit Go.Lib Go.Sort Go.Shelf
attribute [local go_sem] Oper.semAt_some
theorem results_cell1 {fn : Func} {p : Tmp} {ty : TypeId} (h : fn.results = #[.cell p ty]) (tmps : Array Value) (P : Program) (w : World) :
    (results fn tmps).run P w = ((asAddr (tmps.getD p undef)).run P w).andThen fun a w₁ => (loadVar ty a).run P w₁ := by
  simp only [results, h]
  simp [Sem.run_bind, Result.andThen]
theorem egPtrT (p : Nat) (W : World) : (binOp .eql 42 (.pointer (some ⟨p, 0, none⟩)) (.pointer none)).run Try.prog W = .ok (.bool false) W := by kernel_rfl
/-- a set, within an iterator's round: none of its blocks is the iterator's, nor one of the boxes -/
def TurnSet (p : Nat) (c d : Nat) (X : Nat → Prop) (N : Nat) (W : World) : Prop := ∃ v l, SetI W p v l ∧ ¬ X p ∧ (∀ g, v.ownBlock = some g → ¬ X g ∧ g ≠ c ∧ g ≠ d) ∧ l.length ≤ N
theorem Fr.turnSet {β : Type} (p c d : Nat) (n : β → Nat) : Fr (fun X (s : β) W => TurnSet p c d X (n s) W) := fun X X' s W W' ⟨v, l, hs, hp, hg, hn⟩ st hx =>
  ⟨v, l, ⟨(st.block p hs.box.lt hp).trans hs.box, ownsRow_stepX hs.row st (fun g e => (hg g e).1), hs.rise⟩, fun h => (hx p h).elim hp (fun h => by have := hs.box.lt; omega),
    fun g e => ⟨fun h => (hx g h).elim (hg g e).1 (fun h => by have := (hs.row.lt g e).2; omega), (hg g e).2⟩, hn⟩
theorem box_step {W W' : World} {X : Nat → Prop} {b : Nat} {t : TypeId} {v : Value} (h : Boxed W b t v) (st : StepX X W W') (hx : ¬ X b) : Boxed W' b t v := (st.block b h.lt hx).trans h
theorem turn_end {w5 W W' : World} {X : Nat → Prop} {p q c : Nat} {v v2 vM vR vP vN : Value} {tM tR tP tN : TypeId} {l2 : List Int} {N : Nat} (hq : q + 2 ≤ p) (hpc : p < c) (hp : ¬ X p) (hg : ∀ g, v.ownBlock = some g → ¬ X g ∧ g ≠ c ∧ g ≠ c + 1) (hrow : ∀ g, v.ownBlock = some g → p + 1 ≤ g)
    (hM : Boxed W q tM vM ∧ ¬ X q) (hR : Boxed W (q + 1) tR vR ∧ ¬ X (q + 1)) (hP : Boxed W c tP vP ∧ ¬ X c) (hN : Boxed W (c + 1) tN vN ∧ ¬ X (c + 1)) (hB : Below q w5 W) (hge : ∀ b, X b → q ≤ b) (hbd : ∀ b, X b → b < W.heap.size)
    (hs2 : SetI W' p v2 l2) (hst : StepX (SetB p v) W W') (hvo : ∀ g, v2.ownBlock = some g → SetB p v g ∨ W.heap.size ≤ g) (hl : l2.length ≤ N) (v9 : Value) :
    Boxed W' (c + 1) tN vN ∧ KeepX X W (W'.setCell ⟨c + 1, 0, none⟩ v9) ∧ KeepX noB W (W'.setCell ⟨c + 1, 0, none⟩ v9) ∧ TurnSet p c (c + 1) X N (W'.setCell ⟨c + 1, 0, none⟩ v9) ∧ (Boxed (W'.setCell ⟨c + 1, 0, none⟩ v9) q tM vM ∧ ¬ X q) ∧ (Boxed (W'.setCell ⟨c + 1, 0, none⟩ v9) (q + 1) tR vR ∧ ¬ X (q + 1)) ∧
      (Boxed (W'.setCell ⟨c + 1, 0, none⟩ v9) c tP vP ∧ ¬ X c) ∧ (Boxed (W'.setCell ⟨c + 1, 0, none⟩ v9) (c + 1) tN v9 ∧ ¬ X (c + 1)) ∧ (Below q w5 (W'.setCell ⟨c + 1, 0, none⟩ v9) ∧ ∀ b, X b → q ≤ b) ∧ ∀ b, X b → b < (W'.setCell ⟨c + 1, 0, none⟩ v9).heap.size := by
  have nq : ¬ SetB p v q := fun h => h.elim (fun h => by omega) (fun h => by have := hrow _ h; omega)
  have nq1 : ¬ SetB p v (q + 1) := fun h => h.elim (fun h => by omega) (fun h => by have := hrow _ h; omega)
  have nc : ¬ SetB p v c := fun h => h.elim (fun h => by omega) (fun h => (hg _ h).2.1 rfl)
  have nc1 : ¬ SetB p v (c + 1) := fun h => h.elim (fun h => by omega) (fun h => (hg _ h).2.2 rfl)
  have hgb := grownBy_setCell' W' (c + 1) v9
  have hN' := box_step hN.1 hst nc1
  have hsz : W.heap.size ≤ (W'.setCell ⟨c + 1, 0, none⟩ v9).heap.size := by simpa [World.setCell] using hst.size
  have hBq : Below q W W' := hst.below (by have := hM.1.lt; omega) (fun b h => h.elim (fun h => by omega) (fun h => by have := hrow _ h; omega))
  have hv2 : ∀ g, v2.ownBlock = some g → ¬ X g ∧ g ≠ c ∧ g ≠ c + 1 := fun g e => by
    rcases hvo g e with h | h
    · rcases h with rfl | h
      · exact ⟨hp, by omega, by omega⟩
      · exact hg g h
    · have := hP.1.lt; have := hN.1.lt
      exact ⟨fun hx => by have := hbd g hx; omega, by omega, by omega⟩
  have hkx : KeepX X W (W'.setCell ⟨c + 1, 0, none⟩ v9) := by
    refine KeepX.trans ⟨hst.size, fun b hb hx => hst.block b hb (fun h => h.elim (fun h => hp (h ▸ hx)) (fun h => (hg b h).1 hx))⟩ (KeepX.setCell W' ⟨c + 1, 0, none⟩ v9 hN.2)
  refine ⟨hN', hkx, ⟨hsz, fun b _ h => h.elim⟩, ⟨v2, l2, hs2.gb hgb (by simp; omega) (.inr (fun e => (hv2 _ e).2.2 rfl)), hp, hv2, hl⟩, ⟨(box_step hM.1 hst nq).kept hgb (by simp; omega), hM.2⟩, ⟨(box_step hR.1 hst nq1).kept hgb (by simp; omega), hR.2⟩,
    ⟨(box_step hP.1 hst nc).kept hgb (by simp), hP.2⟩, ⟨hN'.set v9, hN.2⟩, ⟨hB.trans (hBq.setCell (p := ⟨c + 1, 0, none⟩) (by show q ≤ c + 1; omega) v9), hge⟩, fun b hb => Nat.lt_of_lt_of_le (hbd b hb) hsz⟩
set_option maxRecDepth 100000 in
set_option maxHeartbeats 4000000 in
theorem bagTurned_walk (w : World) (a : Option Addr) (n cap : Nat) (f : Nat → Int) (hl : n ≤ maxLen) (h : Row w a n (fun k => .int .i64 (f k)) ∧ ∀ k, k < n → (Lit.int .i64 (f k)).wf = true) (b : Option Addr) (m cab : Nat) (g : Nat → Int) (hl2 : m ≤ maxLen) (h2 : Row w b m (fun k => .int .i64 (g k)) ∧ ∀ k, k < m → (Lit.int .i64 (g k)).wf = true) :
    Calls Try.prog 9 #[.slice a n cap, .slice b m cab] w fun e w' => e = .returned (.bool true) ∧ Below w.heap.size w w' := by
  have HAW := Lib.hid (fun W => awake5_any W)
  have hb0 : Below w.heap.size w ((w.alloc (.cells #[.slice b m cab] 31)).alloc (.cells #[.bool false] 4)) := ((Below.refl _ w).alloc (Nat.le_refl _) _).alloc (by simp) _
  have bM := (Boxed.new w 31 (.slice b m cab)).alloc (.cells #[.bool false] 4)
  have bR := Boxed.new (w.alloc (.cells #[.slice b m cab] 31)) 4 (.bool false)
  have hz0 : ((w.alloc (.cells #[.slice b m cab] 31)).alloc (.cells #[.bool false] 4)).heap.size = w.heap.size + 2 := by simp
  simp only [World.size_alloc] at bR
  by_cases h60 : (50 : Int) < (n : Int)
  · clear h h2 hz0
    have HB0 := Lib.hid hb0
    have HBR := Lib.hid bR
    clear hb0 bM bR
    go_enter Try.func9, Try.ntmps9
    go_wp2_with fail
    generalize ((w.alloc (.cells #[.slice b m cab] 31)).alloc (.cells #[.bool false] 4)) = w2 at *
    refine (HAW.out _).mono ?_
    rintro e w' ⟨rfl, hb⟩
    have HB := Lib.hid (below_next HB0.out hb HB0.out.size)
    have hx := (hb.block _ HBR.out.lt).trans HBR.out
    have x1 : w'.cell? ⟨w.heap.size + 1, 0, none⟩ = some (.bool false) := by simp [World.cell?, hx]
    have x2 : w'.frozen? ⟨w.heap.size + 1, 0, none⟩ = false := by simp [World.frozen?, hx]
    have hxB : Boxed w' (w.heap.size + 1) 4 (.bool false) := hx
    have HF := Lib.hid (hxB.set (.bool true)).cell
    clear hxB
    clear hb hx
    go_wp2
    refine bodyPost_ret (v := .bool true) ?_ rfl ⟨rfl, HB.out.setCell (by simp) _⟩
    have hf := HF.out
    rw [results_cell1 rfl]
    go_simp
  by_cases h61 : (50 : Int) < (m : Int)
  · clear h h2 hz0
    have c3 := bM.cell
    have HB0 := Lib.hid hb0
    have HBR := Lib.hid bR
    clear hb0 bM bR
    go_enter Try.func9, Try.ntmps9
    go_wp2_with fail
    clear c3
    generalize ((w.alloc (.cells #[.slice b m cab] 31)).alloc (.cells #[.bool false] 4)) = w2 at *
    refine (HAW.out _).mono ?_
    rintro e w' ⟨rfl, hb⟩
    have HB := Lib.hid (below_next HB0.out hb HB0.out.size)
    have hx := (hb.block _ HBR.out.lt).trans HBR.out
    have x1 : w'.cell? ⟨w.heap.size + 1, 0, none⟩ = some (.bool false) := by simp [World.cell?, hx]
    have x2 : w'.frozen? ⟨w.heap.size + 1, 0, none⟩ = false := by simp [World.frozen?, hx]
    have hxB : Boxed w' (w.heap.size + 1) 4 (.bool false) := hx
    have HF := Lib.hid (hxB.set (.bool true)).cell
    clear hb hx hxB
    go_wp2
    refine bodyPost_ret (v := .bool true) ?_ rfl ⟨rfl, HB.out.setCell (by simp) _⟩
    have hf := HF.out
    rw [results_cell1 rfl]
    go_simp
  have hn : n ≤ 50 := by omega
  have hm : m ≤ 50 := by omega
  have hr := row_listOf h.1
  have hr2 := row_listOf h2.1
  obtain ⟨L, hL⟩ : ∃ l, l = listOf f n := ⟨_, rfl⟩
  obtain ⟨M, hM⟩ : ∃ l, l = listOf g m := ⟨_, rfl⟩
  have hLl : L.length = n := by rw [hL]; exact (listOf_len f n)
  have hMl : M.length = m := by rw [hM]; exact (listOf_len g m)
  rw [← hL] at hr
  rw [← hM] at hr2
  clear h h2 hL hM hl hl2
  have HNS := Lib.hid (newSetI _ a n cap L hLl (by omega) (hr.kept hb0))
  have HB0 := Lib.hid hb0
  have HBM := Lib.hid bM
  have HBR := Lib.hid bR
  have HZ0 := Lib.hid hz0
  have HR := Lib.hid hr
  have HR2 := Lib.hid hr2
  have HLL := Lib.hid hLl
  have HML := Lib.hid hMl
  have HN := Lib.hid hn
  have HM := Lib.hid hm
  have c3 := bM.cell
  clear hb0 bM bR hz0 hr hr2 hLl hMl hn hm
  refine (callsIn_wide (n := 5)).1 ?_
  have hwf : ∀ f, Fence.wide.fn f = True := fun _ => rfl
  refine callsIn_of_wp_marks Try.func9 rfl trivial ?_ rfl
  simp only [Try.ntmps9, List.size_toArray, List.length_cons, List.length_nil, Nat.reduceAdd, Nat.reduceSub, Array.replicate_succ, Array.replicate_zero, List.push_toArray, List.append_toArray, List.nil_append, List.cons_append]
  gi_wp2_with fail
  clear c3
  generalize ((w.alloc (.cells #[.slice b m cab] 31)).alloc (.cells #[.bool false] 4)) = w2 at *
  refine (callsIn_wide.2 HNS.out).mono ?_
  rintro e w3 ⟨p, v, rfl, hs, hb3, hp⟩
  have HB3 := Lib.hid (below_next HB0.out hb3 HB0.out.size)
  have HBM3 : Hid (Boxed w3 w.heap.size 31 (.slice b m cab)) := (hb3.block _ HBM.out.lt).trans HBM.out
  have HBR3 : Hid (Boxed w3 (w.heap.size + 1) 4 (.bool false)) := (hb3.block _ HBR.out.lt).trans HBR.out
  have HS3 := Lib.hid hs
  have HP := Lib.hid hp
  have HZ3 : Hid (w.heap.size + 2 ≤ w3.heap.size) := by have := hb3.size; have := HZ0.out; show _ ≤ _; omega
  clear hs hb3 hp HNS HBM HBR HB0
  have egP := fun W => egPtrT p W
  have HBP4 := Lib.hid ((Boxed.new w3 42 (.pointer (some ⟨p, 0, none⟩))).alloc (.cells #[.int .i64 0] 3))
  have hbn := Boxed.new (w3.alloc (.cells #[.pointer (some ⟨p, 0, none⟩)] 42)) 3 (.int .i64 0)
  simp only [World.size_alloc] at hbn
  have HBN4 := Lib.hid hbn
  have hb4 : Below w3.heap.size w3 ((w3.alloc (.cells #[.pointer (some ⟨p, 0, none⟩)] 42)).alloc (.cells #[.int .i64 0] 3)) := ((Below.refl _ _).alloc (Nat.le_refl _) _).alloc (by simp) _
  have HB4 := Lib.hid hb4
  have hz4 : ((w3.alloc (.cells #[.pointer (some ⟨p, 0, none⟩)] 42)).alloc (.cells #[.int .i64 0] 3)).heap.size = w3.heap.size + 2 := by simp
  have HZ4 := Lib.hid hz4
  clear hbn hb4 hz4
  gi_wp2_with fail
  clear egP
  generalize ((w3.alloc (.cells #[.pointer (some ⟨p, 0, none⟩)] 42)).alloc (.cells #[.int .i64 0] 3)) = w4 at *
  have HS4 := Lib.hid (HS3.out.kept HB4.out)
  refine (callsIn_wide.2 (allI w4 p v _ HS4.out (by have := setL_len (lt := ltI) L; have := HLL.out; have := HN.out; omega))).mono ?_
  rintro e w5 ⟨fv, rfl, hfv, hit, hb5⟩
  have HB5 := Lib.hid (below_next HB4.out hb5 HB4.out.size)
  have HBM5 : Hid (Boxed w5 w.heap.size 31 (.slice b m cab)) := (HB5.out.block _ HBM3.out.lt).trans HBM3.out
  have HBR5 : Hid (Boxed w5 (w.heap.size + 1) 4 (.bool false)) := (HB5.out.block _ HBR3.out.lt).trans HBR3.out
  have HBP5 : Hid (Boxed w5 w3.heap.size 42 (.pointer (some ⟨p, 0, none⟩))) := (hb5.block _ HBP4.out.lt).trans HBP4.out
  have HBN5 : Hid (Boxed w5 (w3.heap.size + 1) 3 (.int .i64 0)) := (hb5.block _ HBN4.out.lt).trans HBN4.out
  have HS5 := Lib.hid (HS4.out.kept hb5)
  have HZ5 : Hid (w3.heap.size + 2 ≤ w5.heap.size) := by have := hb5.size; have := HZ4.out; show _ ≤ _; omega
  obtain ⟨gf, lb, rfl, eg, hdb, hseq⟩ := hit.resolve_left (fun h => hfv h.1)
  have HSQ := Lib.hid hseq
  have hnf := nilqI gf lb
  clear hb5 HB4 HS4 hit hfv hdb hseq HBP4 HBN4 HZ4
  have HBT := Lib.hid (below_next HB3.out HB5.out HB3.out.size)
  have HPW : Hid (p < w3.heap.size ∧ w.heap.size + 2 ≤ p) := ⟨HS3.out.box.lt, by have := HP.out; have := HZ0.out; omega⟩
  have HVO : Hid (∀ g, v.ownBlock = some g → g < w3.heap.size) := fun g e => (HS3.out.row.lt g e).2
  have HAL : Hid ((setL ltI L).length ≤ 50) := by have := setL_len (lt := ltI) L; have := HLL.out; have := HN.out; show _ ≤ _; omega
  clear HS3 HP HZ0 HB3 HB5 HBM3 HBR3
  gi_wp2
  refine wpIn_rangeFunc_X rfl (by omega) (gf := gf) (lb := lb) rfl trivial eg
    (HSQ.out 4 (by omega) noB (fun _ h => h))
    (fun b h => h.elim) (Below.refl _ _) (fun _ => rfl)
    (fun X (pre : List Int) W => TurnSet p w3.heap.size (w3.heap.size + 1) X ((setL ltI L).length + min pre.length m) W ∧ (Boxed W w.heap.size 31 (.slice b m cab) ∧ ¬ X w.heap.size) ∧ (Boxed W (w.heap.size + 1) 4 (.bool false) ∧ ¬ X (w.heap.size + 1)) ∧ (Boxed W w3.heap.size 42 (.pointer (some ⟨p, 0, none⟩)) ∧ ¬ X w3.heap.size) ∧ (Boxed W (w3.heap.size + 1) 3 (.int .i64 (pre.length : Nat)) ∧ ¬ X (w3.heap.size + 1)) ∧ (Below w.heap.size w5 W ∧ ∀ b, X b → w.heap.size ≤ b) ∧ ∀ b, X b → b < W.heap.size)
    (fun _ _ (_ : List Int) _ => False)
    (Fr.and (Fr.turnSet p _ _ (fun pre : List Int => (setL ltI L).length + min pre.length m)) (Fr.and (Fr.boxed w.heap.size 31 (fun _ => .slice b m cab)) (Fr.and (Fr.boxed (w.heap.size + 1) 4 (fun _ => .bool false)) (Fr.and (Fr.boxed w3.heap.size 42 (fun _ => .pointer (some ⟨p, 0, none⟩))) (Fr.and (Fr.boxed (w3.heap.size + 1) 3 (fun pre : List Int => .int .i64 (pre.length : Nat))) (Fr.and (Fr.below (by have := HZ5.out; have := HZ3.out; omega)) Fr.bd))))))
    (fun _ => Fr.pure (fun _ => False))
    ⟨⟨v, _, HS5.out, fun h => h, fun g e => ⟨fun h => h, by have := HVO.out g e; omega, by have := HVO.out g e; omega⟩, Nat.le_add_right _ _⟩, ⟨HBM5.out, fun h => h⟩, ⟨HBR5.out, fun h => h⟩, ⟨HBP5.out, fun h => h⟩, ⟨HBN5.out, fun h => h⟩, ⟨Below.refl _ _, fun b h => h.elim⟩, fun b h => h.elim⟩
    (fun y => { tmps := #[.slice a n cap, .slice b m cab, undef, .pointer (some ⟨w.heap.size, 0, none⟩), .pointer (some ⟨w.heap.size + 1, 0, none⟩), .pointer (some ⟨w3.heap.size, 0, none⟩), .pointer (some ⟨w3.heap.size + 1, 0, none⟩), .func (.func gf) #[] lb, .int .i64 y, .slice a n cap, .int .i64 (n : Int), .bool false, .bool false, .slice b m cab, .int .i64 (m : Int), .bool false, .bool false, undef, .slice a n cap, .pointer (some ⟨p, 0, none⟩), .pointer (some ⟨p, 0, none⟩), .bool false, .pointer (some ⟨p, 0, none⟩), .func (.func gf) #[] lb, .func (.func gf) #[] lb, .bool false, .func (.func gf) #[] lb, .int .i64 y, undef, undef, undef, undef, undef, undef, undef, undef, undef, undef, undef, undef, undef, undef, undef, undef, undef, undef, undef, undef, undef, undef, undef, undef, undef, undef, undef, undef, undef, undef, undef, undef, undef, undef, undef], defers := [] }) ?assign ?body ?done ?stop
  case assign =>
    intro lp y W G hG
    gi_wp2
    exact hG
  case stop =>
    rintro D X c pre W hD hXD hpre hx hK
    exact hx.elim
  case body =>
    rintro lp X pre y W - hXl ⟨⟨v', l', hs, hpX, hg, hll⟩, hM, hR, hP, hN, ⟨hB, hge⟩, hbd⟩ hlt
    have hlt1 : pre.length < 50 := by have := HAL.out; omega
    have c1 := hM.1.cell
    have c2 := hN.1.cell
    have c3 := hP.1.cell
    have HS := Lib.hid hs
    have HPX := Lib.hid hpX
    have HG := Lib.hid hg
    have HLE := Lib.hid hll
    have HMB := Lib.hid hM
    have HRB := Lib.hid hR
    have HPB := Lib.hid hP
    have HNB := Lib.hid hN
    have HBW := Lib.hid hB
    have HGE := Lib.hid hge
    have HBD := Lib.hid hbd
    clear hs hpX hg hll hM hR hP hN hB hge hbd hlt
    obtain ⟨k, hk⟩ : ∃ k, k = pre.length := ⟨_, rfl⟩
    have HK := Lib.hid hk
    rw [← hk] at c2 HLE HNB hlt1
    clear hk
    by_cases hkm : k < m
    · have hxk := run_ix (P := Try.prog) 31 (by kernel_rfl) size_int b m cab HR2.out.at_ .i64
      have hx := fun W => hxk W k hkm
      have d := (HR2.out.kept (HBT.out.trans HBW.out)).cell k hkm
      simp only [intsF] at d
      have tk : (k : Int) < (m : Int) := by omega
      clear hxk
      have HLA := Lib.hid (putL_len (lt := ltI) l' (M.getD k 0))
      have HLD := Lib.hid (delL_len ordI HS.out.rise y)
      generalize M.getD k 0 = z at *
      have HLB : Hid (l'.length ≤ 100) := by have := HLE.out; have := HAL.out; show _ ≤ _; omega
      by_cases hev : (bits BinOp.and IntKind.i64 z 1 == 0) = true
      · have HAD := Lib.hid (fun W1 (hs : SetI W1 p v' l') => addI W1 p v' l' hs (by have := HLB.out; omega) z)
        gi_wp2
        refine wpIn_region_still_tail 5 (by kernel_rfl) (by kernel_rfl) (by kernel_rfl) ?_
        simp only [List.take_succ_cons, List.take_zero, List.drop_succ_cons, List.drop_zero]
        change wpStill _ _ W.drew (fun a' => wpListIn _ _ _ _ _ _ a' W.drew) _ _
        repeat still_step
        refine wpStill_nil ?_
        change wpListIn _ _ _ _ _ _ _ W.drew
        gi_wp2_with fail
        refine (callsIn_round (HAD.out _ (HS.out.kept (below_drewN (Below.refl _ _) 1)))).mono ?_
        rintro e W2 ⟨v2, rfl, hs2, hst, hvo⟩
        have HE := Lib.hid (turn_end HPW.out.2 HPW.out.1 HPX.out HG.out (fun g e => (HS.out.row.lt g e).1) HMB.out HRB.out HPB.out HNB.out HBW.out HGE.out HBD.out hs2 ((StepX.refl _ W).drew.trans hst) hvo (show _ ≤ (setL ltI L).length + min (k + 1) m by have := HLE.out; have := HLA.out; omega) (.int .i64 ((k : Int) + 1)))
        clear hs2 hst hvo c1 c2 c3 d hx
        have hb9 := HE.out.1
        have c9 := hb9.cell
        have f9 := hb9.frozen
        clear hb9
        gi_wp2
        have e9 := HE.out.2
        have hp1 : (pre ++ [y]).length = k + 1 := by rw [List.length_append, ← HK.out]; rfl
        have hp2 : (((pre ++ [y]).length : Nat) : Int) = (k : Int) + 1 := by rw [hp1]; rfl
        rw [← hp2, ← hp1] at e9
        rw [← hp2]
        exact ⟨e9.1, e9.2.1, e9.2.2⟩
      · have hod : (bits BinOp.and IntKind.i64 z 1 == 0) = false := by simpa using hev
        have HDR := Lib.hid (dropI W p v' l' HS.out (by have := HLB.out; omega) y)
        clear hev
        gi_wp2_with fail
        refine (callsIn_wide.2 HDR.out).mono ?_
        rintro e W2 ⟨v2, rfl, hs2, hst, hvo⟩
        have HE := Lib.hid (turn_end HPW.out.2 HPW.out.1 HPX.out HG.out (fun g e => (HS.out.row.lt g e).1) HMB.out HRB.out HPB.out HNB.out HBW.out HGE.out HBD.out hs2 hst hvo (show _ ≤ (setL ltI L).length + min (k + 1) m by have := HLE.out; have := HLD.out; omega) (.int .i64 ((k : Int) + 1)))
        clear hs2 hst hvo c1 c2 c3 d hx
        have hb9 := HE.out.1
        have c9 := hb9.cell
        have f9 := hb9.frozen
        clear hb9
        gi_wp2
        have e9 := HE.out.2
        have hp1 : (pre ++ [y]).length = k + 1 := by rw [List.length_append, ← HK.out]; rfl
        have hp2 : (((pre ++ [y]).length : Nat) : Int) = (k : Int) + 1 := by rw [hp1]; rfl
        rw [← hp2, ← hp1] at e9
        rw [← hp2]
        exact ⟨e9.1, e9.2.1, e9.2.2⟩
    · have tk : ¬ (k : Int) < (m : Int) := by omega
      have HE := Lib.hid (turn_end HPW.out.2 HPW.out.1 HPX.out HG.out (fun g e => (HS.out.row.lt g e).1) HMB.out HRB.out HPB.out HNB.out HBW.out HGE.out HBD.out HS.out (StepX.refl _ _) (fun g e => .inl (.inr e)) (show _ ≤ (setL ltI L).length + min (k + 1) m by have := HLE.out; omega) (.int .i64 ((k : Int) + 1)))
      have hb9 := HE.out.1
      have f9 := hb9.frozen
      clear hb9
      gi_wp2
      have e9 := HE.out.2
      have hp1 : (pre ++ [y]).length = k + 1 := by rw [List.length_append, ← HK.out]; rfl
      have hp2 : (((pre ++ [y]).length : Nat) : Int) = (k : Int) + 1 := by rw [hp1]; rfl
      rw [← hp2, ← hp1] at e9
      rw [← hp2]
      exact ⟨e9.1, e9.2.1, e9.2.2⟩
  case done =>
    rintro D X xs W hD hXD rfl ⟨⟨v', l', hs, hpX, hg, hll⟩, hM, hR, hP, hN, ⟨hB, hge⟩, hbd⟩ hK
    have hA := HAL.out
    have hmm : ((l'.length : Nat) : Int) ≤ ((setL ltI L).length : Int) + (m : Int) := by omega
    have hA2 : ((setL ltI L).length : Int) ≤ 50 := by omega
    have hDl := (Array.getElem?_eq_some_iff.1 hK).1
    have hsk := hs.kept (below_drewN (Below.refl W.heap.size W) 1)
    have HLN := Lib.hid (lenI W.drew p v' l' hsk)
    have HST := Lib.hid (set_any W.drew a n cap L HLL.out (HR.out.kept ((HBT.out.trans hB).trans (below_drewN (Below.refl _ W) 1))) (by have := HN.out; omega))
    have c1 := hM.1.cell
    have c3 := hP.1.cell
    have HWB := Lib.hid (HBT.out.trans hB)
    have HBMW := Lib.hid hM.1
    have HBRW := Lib.hid hR.1
    have HDR := Lib.hid (show D ≠ w.heap.size + 1 from fun e => hR.2 (by rw [← e]; exact hXD))
    have HKD := Lib.hid hK
    have HDL := Lib.hid hDl
    have HDG := Lib.hid (hge D hXD)
    clear hs hpX hg hll hM hR hP hN hB hge hbd hK hDl hsk hA
    generalize hla : l'.length = la at *
    generalize hlb : (setL ltI L).length = lb2 at *
    clear hla
    have HLB := Lib.hid hlb
    clear hlb
    have hmd : decide ((la : Int) ≤ (lb2 : Int) + (m : Int)) = true := decide_eq_true hmm
    have hwr : IntKind.i64.wrap ((lb2 : Int) + (m : Int)) = (lb2 : Int) + (m : Int) := IntWalk.i64_in _ (by omega)
    gi_wp2
    first
      | gi_region_with (first
      | (gi_at_call 45; refine (callsIn_wide.2 HLN.out).mono ?_; rintro e w1 ⟨rfl, rfl⟩)
      | (gi_at_call 30; (refine (callsIn_wide.2 HST.out).mono ?_; rintro e w6 ⟨a6, c6, rfl, hs6, hb6⟩; rw [HLB.out]; have HB6 := Lib.hid (below_undrew hb6); have d1 := ((below_undrew hb6).block _ HBMW.out.lt).trans HBMW.out; have d1c : w6.cell? ⟨w.heap.size, 0, none⟩ = some (.slice b m cab) := (by simp [World.cell?, d1]); clear hs6 hb6 d1))
      | (gi_at_call 23; refine (callsIn_wide.2 (HAW.out _)).mono ?_; rintro e w7 ⟨rfl, hb7⟩; have HB7 := Lib.hid (below_next HB6.out hb7 HB6.out.size); have d2 : Boxed w7 (w.heap.size + 1) 4 (.bool false) := (HB7.out.block _ HBRW.out.lt).trans HBRW.out; have d2c := d2.cell; have d2f := d2.frozen; clear hb7 d2))
      | fail "no"
    all_goals
      have hbx : Boxed w7 (w.heap.size + 1) 4 (.bool false) := (HB7.out.block _ HBRW.out.lt).trans HBRW.out
      have hb8 := hbx.set (.bool true)
      have hk9 := (Below.heap_setCell w7 ⟨w.heap.size + 1, 0, none⟩ (.bool true) D HDR.out).trans ((HB7.out.block D HDL.out).trans HKD.out)
      have hb9 := (hb8.kept (grownBy_putObj' (w7.setCell ⟨w.heap.size + 1, 0, none⟩ (.bool true)) D (.deferred none)) (by intro e; injection e with e; exact HDR.out e.symm)).cell
      have hdg := HDG.out
      have hbel : Below w.heap.size w ((w7.setCell ⟨w.heap.size + 1, 0, none⟩ (.bool true)).putObj D (.deferred none)) :=
        ((HWB.out.trans (HB7.out.mono HWB.out.size)).setCell (p := ⟨w.heap.size + 1, 0, none⟩) (by show w.heap.size ≤ w.heap.size + 1; omega) _).trans (belowK_b (w := w) (Nat.le_refl _) _ D _ _ (by omega) hk9 rfl rfl)
      have HK9 := Lib.hid hk9
      have HB9 := Lib.hid hb9
      have HBEL := Lib.hid hbel
      clear hbx hb8 hk9 hb9 hbel hdg d1c d2c d2f c1 c3
      gi_wp2
      refine ⟨by simp, .inl ⟨_, _, rfl, run_takeDeferred HK9.out, ?_⟩⟩
      refine ⟨.bool true, ?_, rfl, HBEL.out⟩
      have c9 := HB9.out
      rw [results_cell1 rfl]
      go_simp
end Go.Proofs.Ytoifmfdaghmleaa
