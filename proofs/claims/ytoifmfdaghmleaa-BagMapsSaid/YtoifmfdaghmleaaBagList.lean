/-
  List: the first ones of an iterator.
-/
import Derived.Test.YtoifmfdaghmleaaBagCol
set_option linter.unusedVariables false
namespace Go.Proofs.Ytoifmfdaghmleaa
open Go.RowKit Go.Lib Go.Sort Go.Shelf
attribute [local go_sem] Oper.semAt_some

set_option maxRecDepth 100000 in
theorem clipI (w : World) (a : Option Addr) (n cap : Nat) (hn : n ≤ cap) (h0 : a = none → cap = 0) :
    Calls Try.prog 75 #[.slice a n cap] w fun e w' => e = .returned (.slice a n n) ∧ w' = w := by
  cases a with
  | none =>
    have hc := h0 rfl
    subst hc
    obtain rfl : n = 0 := by omega
    clear h0
    go_enter Try.func75, Try.ntmps75
    go_wp2
    go_ret
    exact ⟨rfl, rfl⟩
  | some ad =>
    clear h0
    go_enter Try.func75, Try.ntmps75
    go_wp2
    go_ret
    exact ⟨rfl, rfl⟩
def ListPI (w : World) (l : List Int) (e : Ending) (w' : World) : Prop := ∃ a cap, e = .returned (.slice a l.length cap) ∧ Row w' a l.length (fun j => (Value.int .i64 (l.getD j (0 : Int)) : Value)) ∧ Below w.heap.size w w'
set_option maxRecDepth 100000 in
set_option maxHeartbeats 2000000 in
theorem listI (D0 : Nat → Prop) (w : World) (fv : Value) (l : List Int) (h : Iter1 (fun x : Int => (Value.int .i64 x : Value)) D0 fv l w) (hl : l.length ≤ 1000000) (most : Int) :
    Calls Try.prog 32 #[fv, .int .i64 most] w (ListPI w (l.take most.toNat)) := by
  by_cases h0 : most ≤ 0
  · have hb1 : Below w.heap.size w (w.alloc (.cells #[.int .i64 most] 3)) := (Below.refl _ w).alloc (Nat.le_refl _) _
    have hP : ListPI w (l.take most.toNat) (.returned (.slice none 0 0)) (w.alloc (.cells #[.int .i64 most] 3)) := by
      rw [show most.toNat = 0 by omega, List.take_zero]
      exact ⟨none, 0, rfl, Row.nil _ _ _, hb1⟩
    have HP := Lib.hid hP
    clear hP hb1
    rcases h with ⟨rfl, rfl⟩ | ⟨gf, lb, rfl, eg, hdb, hseq⟩
    · have hn0 := nilzI
      go_enter Try.func32, Try.ntmps32
      go_wp2
      go_ret
      exact HP.out
    · have hnf := nilqI gf lb
      clear hseq eg hdb
      go_enter Try.func32, Try.ntmps32
      go_wp2
      go_ret
      exact HP.out
  obtain ⟨m, rfl⟩ : ∃ m : Nat, most = (m : Int) := ⟨most.toNat, by omega⟩
  rw [Int.toNat_natCast]
  have hm0 : 0 < m := by omega
  rcases h with ⟨rfl, rfl⟩ | ⟨gf, lb, rfl, eg, hdb, hseq⟩
  · rw [List.take_nil]
    have hb1 : Below w.heap.size w (w.alloc (.cells #[.int .i64 (m : Int)] 3)) := (Below.refl _ w).alloc (Nat.le_refl _) _
    have hP : ListPI w ([] : List Int) (.returned (.slice none 0 0)) (w.alloc (.cells #[.int .i64 (m : Int)] 3)) := by
      exact ⟨none, 0, rfl, Row.nil _ _ _, hb1⟩
    have HP := Lib.hid hP
    clear hP hb1
    have hn0 := nilzI
    go_enter Try.func32, Try.ntmps32
    go_wp2
    go_ret
    exact HP.out
  refine (callsIn_wide (n := 3)).1 ?_
  have hwf : ∀ f, Fence.wide.fn f = True := fun _ => rfl
  have hnf := nilqI gf lb
  obtain ⟨i0, hi0, hz0, hz1, hz2⟩ := info_parts info_rI
  refine callsIn_of_wp_marks Try.func32 rfl trivial ?_ rfl
  simp only [Try.ntmps32, List.size_toArray, List.length_cons, List.length_nil, Nat.reduceAdd, Nat.reduceSub, Array.replicate_succ, Array.replicate_zero, List.push_toArray, List.append_toArray, List.nil_append, List.cons_append]
  have BM := (Boxed.new w 3 (.int .i64 (m : Int))).alloc (.cells #[.slice none 0 0] 31)
  have BO := Boxed.new (w.alloc (.cells #[.int .i64 (m : Int)] 3)) 31 (.slice none 0 0)
  rw [World.size_alloc] at BO
  have hb1 : Below w.heap.size w ((w.alloc (.cells #[.int .i64 (m : Int)] 3)).alloc (.cells #[.slice none 0 0] 31)) := ((Below.refl _ w).alloc (Nat.le_refl _) _).alloc (by simp) _
  have hs1 : ((w.alloc (.cells #[.int .i64 (m : Int)] 3)).alloc (.cells #[.slice none 0 0] 31)).heap.size = w.heap.size + 2 := by simp
  obtain ⟨w1, hw1⟩ : ∃ w1, w1 = (w.alloc (.cells #[.int .i64 (m : Int)] 3)).alloc (.cells #[.slice none 0 0] 31) := ⟨_, rfl⟩
  have HSQ := Lib.hid (fun n hn K hK => SeqG.kept (hseq n hn K hK) hb1)
  rw [← hw1] at BO BM hb1 hs1 HSQ
  have HBO := Lib.hid BO
  have HBM := Lib.hid BM
  have HB1 := Lib.hid hb1
  have HW1 := Lib.hid hw1
  have HS1 := Lib.hid hs1
  have HDB : Hid (∀ b, D0 b → b < w1.heap.size) := fun b h => Nat.lt_of_lt_of_le (hdb b h) HB1.out.size
  have HDW := Lib.hid hdb
  clear hs1 hdb BO BM hb1 hseq
  gi_wp2
  rw [← HW1.out]
  clear hw1
  refine wpIn_rangeFunc_X rfl (by omega) (gf := gf) (lb := lb) rfl trivial eg
    (HSQ.out 2 (by omega) D0 (fun _ h => h))
    (fun b h => HDB.out b h) (Below.refl _ _) (fun _ => rfl)
    (fun X (pre : List Int) W => (∃ v, (Boxed W (w.heap.size + 1) 31 v ∧ ¬ X (w.heap.size + 1)) ∧ W.ownsRow w1.heap.size 3 1 v pre.length (mapVI pre) ∧ (∀ g, v.ownBlock = some g → ¬ X g) ∧ pre.length < m) ∧ (Boxed W w.heap.size 3 (.int .i64 (m : Int)) ∧ ¬ X w.heap.size) ∧ (Below w.heap.size w1 W ∧ ∀ b, X b → w.heap.size ≤ b) ∧ ∀ b, X b → b < W.heap.size)
    (fun c X (pre : List Int) W => (∃ v, (Boxed W (w.heap.size + 1) 31 v ∧ ¬ X (w.heap.size + 1)) ∧ W.ownsRow w1.heap.size 3 1 v pre.length (mapVI pre) ∧ (∀ g, v.ownBlock = some g → ¬ X g) ∧ (c = .exit 0 ∧ pre.length = m)) ∧ (Below w.heap.size w1 W ∧ ∀ b, X b → w.heap.size ≤ b))
    (Fr.and (Fr.row (w.heap.size + 1) 31 w1.heap.size 3 1 (fun pre : List Int => pre.length) (fun pre => mapVI pre) (fun pre => pre.length < m)) (Fr.and (Fr.boxed w.heap.size 3 (fun _ => .int .i64 (m : Int))) (Fr.and (Fr.below (by have := HS1.out; omega)) Fr.bd)))
    (fun c => Fr.and (Fr.row (w.heap.size + 1) 31 w1.heap.size 3 1 (fun pre : List Int => pre.length) (fun pre => mapVI pre) (fun pre => c = .exit 0 ∧ pre.length = m)) (Fr.below (by have := HS1.out; omega)))
    ⟨⟨_, ⟨HBO.out, fun h => h⟩, by rw [mapV_nilI]; exact World.ownsRow_nil _ _ _ _, fun g h => by simp [Value.ownBlock] at h, hm0⟩, ⟨HBM.out, fun h => h⟩, ⟨Below.refl _ _, fun b h => h.elim⟩, fun b h => h.elim⟩
    (fun y => { tmps := #[.func (.func gf) #[] lb, .int .i64 (m : Int), undef, .pointer (some ⟨w.heap.size, 0, none⟩), .slice none 0 0, .pointer (some ⟨w.heap.size + 1, 0, none⟩), Value.int .i64 y, .func (.func gf) #[] lb, .bool false, .bool false, .int .i64 (m : Int), .bool false, .bool false, .func (.func gf) #[] lb, Value.int .i64 y, undef, undef, undef, undef, undef, undef, undef, undef, undef, undef], defers := [] }) ?assign ?body ?done ?stop
  case assign =>
    intro lp y W G hG
    gi_wp2
    exact hG
  case body =>
    rintro lp X pre y W - hXl ⟨⟨v, hv, hrow, hg, hle⟩, hM, ⟨hB, hge⟩, hbd⟩ hlt
    have hc := hv.1.cell
    have hs := hB.size
    have hs1' := HS1.out
    have hsz1 : w.heap.size + 2 ≤ w1.heap.size := by omega
    clear hs1'
    have hlt2 : pre.length < 2000000 := by omega
    obtain ⟨a', cap', rfl, _⟩ := Row.of_owns hrow
    have HV := Lib.hid hv
    have HM2 := Lib.hid hM
    have HO := Lib.hid hrow
    have HG := Lib.hid hg
    have HBD := Lib.hid hbd
    have HB5 := Lib.hid hB
    have HGE := Lib.hid hge
    clear hv hM hrow hg hbd hB hge
    by_cases hge2 : (m : Int) ≤ (pre.length : Int) + 1
    · gi_wp2_with (gi_at_builtin; refine wpListIn_append_own_at _ rfl _ _ 31 rfl w1.heap.size 3 i0 (.int .i64 0) 1 8 Try.underlying31 hi0 hz0 hz1 hz2 rfl (by decide) _ pre.length _ rfl (HO.out.alloc _) ⟨W.heap.size, 0, none⟩ 1 1 [Value.int .i64 y] rfl rfl (cell_one_new _ _ _) (by simp [Value.oneCell']) (by simp only [maxLen]; omega) (by omega) (by simp; omega) ?_; intro v' w3 hown' hgrow _ hat; obtain ⟨g', cap2, rfl⟩ := ownsRow_succ hown'; obtain ⟨hv1, hv2, hr2, hg2, hk2, hb2, hb3, hs2⟩ := boxed_appX HV.out HO.out HG.out HBD.out (by omega) (by omega) hown' hgrow hat; have hc1 := hv1.cell; have hf1 := hv1.frozen; have hc5 := hv2.1.cell; have hMM := (hb2 w.heap.size (by omega) (by omega)).trans HM2.out.1; have hcM : (w3.setCell ⟨w.heap.size + 1, 0, none⟩ (.slice (some ⟨g', 0, none⟩) (pre.length + 1) cap2)).cell? ⟨w.heap.size, 0, none⟩ = some (.int .i64 (m : Int)) := (show Boxed _ _ _ _ from hMM).cell; have HMM := Lib.hid hMM; have HV2 := Lib.hid hv2; have HR2 := Lib.hid hr2; have HG2 := Lib.hid hg2; have HK2 := Lib.hid hk2; have HBB := Lib.hid hb2; have HBW := Lib.hid hb3; have HSS := Lib.hid hs2; clear hv1 hv2 hr2 hg2 hk2 hb2 hb3 hs2 hown' hgrow hat hMM)
      gi_wp2
      refine ⟨HK2.out, ⟨HSS.out, fun b _ hk => HBB.out b (HDB.out b hk) (by have := HDW.out b hk; omega)⟩, ⟨_, HV2.out, ?_, HG2.out, rfl, by simp; omega⟩, HB5.out.trans (HBW.out _ (by omega)), HGE.out⟩
      rw [mapV_appI, List.length_append]
      exact HR2.out
    · gi_wp2_with (gi_at_builtin; refine wpListIn_append_own_at _ rfl _ _ 31 rfl w1.heap.size 3 i0 (.int .i64 0) 1 8 Try.underlying31 hi0 hz0 hz1 hz2 rfl (by decide) _ pre.length _ rfl (HO.out.alloc _) ⟨W.heap.size, 0, none⟩ 1 1 [Value.int .i64 y] rfl rfl (cell_one_new _ _ _) (by simp [Value.oneCell']) (by simp only [maxLen]; omega) (by omega) (by simp; omega) ?_; intro v' w3 hown' hgrow _ hat; obtain ⟨g', cap2, rfl⟩ := ownsRow_succ hown'; obtain ⟨hv1, hv2, hr2, hg2, hk2, hb2, hb3, hs2⟩ := boxed_appX HV.out HO.out HG.out HBD.out (by omega) (by omega) hown' hgrow hat; have hc1 := hv1.cell; have hf1 := hv1.frozen; have hc5 := hv2.1.cell; have hMM := (hb2 w.heap.size (by omega) (by omega)).trans HM2.out.1; have hcM : (w3.setCell ⟨w.heap.size + 1, 0, none⟩ (.slice (some ⟨g', 0, none⟩) (pre.length + 1) cap2)).cell? ⟨w.heap.size, 0, none⟩ = some (.int .i64 (m : Int)) := (show Boxed _ _ _ _ from hMM).cell; have HMM := Lib.hid hMM; have HV2 := Lib.hid hv2; have HR2 := Lib.hid hr2; have HG2 := Lib.hid hg2; have HK2 := Lib.hid hk2; have HBB := Lib.hid hb2; have HBW := Lib.hid hb3; have HSS := Lib.hid hs2; clear hv1 hv2 hr2 hg2 hk2 hb2 hb3 hs2 hown' hgrow hat hMM)
      gi_wp2
      refine ⟨HK2.out, ⟨HSS.out, fun b _ hk => HBB.out b (HDB.out b hk) (by have := HDW.out b hk; omega)⟩, ⟨_, HV2.out, ?_, HG2.out, by simp; omega⟩, ⟨HMM.out, HM2.out.2⟩, ⟨HB5.out.trans (HBW.out _ (by omega)), HGE.out⟩, fun b hb => Nat.lt_of_lt_of_le (HBD.out b hb) HSS.out⟩
      rw [mapV_appI, List.length_append]
      exact HR2.out
  case done =>
    rintro D X xs W hD hXD rfl ⟨⟨v, hv, hrow, hg, hle⟩, hM, ⟨hB, hge⟩, hbd⟩ hK
    have hc := hv.1.cell
    obtain ⟨a', cap', rfl, hcap, hr9, _, ha0⟩ := Row.of_owns hrow
    have hDl := (Array.getElem?_eq_some_iff.1 hK).1
    have hs1' := HS1.out
    have hn0 : a' = none → cap' = 0 := fun e => by
      rcases owns_cases hrow with ⟨e2, _⟩ | ⟨g, c, e2, _⟩
      · injection e2
      · injection e2 with e3; rw [e] at e3; cases e3
    have HFIN : Hid (Row (W.putObj D (.deferred none)) a' xs.length (fun j => (Value.int .i64 (xs.getD j (0 : Int)) : Value)) ∧ Below w.heap.size w (W.putObj D (.deferred none))) := by
      refine ⟨row_ofI (base := w1.heap.size) (cap := cap') (hrow.kept (grownBy_putObj' W D (.deferred none)) (.inr fun e => hg D e hXD)), (HB1.out.trans hB).trans (belowK_b (w := w) (Nat.le_refl _) W D _ _ (by omega) hK rfl rfl)⟩
    have HK := Lib.hid hK
    have HCL := Lib.hid (fun W => clipI W a' xs.length cap' hcap hn0)
    have HLE := Lib.hid hle
    clear hs1' hv hM hrow hg hB hge hbd hK hle hr9 ha0 hn0
    generalize hTL : xs.length = tl at *
    have HTL := Lib.hid hTL
    clear hTL
    gi_wp2_with (gi_at_call 75; refine (callsIn_wide.2 (HCL.out _)).mono ?_; rintro e w9 ⟨rfl, rfl⟩)
    refine ⟨by simp, .inl ⟨_, _, rfl, run_takeDeferred HK.out, ?_⟩⟩
    refine ⟨_, results_tmp rfl _ _ _, ?_⟩
    rw [List.take_of_length_le (by rw [HTL.out]; exact Nat.le_of_lt HLE.out)]
    exact ⟨a', tl, by rw [HTL.out]; rfl, by rw [HTL.out]; exact HFIN.out.1, HFIN.out.2⟩
  case stop =>
    rintro D X c pre W hD hXD hpre ⟨⟨v, hv, hrow, hg, rfl, hlt⟩, hB, hge⟩ hK
    have hc := hv.1.cell
    have hDl := (Array.getElem?_eq_some_iff.1 hK).1
    have hpe : pre = l.take m := by rw [← take_pre hpre (by omega), List.take_of_length_le (by omega)]
    obtain ⟨a', cap', rfl, hcap, hr9, _, ha0⟩ := Row.of_owns hrow
    have hs1' := HS1.out
    have hn0 : a' = none → cap' = 0 := fun e => by
      rcases owns_cases hrow with ⟨e2, _⟩ | ⟨g, c, e2, _⟩
      · injection e2
      · injection e2 with e3; rw [e] at e3; cases e3
    have HFIN : Hid (Row (W.putObj D (.deferred none)) a' pre.length (fun j => (Value.int .i64 (pre.getD j (0 : Int)) : Value)) ∧ Below w.heap.size w (W.putObj D (.deferred none))) := by
      refine ⟨row_ofI (base := w1.heap.size) (cap := cap') (hrow.kept (grownBy_putObj' W D (.deferred none)) (.inr fun e => hg D e hXD)), (HB1.out.trans hB).trans (belowK_b (w := w) (Nat.le_refl _) W D _ _ (by omega) hK rfl rfl)⟩
    have HK := Lib.hid hK
    have HCL := Lib.hid (fun W => clipI W a' pre.length cap' hcap hn0)
    have HPE := Lib.hid hpe
    clear hs1' hv hrow hg hB hge hK hlt hpe hr9 ha0 hn0
    generalize hTL : pre.length = tl at *
    have HTL := Lib.hid hTL
    clear hTL
    gi_wp2_with (gi_at_call 75; refine (callsIn_wide.2 (HCL.out _)).mono ?_; rintro e w9 ⟨rfl, rfl⟩)
    refine ⟨by simp, .inl ⟨_, _, rfl, run_takeDeferred HK.out, ?_⟩⟩
    refine ⟨_, results_tmp rfl _ _ _, ?_⟩
    rw [← HPE.out]
    exact ⟨a', tl, by rw [HTL.out]; rfl, by rw [HTL.out]; exact HFIN.out.1, HFIN.out.2⟩
end Go.Proofs.Ytoifmfdaghmleaa
