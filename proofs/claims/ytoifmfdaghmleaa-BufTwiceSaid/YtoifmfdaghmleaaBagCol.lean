/-
  All of an iterator, the first ones of it: Collect, first, List.
-/
import Derived.Test.YtoifmfdaghmleaaBagSeq
set_option linter.unusedVariables false
namespace Go.Proofs.Ytoifmfdaghmleaa
open Go.RowKit Go.Lib Go.Sort Go.Shelf
attribute [local go_sem] Oper.semAt_some

theorem take_pre {α : Type} {pre l : List α} (h : pre <+: l) {m : Nat} (hm : m ≤ pre.length) : pre.take m = l.take m := by
  obtain ⟨t, ht⟩ := h
  rw [← ht, List.take_append_of_le_length hm]
theorem nilqI (gf : Nat) (lb : Array Value) (W : World) : (binOp .eql 46 (.func (.func gf) #[] lb) .nilFunc).run Try.prog W = .ok (.bool false) W := by kernel_rfl
theorem nilzI (W : World) : (binOp .eql 46 .nilFunc .nilFunc).run Try.prog W = .ok (.bool true) W := by kernel_rfl
def mapVI (l : List Int) : List Value := l.map fun x => (Value.int .i64 x : Value)
theorem mapV_appI (l : List Int) (x : Int) : mapVI (l ++ [x]) = mapVI l ++ [Value.int .i64 x] := by unfold mapVI; simp
theorem mapV_nilI : mapVI [] = [] := rfl
set_option maxRecDepth 100000 in
set_option maxHeartbeats 2000000 in
theorem appendSeqI (D0 : Nat → Prop) (w : World) (fv : Value) (l : List Int) (h : Iter1 (fun x : Int => (Value.int .i64 x : Value)) D0 fv l w) (hfv : fv ≠ .nilFunc) (hl : l.length ≤ 1000000) :
    Calls Try.prog 164 #[.slice none 0 0, fv] w fun e w' => ∃ v, e = .returned v ∧ w'.ownsRow w.heap.size 3 1 v l.length (mapVI l) ∧ Below w.heap.size w w' := by
  refine (callsIn_wide (n := 3)).1 ?_
  rcases h with ⟨h, _⟩ | ⟨gf, lb, rfl, eg, hdb, hseq⟩
  · exact absurd h hfv
  clear hfv
  have hwf : ∀ f, Fence.wide.fn f = True := fun _ => rfl
  obtain ⟨i0, hi0, hz0, hz1, hz2⟩ := info_parts info_rI
  refine callsIn_of_wp_marks Try.func164 rfl trivial ?_ rfl
  simp only [Try.ntmps164, List.size_toArray, List.length_cons, List.length_nil, Nat.reduceAdd, Nat.reduceSub, Array.replicate_succ, Array.replicate_zero, List.push_toArray, List.append_toArray, List.nil_append, List.cons_append]
  have BO := Boxed.new w 31 (.slice none 0 0)
  have hb1 : Below w.heap.size w (w.alloc (.cells #[.slice none 0 0] 31)) := (Below.refl _ w).alloc (Nat.le_refl _) _
  have hs1 : (w.alloc (.cells #[.slice none 0 0] 31)).heap.size = w.heap.size + 1 := by simp
  obtain ⟨w1, hw1⟩ : ∃ w1, w1 = w.alloc (.cells #[.slice none 0 0] 31) := ⟨_, rfl⟩
  have HSQ := Lib.hid (fun n hn K hK => SeqG.kept (hseq n hn K hK) hb1)
  rw [← hw1] at BO hb1 hs1 HSQ
  have HBO := Lib.hid BO
  have HB1 := Lib.hid hb1
  have HW1 := Lib.hid hw1
  have HS1 := Lib.hid hs1
  have HDB : Hid (∀ b, D0 b → b < w1.heap.size) := fun b h => Nat.lt_of_lt_of_le (hdb b h) HB1.out.size
  have HDW := Lib.hid hdb
  clear hs1 hdb
  clear BO hb1 hseq
  gi_wp2
  rw [← HW1.out]
  clear hw1
  refine wpIn_rangeFunc_X rfl (by omega) (gf := gf) (lb := lb) rfl trivial eg
    (HSQ.out 2 (by omega) D0 (fun _ h => h))
    (fun b h => HDB.out b h) (Below.refl _ _) (fun _ => rfl)
    (fun X (pre : List Int) W => (∃ v, (Boxed W w.heap.size 31 v ∧ ¬ X w.heap.size) ∧ W.ownsRow w1.heap.size 3 1 v pre.length (mapVI pre) ∧ (∀ g, v.ownBlock = some g → ¬ X g) ∧ True) ∧ (Below w.heap.size w1 W ∧ ∀ b, X b → w.heap.size ≤ b) ∧ ∀ b, X b → b < W.heap.size)
    (fun c X (pre : List Int) W => False)
    (Fr.and (Fr.row w.heap.size 31 w1.heap.size 3 1 (fun pre : List Int => pre.length) (fun pre => mapVI pre) (fun pre => True)) (Fr.and (Fr.below (by have := HS1.out; omega)) Fr.bd))
    (fun c => fun X X' s W W' hs st hx => hs)
    ⟨⟨_, ⟨HBO.out, fun h => h⟩, by rw [mapV_nilI]; exact World.ownsRow_nil _ _ _ _, fun g h => by simp [Value.ownBlock] at h, trivial⟩, ⟨Below.refl _ _, fun b h => h.elim⟩, fun b h => h.elim⟩
    (fun y => { tmps := #[.slice none 0 0, .func (.func gf) #[] lb, .pointer (some ⟨w.heap.size, 0, none⟩), undef, .slice none 0 0, Value.int .i64 y, .func (.func gf) #[] lb, Value.int .i64 y, undef, undef, undef, undef, undef], defers := [] }) ?assign ?body ?done ?stop
  case assign =>
    intro lp y W G hG
    gi_wp2
    exact hG
  case body =>
    rintro lp X pre y W - hXl ⟨⟨v, hv, hrow, hg, -⟩, ⟨hB, hge⟩, hbd⟩ hlt
    have hc := hv.1.cell
    have hs := hB.size
    have hs1' := HS1.out
    have hsz1 : w.heap.size + 1 ≤ w1.heap.size := by omega
    clear hs1'
    obtain ⟨a', cap', rfl, _⟩ := Row.of_owns hrow
    have HV := Lib.hid hv
    have HO := Lib.hid hrow
    have HG := Lib.hid hg
    have HBD := Lib.hid hbd
    have HB5 := Lib.hid hB
    have HGE := Lib.hid hge
    clear hv hrow hg hbd hB hge
    gi_wp2_with (gi_at_builtin; refine wpListIn_append_own_at _ rfl _ _ 31 rfl w1.heap.size 3 i0 (.int .i64 0) 1 8 Try.underlying31 hi0 hz0 hz1 hz2 rfl (by decide) _ pre.length _ rfl (HO.out.alloc _) ⟨W.heap.size, 0, none⟩ 1 1 [Value.int .i64 y] rfl rfl (cell_one_new _ _ _) (by simp [Value.oneCell']) (by simp only [maxLen]; omega) (by omega) (by simp; omega) ?_; intro v' w3 hown' hgrow _ hat; obtain ⟨g', cap2, rfl⟩ := ownsRow_succ hown'; obtain ⟨hv1, hv2, hr2, hg2, hk2, hb2, hb3, hs2⟩ := boxed_appX HV.out HO.out HG.out HBD.out (by omega) (by omega) hown' hgrow hat; have hc1 := hv1.cell; have hf1 := hv1.frozen; have HV2 := Lib.hid hv2; have HR2 := Lib.hid hr2; have HG2 := Lib.hid hg2; have HK2 := Lib.hid hk2; have HBB := Lib.hid hb2; have HBW := Lib.hid hb3; have HSS := Lib.hid hs2; clear hv1 hv2 hr2 hg2 hk2 hb2 hb3 hs2 hown' hgrow hat)
    gi_wp2
    refine ⟨HK2.out, ⟨HSS.out, fun b _ hk => HBB.out b (HDB.out b hk) (by have := HDW.out b hk; omega)⟩, ⟨_, HV2.out, ?_, HG2.out, trivial⟩, ⟨HB5.out.trans (HBW.out _ (Nat.le_refl _)), HGE.out⟩, fun b hb => Nat.lt_of_lt_of_le (HBD.out b hb) HSS.out⟩
    rw [mapV_appI, List.length_append]
    exact HR2.out
  case done =>
    rintro D X xs W hD hXD rfl ⟨⟨v, hv, hrow, hg, -⟩, ⟨hB, hge⟩, hbd⟩ hK
    have hc := hv.1.cell
    obtain ⟨a', cap', rfl, _⟩ := Row.of_owns hrow
    have hDl := (Array.getElem?_eq_some_iff.1 hK).1
    have hs1' := HS1.out
    have HFIN : Hid ((W.putObj D (.deferred none)).ownsRow w.heap.size 3 1 (.slice a' xs.length cap') xs.length (mapVI xs) ∧ Below w.heap.size w (W.putObj D (.deferred none))) := by
      refine ⟨owns_lower (hrow.kept (grownBy_putObj' W D (.deferred none)) (.inr fun e => hg D e hXD)) (by omega), (HB1.out.trans hB).trans (belowK_b (w := w) (Nat.le_refl _) W D _ _ (by omega) hK rfl rfl)⟩
    have HK := Lib.hid hK
    clear hs1'
    clear hv hrow hg hB hge hbd hK
    gi_wp2
    refine ⟨by simp, .inl ⟨_, _, rfl, run_takeDeferred HK.out, ?_⟩⟩
    refine ⟨_, results_tmp rfl _ _ _, ?_⟩
    exact ⟨_, rfl, HFIN.out⟩
  case stop =>
    rintro D X c pre W hD hXD hpre hI hK
    exact hI.elim
set_option maxRecDepth 100000 in
theorem all_anyI (D0 : Nat → Prop) (w : World) (fv : Value) (l : List Int) (h : Iter1 (fun x : Int => (Value.int .i64 x : Value)) D0 fv l w) (hl : l.length ≤ 1000000) :
    Calls Try.prog 106 #[fv] w fun e w' => ∃ v, e = .returned v ∧ w'.ownsRow w.heap.size 3 1 v l.length (mapVI l) ∧ Below w.heap.size w w' := by
  have h2 := h
  rcases h with ⟨rfl, rfl⟩ | ⟨gf, lb, rfl, eg, hdb, hseq⟩
  · clear h2
    have hn0 := nilzI
    go_enter Try.func106, Try.ntmps106
    go_wp2
    go_ret
    exact ⟨_, rfl, World.ownsRow_nil _ _ _ _, Below.refl _ _⟩
  · have hnf := nilqI gf lb
    have HA := Lib.hid (appendSeqI D0 w _ l h2 (by simp) hl)
    have hcol : Calls Try.prog 141 #[.func (.func gf) #[] lb] w fun e w' => ∃ v, e = .returned v ∧ w'.ownsRow w.heap.size 3 1 v l.length (mapVI l) ∧ Below w.heap.size w w' := by
      clear h2 hseq eg hdb
      go_enter Try.func141, Try.ntmps141
      go_wp2_with (go_at_call 164; refine HA.out.mono ?_; rintro e w' ⟨v, rfl, hh⟩; have HH := Lib.hid hh; clear hh)
      go_ret
      exact ⟨_, rfl, HH.out⟩
    have HC := Lib.hid hcol
    clear h2 hseq eg HA hcol hdb
    go_enter Try.func106, Try.ntmps106
    go_wp2_with (go_at_call 141; refine HC.out.mono ?_; rintro e w' ⟨v, rfl, hh⟩; have HH := Lib.hid hh; clear hh)
    go_ret
    exact ⟨_, rfl, HH.out⟩
set_option maxRecDepth 100000 in
set_option maxHeartbeats 2000000 in
theorem firstI (D0 : Nat → Prop) (w : World) (fv : Value) (l : List Int) (h : Iter1 (fun x : Int => (Value.int .i64 x : Value)) D0 fv l w) (hl : l.length ≤ 1000000) (most : Nat) (hmo : most ≤ 2000000) :
    Calls Try.prog 25 #[fv, .int .i64 (most : Int)] w fun e w' => ∃ v, e = .returned v ∧ w'.ownsRow w.heap.size 3 1 v (l.take most).length (mapVI (l.take most)) ∧ Below w.heap.size w w' := by
  rcases h with ⟨rfl, rfl⟩ | ⟨gf, lb, rfl, eg, hdb, hseq⟩
  · rw [List.take_nil]
    have hn0 := nilzI
    have hb2 : Below w.heap.size w ((w.alloc (.cells #[.int .i64 (most : Int)] 3)).alloc (.cells #[.slice none 0 0] 31)) := ((Below.refl _ w).alloc (Nat.le_refl _) _).alloc (by simp) _
    go_enter Try.func25, Try.ntmps25
    go_wp2
    go_ret
    exact ⟨_, rfl, World.ownsRow_nil _ _ _ _, hb2⟩
  refine (callsIn_wide (n := 3)).1 ?_
  have hwf : ∀ f, Fence.wide.fn f = True := fun _ => rfl
  have hnf := nilqI gf lb
  obtain ⟨i0, hi0, hz0, hz1, hz2⟩ := info_parts info_rI
  refine callsIn_of_wp_marks Try.func25 rfl trivial ?_ rfl
  simp only [Try.ntmps25, List.size_toArray, List.length_cons, List.length_nil, Nat.reduceAdd, Nat.reduceSub, Array.replicate_succ, Array.replicate_zero, List.push_toArray, List.append_toArray, List.nil_append, List.cons_append]
  have BM := (Boxed.new w 3 (.int .i64 (most : Int))).alloc (.cells #[.slice none 0 0] 31)
  have BO := Boxed.new (w.alloc (.cells #[.int .i64 (most : Int)] 3)) 31 (.slice none 0 0)
  rw [World.size_alloc] at BO
  have hb1 : Below w.heap.size w ((w.alloc (.cells #[.int .i64 (most : Int)] 3)).alloc (.cells #[.slice none 0 0] 31)) := ((Below.refl _ w).alloc (Nat.le_refl _) _).alloc (by simp) _
  have hs1 : ((w.alloc (.cells #[.int .i64 (most : Int)] 3)).alloc (.cells #[.slice none 0 0] 31)).heap.size = w.heap.size + 2 := by simp
  obtain ⟨w1, hw1⟩ : ∃ w1, w1 = (w.alloc (.cells #[.int .i64 (most : Int)] 3)).alloc (.cells #[.slice none 0 0] 31) := ⟨_, rfl⟩
  have HSQ := Lib.hid (fun n hn K hK => SeqG.kept (hseq n hn K hK) hb1)
  rw [← hw1] at BO BM hb1 hs1 HSQ
  have HBO := Lib.hid BO
  have HBM := Lib.hid BM
  have HB1 := Lib.hid hb1
  have HW1 := Lib.hid hw1
  have HS1 := Lib.hid hs1
  have HDB : Hid (∀ b, D0 b → b < w1.heap.size) := fun b h => Nat.lt_of_lt_of_le (hdb b h) HB1.out.size
  have HDW := Lib.hid hdb
  clear hs1 hdb
  clear BO BM hb1 hseq
  gi_wp2
  rw [← HW1.out]
  clear hw1
  refine wpIn_rangeFunc_X rfl (by omega) (gf := gf) (lb := lb) rfl trivial eg
    (HSQ.out 2 (by omega) D0 (fun _ h => h))
    (fun b h => HDB.out b h) (Below.refl _ _) (fun _ => rfl)
    (fun X (pre : List Int) W => (∃ v, (Boxed W (w.heap.size + 1) 31 v ∧ ¬ X (w.heap.size + 1)) ∧ W.ownsRow w1.heap.size 3 1 v pre.length (mapVI pre) ∧ (∀ g, v.ownBlock = some g → ¬ X g) ∧ pre.length ≤ most) ∧ (Boxed W w.heap.size 3 (.int .i64 (most : Int)) ∧ ¬ X w.heap.size) ∧ (Below w.heap.size w1 W ∧ ∀ b, X b → w.heap.size ≤ b) ∧ ∀ b, X b → b < W.heap.size)
    (fun c X (pre : List Int) W => (∃ v, (Boxed W (w.heap.size + 1) 31 v ∧ ¬ X (w.heap.size + 1)) ∧ W.ownsRow w1.heap.size 3 1 v (pre.take most).length (mapVI (pre.take most)) ∧ (∀ g, v.ownBlock = some g → ¬ X g) ∧ (c = .exit 0 ∧ most < pre.length)) ∧ (Below w.heap.size w1 W ∧ ∀ b, X b → w.heap.size ≤ b))
    (Fr.and (Fr.row (w.heap.size + 1) 31 w1.heap.size 3 1 (fun pre : List Int => pre.length) (fun pre => mapVI pre) (fun pre => pre.length ≤ most)) (Fr.and (Fr.boxed w.heap.size 3 (fun _ => .int .i64 (most : Int))) (Fr.and (Fr.below (by have := HS1.out; omega)) Fr.bd)))
    (fun c => Fr.and (Fr.row (w.heap.size + 1) 31 w1.heap.size 3 1 (fun pre : List Int => (pre.take most).length) (fun pre => mapVI (pre.take most)) (fun pre => c = .exit 0 ∧ most < pre.length)) (Fr.below (by have := HS1.out; omega)))
    ⟨⟨_, ⟨HBO.out, fun h => h⟩, by rw [mapV_nilI]; exact World.ownsRow_nil _ _ _ _, fun g h => by simp [Value.ownBlock] at h, Nat.zero_le _⟩, ⟨HBM.out, fun h => h⟩, ⟨Below.refl _ _, fun b h => h.elim⟩, fun b h => h.elim⟩
    (fun y => { tmps := #[.func (.func gf) #[] lb, .int .i64 (most : Int), undef, .pointer (some ⟨w.heap.size, 0, none⟩), .slice none 0 0, .pointer (some ⟨w.heap.size + 1, 0, none⟩), Value.int .i64 y, .func (.func gf) #[] lb, .bool false, .func (.func gf) #[] lb, Value.int .i64 y, undef, undef, undef, undef, undef, undef, undef, undef, undef], defers := [] }) ?assign ?body ?done ?stop
  case assign =>
    intro lp y W G hG
    gi_wp2
    exact hG
  case body =>
    rintro lp X pre y W - hXl ⟨⟨v, hv, hrow, hg, hle⟩, hM, ⟨hB, hge⟩, hbd⟩ hlt
    have hc := hv.1.cell
    have hcM := hM.1.cell
    have hs := hB.size
    have hs1' := HS1.out
    have hsz1 : w.heap.size + 2 ≤ w1.heap.size := by omega
    clear hs1'
    have hlt2 : pre.length < 2000000 := by omega
    obtain ⟨a', cap', rfl, _⟩ := Row.of_owns hrow
    have HV := Lib.hid hv
    have HM2 := Lib.hid hM
    have HO := Lib.hid hrow
    have HG := Lib.hid hg
    have HBD := Lib.hid hbd
    have HB5 := Lib.hid hB
    have HGE := Lib.hid hge
    clear hv hM hrow hg hbd hB hge
    by_cases hge2 : (most : Int) ≤ (pre.length : Int)
    · gi_wp2
      have e : (pre ++ [y]).take most = pre := by rw [List.take_append_of_le_length (by omega), List.take_of_length_le (by omega)]
      refine ⟨KeepX.refl _ _, KeepX.refl _ _, ⟨_, HV.out, ?_, HG.out, rfl, by simp; omega⟩, HB5.out, HGE.out⟩
      rw [e]; exact HO.out
    · gi_wp2_with (gi_at_builtin; refine wpListIn_append_own_at _ rfl _ _ 31 rfl w1.heap.size 3 i0 (.int .i64 0) 1 8 Try.underlying31 hi0 hz0 hz1 hz2 rfl (by decide) _ pre.length _ rfl (HO.out.alloc _) ⟨W.heap.size, 0, none⟩ 1 1 [Value.int .i64 y] rfl rfl (cell_one_new _ _ _) (by simp [Value.oneCell']) (by simp only [maxLen]; omega) (by omega) (by simp; omega) ?_; intro v' w3 hown' hgrow _ hat; obtain ⟨g', cap2, rfl⟩ := ownsRow_succ hown'; obtain ⟨hv1, hv2, hr2, hg2, hk2, hb2, hb3, hs2⟩ := boxed_appX HV.out HO.out HG.out HBD.out (by omega) (by omega) hown' hgrow hat; have hc1 := hv1.cell; have hf1 := hv1.frozen; have HV2 := Lib.hid hv2; have HR2 := Lib.hid hr2; have HG2 := Lib.hid hg2; have HK2 := Lib.hid hk2; have HBB := Lib.hid hb2; have HBW := Lib.hid hb3; have HSS := Lib.hid hs2; clear hv1 hv2 hr2 hg2 hk2 hb2 hb3 hs2 hown' hgrow hat)
      gi_wp2
      refine ⟨HK2.out, ⟨HSS.out, fun b _ hk => HBB.out b (HDB.out b hk) (by have := HDW.out b hk; omega)⟩, ⟨_, HV2.out, ?_, HG2.out, by simp; omega⟩, ⟨(HBB.out _ (by omega) (by omega)).trans HM2.out.1, HM2.out.2⟩, ⟨HB5.out.trans (HBW.out _ (by omega)), HGE.out⟩, fun b hb => Nat.lt_of_lt_of_le (HBD.out b hb) HSS.out⟩
      rw [mapV_appI, List.length_append]
      exact HR2.out
  case done =>
    rintro D X xs W hD hXD rfl ⟨⟨v, hv, hrow, hg, hle⟩, hM, ⟨hB, hge⟩, hbd⟩ hK
    have hc := hv.1.cell
    obtain ⟨a', cap', rfl, _⟩ := Row.of_owns hrow
    have hDl := (Array.getElem?_eq_some_iff.1 hK).1
    have hs1' := HS1.out
    have HFIN : Hid ((W.putObj D (.deferred none)).ownsRow w.heap.size 3 1 (.slice a' xs.length cap') (xs.take most).length (mapVI (xs.take most)) ∧ Below w.heap.size w (W.putObj D (.deferred none))) := by
      rw [List.take_of_length_le hle]
      refine ⟨owns_lower (hrow.kept (grownBy_putObj' W D (.deferred none)) (.inr fun e => hg D e hXD)) (by omega), (HB1.out.trans hB).trans (belowK_b (w := w) (Nat.le_refl _) W D _ _ (by omega) hK rfl rfl)⟩
    have HK := Lib.hid hK
    clear hs1'
    clear hv hM hrow hg hB hge hbd hK hle
    gi_wp2
    refine ⟨by simp, .inl ⟨_, _, rfl, run_takeDeferred HK.out, ?_⟩⟩
    refine ⟨_, results_tmp rfl _ _ _, ?_⟩
    exact ⟨_, rfl, HFIN.out⟩
  case stop =>
    rintro D X c pre W hD hXD hpre ⟨⟨v, hv, hrow, hg, rfl, hlt⟩, hB, hge⟩ hK
    have hc := hv.1.cell
    have hDl := (Array.getElem?_eq_some_iff.1 hK).1
    rw [take_pre hpre (by omega)] at hrow
    obtain ⟨a', cap', rfl, _⟩ := Row.of_owns hrow
    have hs1' := HS1.out
    have HFIN : Hid ((W.putObj D (.deferred none)).ownsRow w.heap.size 3 1 (.slice a' (l.take most).length cap') (l.take most).length (mapVI (l.take most)) ∧ Below w.heap.size w (W.putObj D (.deferred none))) := by
      refine ⟨owns_lower (hrow.kept (grownBy_putObj' W D (.deferred none)) (.inr fun e => hg D e hXD)) (by omega), (HB1.out.trans hB).trans (belowK_b (w := w) (Nat.le_refl _) W D _ _ (by omega) hK rfl rfl)⟩
    have HK := Lib.hid hK
    clear hs1'
    clear hv hrow hg hB hge hK hlt
    generalize hTL : (l.take most).length = tl at *
    have HTL := Lib.hid hTL
    clear hTL
    gi_wp2
    refine ⟨by simp, .inl ⟨_, _, rfl, run_takeDeferred HK.out, ?_⟩⟩
    refine ⟨_, results_tmp rfl _ _ _, ?_⟩
    exact ⟨_, rfl, by rw [HTL.out]; exact HFIN.out⟩
theorem nilqS (gf : Nat) (lb : Array Value) (W : World) : (binOp .eql 56 (.func (.func gf) #[] lb) .nilFunc).run Try.prog W = .ok (.bool false) W := by kernel_rfl
theorem nilzS (W : World) : (binOp .eql 56 .nilFunc .nilFunc).run Try.prog W = .ok (.bool true) W := by kernel_rfl
def mapVS (l : List ByteArray) : List Value := l.map fun x => (Value.string x : Value)
theorem mapV_appS (l : List ByteArray) (x : ByteArray) : mapVS (l ++ [x]) = mapVS l ++ [Value.string x] := by unfold mapVS; simp
theorem mapV_nilS : mapVS [] = [] := rfl
set_option maxRecDepth 100000 in
set_option maxHeartbeats 2000000 in
theorem appendSeqS (D0 : Nat → Prop) (w : World) (fv : Value) (l : List ByteArray) (h : Iter1 (fun x : ByteArray => (Value.string x : Value)) D0 fv l w) (hfv : fv ≠ .nilFunc) (hl : l.length ≤ 1000000) :
    Calls Try.prog 168 #[.slice none 0 0, fv] w fun e w' => ∃ v, e = .returned v ∧ w'.ownsRow w.heap.size 9 1 v l.length (mapVS l) ∧ Below w.heap.size w w' := by
  refine (callsIn_wide (n := 3)).1 ?_
  rcases h with ⟨h, _⟩ | ⟨gf, lb, rfl, eg, hdb, hseq⟩
  · exact absurd h hfv
  clear hfv
  have hwf : ∀ f, Fence.wide.fn f = True := fun _ => rfl
  obtain ⟨i0, hi0, hz0, hz1, hz2⟩ := info_parts info_rS
  refine callsIn_of_wp_marks Try.func168 rfl trivial ?_ rfl
  simp only [Try.ntmps168, List.size_toArray, List.length_cons, List.length_nil, Nat.reduceAdd, Nat.reduceSub, Array.replicate_succ, Array.replicate_zero, List.push_toArray, List.append_toArray, List.nil_append, List.cons_append]
  have BO := Boxed.new w 32 (.slice none 0 0)
  have hb1 : Below w.heap.size w (w.alloc (.cells #[.slice none 0 0] 32)) := (Below.refl _ w).alloc (Nat.le_refl _) _
  have hs1 : (w.alloc (.cells #[.slice none 0 0] 32)).heap.size = w.heap.size + 1 := by simp
  obtain ⟨w1, hw1⟩ : ∃ w1, w1 = w.alloc (.cells #[.slice none 0 0] 32) := ⟨_, rfl⟩
  have HSQ := Lib.hid (fun n hn K hK => SeqG.kept (hseq n hn K hK) hb1)
  rw [← hw1] at BO hb1 hs1 HSQ
  have HBO := Lib.hid BO
  have HB1 := Lib.hid hb1
  have HW1 := Lib.hid hw1
  have HS1 := Lib.hid hs1
  have HDB : Hid (∀ b, D0 b → b < w1.heap.size) := fun b h => Nat.lt_of_lt_of_le (hdb b h) HB1.out.size
  have HDW := Lib.hid hdb
  clear hs1 hdb
  clear BO hb1 hseq
  gi_wp2
  rw [← HW1.out]
  clear hw1
  refine wpIn_rangeFunc_X rfl (by omega) (gf := gf) (lb := lb) rfl trivial eg
    (HSQ.out 2 (by omega) D0 (fun _ h => h))
    (fun b h => HDB.out b h) (Below.refl _ _) (fun _ => rfl)
    (fun X (pre : List ByteArray) W => (∃ v, (Boxed W w.heap.size 32 v ∧ ¬ X w.heap.size) ∧ W.ownsRow w1.heap.size 9 1 v pre.length (mapVS pre) ∧ (∀ g, v.ownBlock = some g → ¬ X g) ∧ True) ∧ (Below w.heap.size w1 W ∧ ∀ b, X b → w.heap.size ≤ b) ∧ ∀ b, X b → b < W.heap.size)
    (fun c X (pre : List ByteArray) W => False)
    (Fr.and (Fr.row w.heap.size 32 w1.heap.size 9 1 (fun pre : List ByteArray => pre.length) (fun pre => mapVS pre) (fun pre => True)) (Fr.and (Fr.below (by have := HS1.out; omega)) Fr.bd))
    (fun c => fun X X' s W W' hs st hx => hs)
    ⟨⟨_, ⟨HBO.out, fun h => h⟩, by rw [mapV_nilS]; exact World.ownsRow_nil _ _ _ _, fun g h => by simp [Value.ownBlock] at h, trivial⟩, ⟨Below.refl _ _, fun b h => h.elim⟩, fun b h => h.elim⟩
    (fun y => { tmps := #[.slice none 0 0, .func (.func gf) #[] lb, .pointer (some ⟨w.heap.size, 0, none⟩), undef, .slice none 0 0, Value.string y, .func (.func gf) #[] lb, Value.string y, undef, undef, undef, undef, undef], defers := [] }) ?assign ?body ?done ?stop
  case assign =>
    intro lp y W G hG
    gi_wp2
    exact hG
  case body =>
    rintro lp X pre y W - hXl ⟨⟨v, hv, hrow, hg, -⟩, ⟨hB, hge⟩, hbd⟩ hlt
    have hc := hv.1.cell
    have hs := hB.size
    have hs1' := HS1.out
    have hsz1 : w.heap.size + 1 ≤ w1.heap.size := by omega
    clear hs1'
    obtain ⟨a', cap', rfl, _⟩ := Row.of_owns hrow
    have HV := Lib.hid hv
    have HO := Lib.hid hrow
    have HG := Lib.hid hg
    have HBD := Lib.hid hbd
    have HB5 := Lib.hid hB
    have HGE := Lib.hid hge
    clear hv hrow hg hbd hB hge
    gi_wp2_with (gi_at_builtin; refine wpListIn_append_own_at _ rfl _ _ 32 rfl w1.heap.size 9 i0 (.string ⟨#[]⟩) 1 16 Try.underlying32 hi0 hz0 hz1 hz2 rfl (by decide) _ pre.length _ rfl (HO.out.alloc _) ⟨W.heap.size, 0, none⟩ 1 1 [Value.string y] rfl rfl (cell_one_new _ _ _) (by simp [Value.oneCell']) (by simp only [maxLen]; omega) (by omega) (by simp; omega) ?_; intro v' w3 hown' hgrow _ hat; obtain ⟨g', cap2, rfl⟩ := ownsRow_succ hown'; obtain ⟨hv1, hv2, hr2, hg2, hk2, hb2, hb3, hs2⟩ := boxed_appX HV.out HO.out HG.out HBD.out (by omega) (by omega) hown' hgrow hat; have hc1 := hv1.cell; have hf1 := hv1.frozen; have HV2 := Lib.hid hv2; have HR2 := Lib.hid hr2; have HG2 := Lib.hid hg2; have HK2 := Lib.hid hk2; have HBB := Lib.hid hb2; have HBW := Lib.hid hb3; have HSS := Lib.hid hs2; clear hv1 hv2 hr2 hg2 hk2 hb2 hb3 hs2 hown' hgrow hat)
    gi_wp2
    refine ⟨HK2.out, ⟨HSS.out, fun b _ hk => HBB.out b (HDB.out b hk) (by have := HDW.out b hk; omega)⟩, ⟨_, HV2.out, ?_, HG2.out, trivial⟩, ⟨HB5.out.trans (HBW.out _ (Nat.le_refl _)), HGE.out⟩, fun b hb => Nat.lt_of_lt_of_le (HBD.out b hb) HSS.out⟩
    rw [mapV_appS, List.length_append]
    exact HR2.out
  case done =>
    rintro D X xs W hD hXD rfl ⟨⟨v, hv, hrow, hg, -⟩, ⟨hB, hge⟩, hbd⟩ hK
    have hc := hv.1.cell
    obtain ⟨a', cap', rfl, _⟩ := Row.of_owns hrow
    have hDl := (Array.getElem?_eq_some_iff.1 hK).1
    have hs1' := HS1.out
    have HFIN : Hid ((W.putObj D (.deferred none)).ownsRow w.heap.size 9 1 (.slice a' xs.length cap') xs.length (mapVS xs) ∧ Below w.heap.size w (W.putObj D (.deferred none))) := by
      refine ⟨owns_lower (hrow.kept (grownBy_putObj' W D (.deferred none)) (.inr fun e => hg D e hXD)) (by omega), (HB1.out.trans hB).trans (belowK_b (w := w) (Nat.le_refl _) W D _ _ (by omega) hK rfl rfl)⟩
    have HK := Lib.hid hK
    clear hs1'
    clear hv hrow hg hB hge hbd hK
    gi_wp2
    refine ⟨by simp, .inl ⟨_, _, rfl, run_takeDeferred HK.out, ?_⟩⟩
    refine ⟨_, results_tmp rfl _ _ _, ?_⟩
    exact ⟨_, rfl, HFIN.out⟩
  case stop =>
    rintro D X c pre W hD hXD hpre hI hK
    exact hI.elim
set_option maxRecDepth 100000 in
theorem all_anyS (D0 : Nat → Prop) (w : World) (fv : Value) (l : List ByteArray) (h : Iter1 (fun x : ByteArray => (Value.string x : Value)) D0 fv l w) (hl : l.length ≤ 1000000) :
    Calls Try.prog 111 #[fv] w fun e w' => ∃ v, e = .returned v ∧ w'.ownsRow w.heap.size 9 1 v l.length (mapVS l) ∧ Below w.heap.size w w' := by
  have h2 := h
  rcases h with ⟨rfl, rfl⟩ | ⟨gf, lb, rfl, eg, hdb, hseq⟩
  · clear h2
    have hn0 := nilzS
    go_enter Try.func111, Try.ntmps111
    go_wp2
    go_ret
    exact ⟨_, rfl, World.ownsRow_nil _ _ _ _, Below.refl _ _⟩
  · have hnf := nilqS gf lb
    have HA := Lib.hid (appendSeqS D0 w _ l h2 (by simp) hl)
    have hcol : Calls Try.prog 150 #[.func (.func gf) #[] lb] w fun e w' => ∃ v, e = .returned v ∧ w'.ownsRow w.heap.size 9 1 v l.length (mapVS l) ∧ Below w.heap.size w w' := by
      clear h2 hseq eg hdb
      go_enter Try.func150, Try.ntmps150
      go_wp2_with (go_at_call 168; refine HA.out.mono ?_; rintro e w' ⟨v, rfl, hh⟩; have HH := Lib.hid hh; clear hh)
      go_ret
      exact ⟨_, rfl, HH.out⟩
    have HC := Lib.hid hcol
    clear h2 hseq eg HA hcol hdb
    go_enter Try.func111, Try.ntmps111
    go_wp2_with (go_at_call 150; refine HC.out.mono ?_; rintro e w' ⟨v, rfl, hh⟩; have HH := Lib.hid hh; clear hh)
    go_ret
    exact ⟨_, rfl, HH.out⟩
set_option maxRecDepth 100000 in
set_option maxHeartbeats 2000000 in
theorem firstS (D0 : Nat → Prop) (w : World) (fv : Value) (l : List ByteArray) (h : Iter1 (fun x : ByteArray => (Value.string x : Value)) D0 fv l w) (hl : l.length ≤ 1000000) (most : Nat) (hmo : most ≤ 2000000) :
    Calls Try.prog 34 #[fv, .int .i64 (most : Int)] w fun e w' => ∃ v, e = .returned v ∧ w'.ownsRow w.heap.size 9 1 v (l.take most).length (mapVS (l.take most)) ∧ Below w.heap.size w w' := by
  rcases h with ⟨rfl, rfl⟩ | ⟨gf, lb, rfl, eg, hdb, hseq⟩
  · rw [List.take_nil]
    have hn0 := nilzS
    have hb2 : Below w.heap.size w ((w.alloc (.cells #[.int .i64 (most : Int)] 3)).alloc (.cells #[.slice none 0 0] 32)) := ((Below.refl _ w).alloc (Nat.le_refl _) _).alloc (by simp) _
    go_enter Try.func34, Try.ntmps34
    go_wp2
    go_ret
    exact ⟨_, rfl, World.ownsRow_nil _ _ _ _, hb2⟩
  refine (callsIn_wide (n := 3)).1 ?_
  have hwf : ∀ f, Fence.wide.fn f = True := fun _ => rfl
  have hnf := nilqS gf lb
  obtain ⟨i0, hi0, hz0, hz1, hz2⟩ := info_parts info_rS
  refine callsIn_of_wp_marks Try.func34 rfl trivial ?_ rfl
  simp only [Try.ntmps34, List.size_toArray, List.length_cons, List.length_nil, Nat.reduceAdd, Nat.reduceSub, Array.replicate_succ, Array.replicate_zero, List.push_toArray, List.append_toArray, List.nil_append, List.cons_append]
  have BM := (Boxed.new w 3 (.int .i64 (most : Int))).alloc (.cells #[.slice none 0 0] 32)
  have BO := Boxed.new (w.alloc (.cells #[.int .i64 (most : Int)] 3)) 32 (.slice none 0 0)
  rw [World.size_alloc] at BO
  have hb1 : Below w.heap.size w ((w.alloc (.cells #[.int .i64 (most : Int)] 3)).alloc (.cells #[.slice none 0 0] 32)) := ((Below.refl _ w).alloc (Nat.le_refl _) _).alloc (by simp) _
  have hs1 : ((w.alloc (.cells #[.int .i64 (most : Int)] 3)).alloc (.cells #[.slice none 0 0] 32)).heap.size = w.heap.size + 2 := by simp
  obtain ⟨w1, hw1⟩ : ∃ w1, w1 = (w.alloc (.cells #[.int .i64 (most : Int)] 3)).alloc (.cells #[.slice none 0 0] 32) := ⟨_, rfl⟩
  have HSQ := Lib.hid (fun n hn K hK => SeqG.kept (hseq n hn K hK) hb1)
  rw [← hw1] at BO BM hb1 hs1 HSQ
  have HBO := Lib.hid BO
  have HBM := Lib.hid BM
  have HB1 := Lib.hid hb1
  have HW1 := Lib.hid hw1
  have HS1 := Lib.hid hs1
  have HDB : Hid (∀ b, D0 b → b < w1.heap.size) := fun b h => Nat.lt_of_lt_of_le (hdb b h) HB1.out.size
  have HDW := Lib.hid hdb
  clear hs1 hdb
  clear BO BM hb1 hseq
  gi_wp2
  rw [← HW1.out]
  clear hw1
  refine wpIn_rangeFunc_X rfl (by omega) (gf := gf) (lb := lb) rfl trivial eg
    (HSQ.out 2 (by omega) D0 (fun _ h => h))
    (fun b h => HDB.out b h) (Below.refl _ _) (fun _ => rfl)
    (fun X (pre : List ByteArray) W => (∃ v, (Boxed W (w.heap.size + 1) 32 v ∧ ¬ X (w.heap.size + 1)) ∧ W.ownsRow w1.heap.size 9 1 v pre.length (mapVS pre) ∧ (∀ g, v.ownBlock = some g → ¬ X g) ∧ pre.length ≤ most) ∧ (Boxed W w.heap.size 3 (.int .i64 (most : Int)) ∧ ¬ X w.heap.size) ∧ (Below w.heap.size w1 W ∧ ∀ b, X b → w.heap.size ≤ b) ∧ ∀ b, X b → b < W.heap.size)
    (fun c X (pre : List ByteArray) W => (∃ v, (Boxed W (w.heap.size + 1) 32 v ∧ ¬ X (w.heap.size + 1)) ∧ W.ownsRow w1.heap.size 9 1 v (pre.take most).length (mapVS (pre.take most)) ∧ (∀ g, v.ownBlock = some g → ¬ X g) ∧ (c = .exit 0 ∧ most < pre.length)) ∧ (Below w.heap.size w1 W ∧ ∀ b, X b → w.heap.size ≤ b))
    (Fr.and (Fr.row (w.heap.size + 1) 32 w1.heap.size 9 1 (fun pre : List ByteArray => pre.length) (fun pre => mapVS pre) (fun pre => pre.length ≤ most)) (Fr.and (Fr.boxed w.heap.size 3 (fun _ => .int .i64 (most : Int))) (Fr.and (Fr.below (by have := HS1.out; omega)) Fr.bd)))
    (fun c => Fr.and (Fr.row (w.heap.size + 1) 32 w1.heap.size 9 1 (fun pre : List ByteArray => (pre.take most).length) (fun pre => mapVS (pre.take most)) (fun pre => c = .exit 0 ∧ most < pre.length)) (Fr.below (by have := HS1.out; omega)))
    ⟨⟨_, ⟨HBO.out, fun h => h⟩, by rw [mapV_nilS]; exact World.ownsRow_nil _ _ _ _, fun g h => by simp [Value.ownBlock] at h, Nat.zero_le _⟩, ⟨HBM.out, fun h => h⟩, ⟨Below.refl _ _, fun b h => h.elim⟩, fun b h => h.elim⟩
    (fun y => { tmps := #[.func (.func gf) #[] lb, .int .i64 (most : Int), undef, .pointer (some ⟨w.heap.size, 0, none⟩), .slice none 0 0, .pointer (some ⟨w.heap.size + 1, 0, none⟩), Value.string y, .func (.func gf) #[] lb, .bool false, .func (.func gf) #[] lb, Value.string y, undef, undef, undef, undef, undef, undef, undef, undef, undef], defers := [] }) ?assign ?body ?done ?stop
  case assign =>
    intro lp y W G hG
    gi_wp2
    exact hG
  case body =>
    rintro lp X pre y W - hXl ⟨⟨v, hv, hrow, hg, hle⟩, hM, ⟨hB, hge⟩, hbd⟩ hlt
    have hc := hv.1.cell
    have hcM := hM.1.cell
    have hs := hB.size
    have hs1' := HS1.out
    have hsz1 : w.heap.size + 2 ≤ w1.heap.size := by omega
    clear hs1'
    have hlt2 : pre.length < 2000000 := by omega
    obtain ⟨a', cap', rfl, _⟩ := Row.of_owns hrow
    have HV := Lib.hid hv
    have HM2 := Lib.hid hM
    have HO := Lib.hid hrow
    have HG := Lib.hid hg
    have HBD := Lib.hid hbd
    have HB5 := Lib.hid hB
    have HGE := Lib.hid hge
    clear hv hM hrow hg hbd hB hge
    by_cases hge2 : (most : Int) ≤ (pre.length : Int)
    · gi_wp2
      have e : (pre ++ [y]).take most = pre := by rw [List.take_append_of_le_length (by omega), List.take_of_length_le (by omega)]
      refine ⟨KeepX.refl _ _, KeepX.refl _ _, ⟨_, HV.out, ?_, HG.out, rfl, by simp; omega⟩, HB5.out, HGE.out⟩
      rw [e]; exact HO.out
    · gi_wp2_with (gi_at_builtin; refine wpListIn_append_own_at _ rfl _ _ 32 rfl w1.heap.size 9 i0 (.string ⟨#[]⟩) 1 16 Try.underlying32 hi0 hz0 hz1 hz2 rfl (by decide) _ pre.length _ rfl (HO.out.alloc _) ⟨W.heap.size, 0, none⟩ 1 1 [Value.string y] rfl rfl (cell_one_new _ _ _) (by simp [Value.oneCell']) (by simp only [maxLen]; omega) (by omega) (by simp; omega) ?_; intro v' w3 hown' hgrow _ hat; obtain ⟨g', cap2, rfl⟩ := ownsRow_succ hown'; obtain ⟨hv1, hv2, hr2, hg2, hk2, hb2, hb3, hs2⟩ := boxed_appX HV.out HO.out HG.out HBD.out (by omega) (by omega) hown' hgrow hat; have hc1 := hv1.cell; have hf1 := hv1.frozen; have HV2 := Lib.hid hv2; have HR2 := Lib.hid hr2; have HG2 := Lib.hid hg2; have HK2 := Lib.hid hk2; have HBB := Lib.hid hb2; have HBW := Lib.hid hb3; have HSS := Lib.hid hs2; clear hv1 hv2 hr2 hg2 hk2 hb2 hb3 hs2 hown' hgrow hat)
      gi_wp2
      refine ⟨HK2.out, ⟨HSS.out, fun b _ hk => HBB.out b (HDB.out b hk) (by have := HDW.out b hk; omega)⟩, ⟨_, HV2.out, ?_, HG2.out, by simp; omega⟩, ⟨(HBB.out _ (by omega) (by omega)).trans HM2.out.1, HM2.out.2⟩, ⟨HB5.out.trans (HBW.out _ (by omega)), HGE.out⟩, fun b hb => Nat.lt_of_lt_of_le (HBD.out b hb) HSS.out⟩
      rw [mapV_appS, List.length_append]
      exact HR2.out
  case done =>
    rintro D X xs W hD hXD rfl ⟨⟨v, hv, hrow, hg, hle⟩, hM, ⟨hB, hge⟩, hbd⟩ hK
    have hc := hv.1.cell
    obtain ⟨a', cap', rfl, _⟩ := Row.of_owns hrow
    have hDl := (Array.getElem?_eq_some_iff.1 hK).1
    have hs1' := HS1.out
    have HFIN : Hid ((W.putObj D (.deferred none)).ownsRow w.heap.size 9 1 (.slice a' xs.length cap') (xs.take most).length (mapVS (xs.take most)) ∧ Below w.heap.size w (W.putObj D (.deferred none))) := by
      rw [List.take_of_length_le hle]
      refine ⟨owns_lower (hrow.kept (grownBy_putObj' W D (.deferred none)) (.inr fun e => hg D e hXD)) (by omega), (HB1.out.trans hB).trans (belowK_b (w := w) (Nat.le_refl _) W D _ _ (by omega) hK rfl rfl)⟩
    have HK := Lib.hid hK
    clear hs1'
    clear hv hM hrow hg hB hge hbd hK hle
    gi_wp2
    refine ⟨by simp, .inl ⟨_, _, rfl, run_takeDeferred HK.out, ?_⟩⟩
    refine ⟨_, results_tmp rfl _ _ _, ?_⟩
    exact ⟨_, rfl, HFIN.out⟩
  case stop =>
    rintro D X c pre W hD hXD hpre ⟨⟨v, hv, hrow, hg, rfl, hlt⟩, hB, hge⟩ hK
    have hc := hv.1.cell
    have hDl := (Array.getElem?_eq_some_iff.1 hK).1
    rw [take_pre hpre (by omega)] at hrow
    obtain ⟨a', cap', rfl, _⟩ := Row.of_owns hrow
    have hs1' := HS1.out
    have HFIN : Hid ((W.putObj D (.deferred none)).ownsRow w.heap.size 9 1 (.slice a' (l.take most).length cap') (l.take most).length (mapVS (l.take most)) ∧ Below w.heap.size w (W.putObj D (.deferred none))) := by
      refine ⟨owns_lower (hrow.kept (grownBy_putObj' W D (.deferred none)) (.inr fun e => hg D e hXD)) (by omega), (HB1.out.trans hB).trans (belowK_b (w := w) (Nat.le_refl _) W D _ _ (by omega) hK rfl rfl)⟩
    have HK := Lib.hid hK
    clear hs1'
    clear hv hrow hg hB hge hK hlt
    generalize hTL : (l.take most).length = tl at *
    have HTL := Lib.hid hTL
    clear hTL
    gi_wp2
    refine ⟨by simp, .inl ⟨_, _, rfl, run_takeDeferred HK.out, ?_⟩⟩
    refine ⟨_, results_tmp rfl _ _ _, ?_⟩
    exact ⟨_, rfl, by rw [HTL.out]; exact HFIN.out⟩
end Go.Proofs.Ytoifmfdaghmleaa
