/-
  All of an iterator, the first ones of it: Collect, first, List.
-/
import Derived.Test.YtoifmfdaghmleaaGreatBagSeq
set_option linter.unusedVariables false
namespace Go.Proofs.YtoifmfdaghmleaaGreat
open Go.RowKit Go.Lib Go.Sort Go.Shelf
attribute [local go_sem] Oper.semAt_some

theorem take_pre {α : Type} {pre l : List α} (h : pre <+: l) {m : Nat} (hm : m ≤ pre.length) : pre.take m = l.take m := by
  obtain ⟨t, ht⟩ := h
  rw [← ht, List.take_append_of_le_length hm]
theorem nilqI (gf : Nat) (lb : Array Value) (W : World) : (binOp .eql 37 (.func (.func gf) #[] lb) .nilFunc).run Tryz.prog W = .ok (.bool false) W := by kernel_rfl
theorem nilzI (W : World) : (binOp .eql 37 .nilFunc .nilFunc).run Tryz.prog W = .ok (.bool true) W := by kernel_rfl
def mapVI (l : List Int) : List Value := l.map fun x => (Value.int .i64 x : Value)
theorem mapV_appI (l : List Int) (x : Int) : mapVI (l ++ [x]) = mapVI l ++ [Value.int .i64 x] := by unfold mapVI; simp
theorem mapV_nilI : mapVI [] = [] := rfl
set_option maxRecDepth 100000 in
set_option maxHeartbeats 2000000 in
theorem appendSeqI (D0 : Nat → Prop) (w : World) (fv : Value) (l : List Int) (h : Iter1 (fun x : Int => (Value.int .i64 x : Value)) D0 fv l w) (hfv : fv ≠ .nilFunc) (hl : l.length ≤ 1000000) :
    Calls Tryz.prog 95 #[.slice none 0 0, fv] w fun e w' => ∃ v, e = .returned v ∧ w'.ownsRow w.heap.size 3 1 v l.length (mapVI l) ∧ Below w.heap.size w w' := by
  refine (callsIn_wide (n := 3)).1 ?_
  rcases h with ⟨h, _⟩ | ⟨gf, lb, rfl, eg, hdb, hseq⟩
  · exact absurd h hfv
  clear hfv
  have hwf : ∀ f, Fence.wide.fn f = True := fun _ => rfl
  obtain ⟨i0, hi0, hz0, hz1, hz2⟩ := info_parts info_rI
  refine callsIn_of_wp_marks Tryz.func95 rfl trivial ?_ rfl
  simp only [Tryz.ntmps95, List.size_toArray, List.length_cons, List.length_nil, Nat.reduceAdd, Nat.reduceSub, Array.replicate_succ, Array.replicate_zero, List.push_toArray, List.append_toArray, List.nil_append, List.cons_append]
  have BO := Boxed.new w 34 (.slice none 0 0)
  have hb1 : Below w.heap.size w (w.alloc (.cells #[.slice none 0 0] 34)) := (Below.refl _ w).alloc (Nat.le_refl _) _
  have hs1 : (w.alloc (.cells #[.slice none 0 0] 34)).heap.size = w.heap.size + 1 := by simp
  obtain ⟨w1, hw1⟩ : ∃ w1, w1 = w.alloc (.cells #[.slice none 0 0] 34) := ⟨_, rfl⟩
  have HSQ := Lib.hid (fun n hn K hK => SeqG.kept (hseq n hn K hK) hb1)
  rw [← hw1] at BO hb1 hs1 HSQ
  have HBO := Lib.hid BO
  have HB1 := Lib.hid hb1
  have HW1 := Lib.hid hw1
  have HS1 := Lib.hid hs1
  have HDB : Hid (∀ b, D0 b → b < w1.heap.size) := fun b h => Nat.lt_of_lt_of_le (hdb b h) HB1.out.size
  have HDW := Lib.hid hdb
  clear hs1 hdb
  clear BO hb1 hseq
  gi_wp2
  rw [← HW1.out]
  clear hw1
  refine wpIn_rangeFunc_X rfl (by omega) (gf := gf) (lb := lb) rfl trivial eg
    (HSQ.out 2 (by omega) D0 (fun _ h => h))
    (fun b h => HDB.out b h) (Below.refl _ _) (fun _ => rfl)
    (fun X (pre : List Int) W => (∃ v, (Boxed W w.heap.size 34 v ∧ ¬ X w.heap.size) ∧ W.ownsRow w1.heap.size 3 1 v pre.length (mapVI pre) ∧ (∀ g, v.ownBlock = some g → ¬ X g) ∧ True) ∧ (Below w.heap.size w1 W ∧ ∀ b, X b → w.heap.size ≤ b) ∧ ∀ b, X b → b < W.heap.size)
    (fun c X (pre : List Int) W => False)
    (Fr.and (Fr.row w.heap.size 34 w1.heap.size 3 1 (fun pre : List Int => pre.length) (fun pre => mapVI pre) (fun pre => True)) (Fr.and (Fr.below (by have := HS1.out; omega)) Fr.bd))
    (fun c => fun X X' s W W' hs st hx => hs)
    ⟨⟨_, ⟨HBO.out, fun h => h⟩, by rw [mapV_nilI]; exact World.ownsRow_nil _ _ _ _, fun g h => by simp [Value.ownBlock] at h, trivial⟩, ⟨Below.refl _ _, fun b h => h.elim⟩, fun b h => h.elim⟩
    (fun y => { tmps := #[.slice none 0 0, .func (.func gf) #[] lb, .pointer (some ⟨w.heap.size, 0, none⟩), undef, .slice none 0 0, Value.int .i64 y, .func (.func gf) #[] lb, Value.int .i64 y, undef, undef, undef, undef, undef], defers := [] }) ?assign ?body ?done ?stop
  case assign =>
    intro lp y W G hG
    gi_wp2
    exact hG
  case body =>
    rintro lp X pre y W - hXl ⟨⟨v, hv, hrow, hg, -⟩, ⟨hB, hge⟩, hbd⟩ hlt
    have hc := hv.1.cell
    have hs := hB.size
    have hs1' := HS1.out
    have hsz1 : w.heap.size + 1 ≤ w1.heap.size := by omega
    clear hs1'
    obtain ⟨a', cap', rfl, _⟩ := Row.of_owns hrow
    have HV := Lib.hid hv
    have HO := Lib.hid hrow
    have HG := Lib.hid hg
    have HBD := Lib.hid hbd
    have HB5 := Lib.hid hB
    have HGE := Lib.hid hge
    clear hv hrow hg hbd hB hge
    gi_wp2_with (gi_at_builtin; refine wpListIn_append_own_at _ rfl _ _ 34 rfl w1.heap.size 3 i0 (.int .i64 0) 1 8 Tryz.underlying34 hi0 hz0 hz1 hz2 rfl (by decide) _ pre.length _ rfl (HO.out.alloc _) ⟨W.heap.size, 0, none⟩ 1 1 [Value.int .i64 y] rfl rfl (cell_one_new _ _ _) (by simp [Value.oneCell']) (by simp only [maxLen]; omega) (by omega) (by simp; omega) ?_; intro v' w3 hown' hgrow _ hat; obtain ⟨g', cap2, rfl⟩ := ownsRow_succ hown'; obtain ⟨hv1, hv2, hr2, hg2, hk2, hb2, hb3, hs2⟩ := boxed_appX HV.out HO.out HG.out HBD.out (by omega) (by omega) hown' hgrow hat; have hc1 := hv1.cell; have hf1 := hv1.frozen; have HV2 := Lib.hid hv2; have HR2 := Lib.hid hr2; have HG2 := Lib.hid hg2; have HK2 := Lib.hid hk2; have HBB := Lib.hid hb2; have HBW := Lib.hid hb3; have HSS := Lib.hid hs2; clear hv1 hv2 hr2 hg2 hk2 hb2 hb3 hs2 hown' hgrow hat)
    gi_wp2
    refine ⟨HK2.out, ⟨HSS.out, fun b _ hk => HBB.out b (HDB.out b hk) (by have := HDW.out b hk; omega)⟩, ⟨_, HV2.out, ?_, HG2.out, trivial⟩, ⟨HB5.out.trans (HBW.out _ (Nat.le_refl _)), HGE.out⟩, fun b hb => Nat.lt_of_lt_of_le (HBD.out b hb) HSS.out⟩
    rw [mapV_appI, List.length_append]
    exact HR2.out
  case done =>
    rintro D X xs W hD hXD rfl ⟨⟨v, hv, hrow, hg, -⟩, ⟨hB, hge⟩, hbd⟩ hK
    have hc := hv.1.cell
    obtain ⟨a', cap', rfl, _⟩ := Row.of_owns hrow
    have hDl := (Array.getElem?_eq_some_iff.1 hK).1
    have hs1' := HS1.out
    have HFIN : Hid ((W.putObj D (.deferred none)).ownsRow w.heap.size 3 1 (.slice a' xs.length cap') xs.length (mapVI xs) ∧ Below w.heap.size w (W.putObj D (.deferred none))) := by
      refine ⟨owns_lower (hrow.kept (grownBy_putObj' W D (.deferred none)) (.inr fun e => hg D e hXD)) (by omega), (HB1.out.trans hB).trans (belowK_b (w := w) (Nat.le_refl _) W D _ _ (by omega) hK rfl rfl)⟩
    have HK := Lib.hid hK
    clear hs1'
    clear hv hrow hg hB hge hbd hK
    gi_wp2
    refine ⟨by simp, .inl ⟨_, _, rfl, run_takeDeferred HK.out, ?_⟩⟩
    refine ⟨_, results_tmp rfl _ _ _, ?_⟩
    exact ⟨_, rfl, HFIN.out⟩
  case stop =>
    rintro D X c pre W hD hXD hpre hI hK
    exact hI.elim
set_option maxRecDepth 100000 in
theorem all_anyI (D0 : Nat → Prop) (w : World) (fv : Value) (l : List Int) (h : Iter1 (fun x : Int => (Value.int .i64 x : Value)) D0 fv l w) (hl : l.length ≤ 1000000) :
    Calls Tryz.prog 54 #[fv] w fun e w' => ∃ v, e = .returned v ∧ w'.ownsRow w.heap.size 3 1 v l.length (mapVI l) ∧ Below w.heap.size w w' := by
  have h2 := h
  rcases h with ⟨rfl, rfl⟩ | ⟨gf, lb, rfl, eg, hdb, hseq⟩
  · clear h2
    have hn0 := nilzI
    go_enter Tryz.func54, Tryz.ntmps54
    go_wp2
    go_ret
    exact ⟨_, rfl, World.ownsRow_nil _ _ _ _, Below.refl _ _⟩
  · have hnf := nilqI gf lb
    have HA := Lib.hid (appendSeqI D0 w _ l h2 (by simp) hl)
    have hcol : Calls Tryz.prog 72 #[.func (.func gf) #[] lb] w fun e w' => ∃ v, e = .returned v ∧ w'.ownsRow w.heap.size 3 1 v l.length (mapVI l) ∧ Below w.heap.size w w' := by
      clear h2 hseq eg hdb
      go_enter Tryz.func72, Tryz.ntmps72
      go_wp2_with (go_at_call 95; refine HA.out.mono ?_; rintro e w' ⟨v, rfl, hh⟩; have HH := Lib.hid hh; clear hh)
      go_ret
      exact ⟨_, rfl, HH.out⟩
    have HC := Lib.hid hcol
    clear h2 hseq eg HA hcol hdb
    go_enter Tryz.func54, Tryz.ntmps54
    go_wp2_with (go_at_call 72; refine HC.out.mono ?_; rintro e w' ⟨v, rfl, hh⟩; have HH := Lib.hid hh; clear hh)
    go_ret
    exact ⟨_, rfl, HH.out⟩
end Go.Proofs.YtoifmfdaghmleaaGreat
