/-
  The statement's helper all: what All tells, at most so many: ids and texts.
-/
import Derived.Test.YtoifmfdaghmleaaBufAll
import Derived.Test.YtoifmfdaghmleaaMapPairs
set_option linter.unusedVariables false
namespace Go.Proofs.Ytoifmfdaghmleaa
open Go.RowKit Go.Lib Go.Sort Go.Shelf Go.Proofs.Ytoifmfdaghmleaa.Tx
attribute [local go_sem] Oper.semAt_some

def AllPost (w : World) (dd : Int → List Nat) (R : List Int) (e : Ending) (w' : World) : Prop :=
  ∃ a c b d, e = .returned (.tuple #[.slice a R.length c, .slice b R.length d]) ∧ Row w' a R.length (fun j => Value.int .i64 (R.getD j 0)) ∧ Row w' b R.length (fun j => Value.string ((R.map (fun i => sB (dd i))).getD j ⟨#[]⟩)) ∧ Below w.heap.size w w'
set_option maxRecDepth 100000 in
set_option maxHeartbeats 4000000 in
theorem allB_any (w : World) (base : Nat) (dd : Int → List Nat) (bp mp : Nat) (mv : Value) (L : List BEnt) (h : BufS base dd w bp mp mv L) (hL : L.length ≤ 1000) (hD : ∀ i, (dd i).length ≤ 1000000) (hdb : ∀ i, ∀ c ∈ dd i, c < 256) (most : Nat) (hmo : most ≤ 2000) :
    Calls Try.prog 16 #[.pointer (some ⟨bp, 0, none⟩), .int .i64 (most : Int)] w (AllPost w dd ((ksG L).take most)) := by
  refine (callsIn_wide (n := 5)).1 ?_
  have hwf : ∀ f, Fence.wide.fn f = True := fun _ => rfl
  obtain ⟨i1, hi1, hz10, hz11, hz12⟩ := info_parts info_rI
  obtain ⟨i2, hi2, hz20, hz21, hz22⟩ := info_parts info_rS
  have bM := (((Boxed.new w 3 (.int .i64 (most : Int))).alloc (.cells #[.slice none 0 0] 31)).alloc (.cells #[.slice none 0 0] 32)).alloc (.cells #[.pointer (some ⟨bp, 0, none⟩)] 22)
  have bP := ((Boxed.new (w.alloc (.cells #[.int .i64 (most : Int)] 3)) 31 (.slice none 0 0)).alloc (.cells #[.slice none 0 0] 32)).alloc (.cells #[.pointer (some ⟨bp, 0, none⟩)] 22)
  have bQ := (Boxed.new ((w.alloc (.cells #[.int .i64 (most : Int)] 3)).alloc (.cells #[.slice none 0 0] 31)) 32 (.slice none 0 0)).alloc (.cells #[.pointer (some ⟨bp, 0, none⟩)] 22)
  have bB := Boxed.new (((w.alloc (.cells #[.int .i64 (most : Int)] 3)).alloc (.cells #[.slice none 0 0] 31)).alloc (.cells #[.slice none 0 0] 32)) 22 (.pointer (some ⟨bp, 0, none⟩))
  have hb0 : Below w.heap.size w ((((w.alloc (.cells #[.int .i64 (most : Int)] 3)).alloc (.cells #[.slice none 0 0] 31)).alloc (.cells #[.slice none 0 0] 32)).alloc (.cells #[.pointer (some ⟨bp, 0, none⟩)] 22)) := ((((Below.refl _ w).alloc (Nat.le_refl _) _).alloc (by simp) _).alloc (by simp; omega) _).alloc (by simp; omega) _
  have hs0 : ((((w.alloc (.cells #[.int .i64 (most : Int)] 3)).alloc (.cells #[.slice none 0 0] 31)).alloc (.cells #[.slice none 0 0] 32)).alloc (.cells #[.pointer (some ⟨bp, 0, none⟩)] 22)).heap.size = w.heap.size + 4 := by simp
  simp only [World.size_alloc] at bP bQ bB
  have HM := Lib.hid bM
  have HP := Lib.hid bP
  have HQ := Lib.hid bQ
  have HBX := Lib.hid bB
  have HB4 := Lib.hid hb0
  have HS0 := Lib.hid hs0
  have HBF := Lib.hid (h.kept hb0)
  have HLT := Lib.hid h.lt
  have HDL := Lib.hid hD
  have HDB := Lib.hid hdb
  clear bM bP bQ bB hb0 hs0 h hD hdb
  refine callsIn_of_wp_marks Try.func16 rfl trivial ?_ rfl
  simp only [Try.ntmps16, List.size_toArray, List.length_cons, List.length_nil, Nat.reduceAdd, Nat.reduceSub, Array.replicate_succ, Array.replicate_zero, List.push_toArray, List.append_toArray, List.nil_append, List.cons_append]
  gi_wp2_with fail
  refine (callsIn_wide.2 (ballf _ bp)).mono ?_
  rintro e w4 ⟨rfl, rfl⟩
  gi_wp2
  generalize ((((w.alloc (.cells #[.int .i64 (most : Int)] 3)).alloc (.cells #[.slice none 0 0] 31)).alloc (.cells #[.slice none 0 0] 32)).alloc (.cells #[.pointer (some ⟨bp, 0, none⟩)] 22)) = w4 at *
  have hs4 := HS0.out
  have HKK : Hid (∀ e ∈ L, 0 < e.2.2.1 → bOf e.2.1 < w4.heap.size ∧ bOf e.2.1 ≠ w.heap.size + 1 ∧ bOf e.2.1 ≠ w.heap.size + 1 + 1) := fun e he h0 => by
    have := HLT.out (bOf e.2.1) (.inr ⟨e, he, h0, rfl⟩)
    omega
  refine wpIn_rangeFunc_V rfl (by omega) (gf := 98) (lb := #[.pointer (some ⟨w.heap.size + 1 + 1 + 1, 0, none⟩)]) rfl trivial (enters_of Try.func98 (by kernel_rfl) rfl)
    (all1B 4 (by omega) (fun b => b < w4.heap.size ∧ b ≠ w.heap.size + 1 ∧ b ≠ w.heap.size + 1 + 1) base dd w4 bp mp mv L (w.heap.size + 1 + 1 + 1) HBF.out HBX.out.cell HKK.out (by omega) HDL.out)
    (fun b h => h.1) (Below.refl _ _) (fun _ => rfl)
    (fun X (pre : List BufY) W => (∃ v1 v2, TwoB 3 9 31 32 vI Value.string (w.heap.size + 1) (w.heap.size + 1 + 1) w4.heap.size X (pre.map Prod.fst) (pre.map (fun y : BufY => sB (dd y.1))) W v1 v2 ∧ pre.length ≤ most) ∧ (Boxed W w.heap.size 3 (.int .i64 (most : Int)) ∧ ¬ X w.heap.size) ∧ (Below w.heap.size w4 W ∧ ∀ b, X b → w.heap.size ≤ b) ∧ ∀ b, X b → b < W.heap.size)
    (fun c X (pre : List BufY) W => (∃ v1 v2, TwoB 3 9 31 32 vI Value.string (w.heap.size + 1) (w.heap.size + 1 + 1) w4.heap.size X ((pre.take most).map Prod.fst) ((pre.take most).map (fun y : BufY => sB (dd y.1))) W v1 v2 ∧ (c = .exit 0 ∧ most < pre.length)) ∧ (Below w.heap.size w4 W ∧ ∀ b, X b → w.heap.size ≤ b))
    (Fr.and (Fr.twoB _ _ _ _ _ _ _ _ _ (fun pre : List BufY => pre.map Prod.fst) (fun pre => pre.map (fun y : BufY => sB (dd y.1))) (fun pre => pre.length ≤ most)) (Fr.and (Fr.boxed w.heap.size 3 (fun _ => .int .i64 (most : Int))) (Fr.and (Fr.below (by omega)) Fr.bd)))
    (fun c => Fr.and (Fr.twoB _ _ _ _ _ _ _ _ _ (fun pre : List BufY => (pre.take most).map Prod.fst) (fun pre => (pre.take most).map (fun y : BufY => sB (dd y.1))) (fun pre => c = .exit 0 ∧ most < pre.length)) (Fr.below (by omega)))
    ⟨⟨_, _, ⟨⟨HP.out, fun h => h⟩, ⟨HQ.out, fun h => h⟩, World.ownsRow_nil _ _ _ _, World.ownsRow_nil _ _ _ _, fun g h => by simp [Value.ownBlock] at h, fun g h => by simp [Value.ownBlock] at h, .inl rfl⟩, Nat.zero_le _⟩, ⟨HM.out, fun h => h⟩, ⟨Below.refl _ _, fun b h => h.elim⟩, fun b h => h.elim⟩
    (fun y => { tmps := #[.pointer (some ⟨bp, 0, none⟩), .int .i64 (most : Int), undef, .pointer (some ⟨w.heap.size, 0, none⟩), .slice none 0 0, .slice none 0 0, .pointer (some ⟨w.heap.size + 1, 0, none⟩), .pointer (some ⟨w.heap.size + 1 + 1, 0, none⟩), .int .i64 y.1, .slice y.2 (dd y.1).length (dd y.1).length, .pointer (some ⟨bp, 0, none⟩), .func (.func 98) #[] #[.pointer (some ⟨w.heap.size + 1 + 1 + 1, 0, none⟩)], .int .i64 y.1, .slice y.2 (dd y.1).length (dd y.1).length, undef, undef, undef, undef, undef, undef, undef, undef, undef, undef, undef, undef, undef, undef, undef], defers := [] }) docOk5_put ?assign ?body ?done ?stop
  case assign =>
    intro lp y W G hG
    unfold docE5
    gi_wp2
    exact hG
  case body =>
    rintro lp X pre y W - hXl ⟨⟨v1, v2, ht, hle⟩, hM, ⟨hB, hge⟩, hbd⟩ ⟨hok, hyr, hyx⟩
    have hs5 : w.heap.size + 4 ≤ w4.heap.size := by omega
    clear hs4
    have hprel : pre.length < L.length := by
      have h1 := hok.length_le
      rw [List.length_append, List.length_map, ksG_len] at h1
      simp at h1
      omega
    have HT := Lib.hid ht
    have HM2 := Lib.hid hM
    have HBW := Lib.hid hB
    have HGE := Lib.hid hge
    have HBD := Lib.hid hbd
    have hcM := hM.1.cell
    have hs := hB.size
    have hPl : (pre.map Prod.fst).length = pre.length := List.length_map _
    have hQl : (pre.map (fun y : BufY => sB (dd y.1))).length = pre.length := List.length_map _
    have HPA : Hid ((pre ++ [y]).map Prod.fst = pre.map Prod.fst ++ [y.1]) := by show _ = _; rw [List.map_append]; rfl
    have HQA : Hid ((pre ++ [y]).map (fun y : BufY => sB (dd y.1)) = pre.map (fun y : BufY => sB (dd y.1)) ++ [sB (dd y.1)]) := by show _ = _; rw [List.map_append]; rfl
    have HLN : Hid ((pre ++ [y]).length = pre.length + 1) := by show _ = _; rw [List.length_append]; rfl
    by_cases hge2 : (most : Int) ≤ (pre.length : Int)
    · have e : (pre ++ [y]).take most = pre := by rw [List.take_append_of_le_length (by omega), List.take_of_length_le (by omega)]
      obtain ⟨a1, c1, rfl, -⟩ := Row.of_owns ht.r1
      have hc1 := ht.x1.1.cell
      rw [hPl] at hc1
      have HE := Lib.hid e
      clear ht hM hB hge hbd e hPl hQl hok hyr hyx
      gi_wp2
      refine ⟨KeepX.refl _ _, KeepX.refl _ _, ⟨_, _, by rw [HE.out]; exact HT.out, rfl, by rw [HLN.out]; omega⟩, HBW.out, HGE.out⟩
    · obtain ⟨k, hk⟩ : ∃ k, k = pre.length := ⟨_, rfl⟩
      rw [← hk] at hPl hQl hprel
      have HKV := Lib.hid hk
      obtain ⟨P, hP⟩ : ∃ P, P = pre.map Prod.fst := ⟨_, rfl⟩
      obtain ⟨Q, hQ⟩ : ∃ Q, Q = pre.map (fun y : BufY => sB (dd y.1)) := ⟨_, rfl⟩
      rw [← hP, ← hQ] at HT
      rw [← hP] at HPA hPl
      rw [← hQ] at HQA hQl
      obtain ⟨a1, c1, rfl, -⟩ := Row.of_owns HT.out.r1
      obtain ⟨a2, c2, rfl, -⟩ := Row.of_owns HT.out.r2
      rw [hPl, hQl] at HT
      have hc1 := HT.out.x1.1.cell
      have hc2 := HT.out.x2.1.cell
      have hr1 := HT.out.r1
      have hr2 := HT.out.r2
      rw [hPl] at hr1
      have HR1 := Lib.hid hr1
      have HPL := Lib.hid hPl
      have HQL := Lib.hid hQl
      have HYR := Lib.hid hyr
      have HYX := Lib.hid hyx
      have hkm : k ≤ 2000 := by omega
      have hge3 : ¬ (most : Int) ≤ (k : Int) := by rw [hk]; exact hge2
      clear ht hM hB hge hbd hr1 hr2 hPl hQl hge2 hP hQ hk hle hok hyr hyx
      gi_wp2_with (first
        | (gi_at_builtin; (refine wpListIn_append_own_at _ rfl _ _ 31 rfl w4.heap.size 3 i1 (.int .i64 0) 1 8 Try.underlying31 hi1 hz10 hz11 hz12 rfl (by decide) _ k _ rfl (HR1.out.alloc _) ⟨W.heap.size, 0, none⟩ 1 1 [.int .i64 y.1] rfl rfl (cell_one_new _ _ _) (by simp [Value.oneCell']) (by simp only [maxLen]; omega) (by omega) (by simp; omega) ?_; intro v' w5 hown' hgrow _ hat; obtain ⟨g', cap2, rfl⟩ := ownsRow_succ hown'; obtain ⟨q1, q2, q3, q4, q5, q6⟩ := TwoB.app1 (x := y.1) HT.out HBD.out (by omega) (by omega) (by omega) (by omega) (by rw [HPL.out]; exact hown') hgrow hat; have hd1 := q1.cell; have hf1 := q1.frozen; have hx2 : Boxed w5 (w.heap.size + 1 + 1) 32 (.slice a2 k c2) := (HT.out.x2.1.alloc _).kept hgrow (fun e => (by have := (HR1.out.lt _ e.symm).1; omega)); have hd2 := hx2.cell; have hf2 := hx2.frozen; have hcv := conv_str _ y.2 (dd y.1) (dd y.1).length (row_keepX5 q3 HYR.out HYX.out); have HT2 := Lib.hid q2.flip; have HK2 := Lib.hid q3; have HB2 := Lib.hid q4; have HBW2 := Lib.hid q5; have HS2 := Lib.hid q6; have hr2 := q2.r2; rw [HQL.out] at hr2; have HR2 := Lib.hid hr2; clear q1 q2 q3 q4 q5 q6 hown' hgrow hat hx2 hr2))
        | (gi_at_builtin; (refine wpListIn_append_own_at _ rfl _ _ 32 rfl w4.heap.size 9 i2 (.string ⟨#[]⟩) 1 16 Try.underlying32 hi2 hz20 hz21 hz22 rfl (by decide) _ k _ rfl (HR2.out.alloc _) ⟨w5.heap.size, 0, none⟩ 1 1 [.string (sB (dd y.1))] rfl rfl (cell_one_new2 _ _ _ _ _) (by simp [Value.oneCell']) (by simp only [maxLen]; omega) (by omega) (by have := HS2.out; simp at this ⊢; omega) ?_; intro v6 w6 hown6 hgrow6 _ hat6; obtain ⟨g6, cap6, rfl⟩ := ownsRow_succ hown6; obtain ⟨q1, q2, q3, q4, q5, q6⟩ := TwoB.app1 (x := sB (dd y.1)) HT2.out (fun b hx => Nat.lt_of_lt_of_le (HBD.out b hx) HS2.out) (Nat.le_trans hs HS2.out) (by omega) (by omega) (by omega) (by rw [HQL.out]; exact hown6) hgrow6 hat6; have hd6 := q1.cell; have hf6 := q1.frozen; have HT6 := Lib.hid q2.flip; have HK6 := Lib.hid q3; have HB6 := Lib.hid q4; have HBW6 := Lib.hid q5; have HS6 := Lib.hid q6; clear q1 q2 q3 q4 q5 q6 hown6 hgrow6 hat6))
        | fail)
      gi_wp2
      have hMx : Boxed _ w.heap.size 3 (.int .i64 (most : Int)) := (HB6.out w.heap.size (by omega) (by omega)).trans ((HB2.out w.heap.size (by omega) (by omega)).trans HM2.out.1)
      refine ⟨HK2.out.trans HK6.out, ⟨Nat.le_trans HS2.out HS6.out, fun b hb hk => (HB6.out b (by omega) (by omega)).trans (HB2.out b (by omega) (by omega))⟩, ⟨⟨_, _, by rw [HPA.out, HQA.out]; exact HT6.out⟩, by rw [HLN.out, ← HKV.out]; omega⟩, ⟨hMx, HM2.out.2⟩, ⟨HBW.out.trans ((HBW2.out w.heap.size (by omega)).trans (HBW6.out w.heap.size (by omega))), HGE.out⟩, fun b hx => Nat.lt_of_lt_of_le (HBD.out b hx) (Nat.le_trans HS2.out HS6.out)⟩
  case done =>
    rintro D X xs W hD hXD hxs ⟨⟨v1, v2, ht, hle⟩, hM, ⟨hB, hge⟩, hbd⟩ hK
    have hT2 : xs.map Prod.fst = (ksG L).take most := by
      rw [hxs, List.take_of_length_le]
      rw [← hxs, List.length_map]; exact hle
    obtain ⟨R, hR⟩ : ∃ R, R = xs := ⟨_, rfl⟩
    have HEND : Hid (R.map Prod.fst = (ksG L).take most) := by show _ = _; rw [hR]; exact hT2
    rw [← hR] at ht
    have hPl : (R.map Prod.fst).length = R.length := List.length_map _
    have hQl : (R.map (fun y : BufY => sB (dd y.1))).length = R.length := List.length_map _
    have HFIN : Hid (∀ a1 c1 a2 c2, v1 = .slice a1 R.length c1 → v2 = .slice a2 R.length c2 → ∀ q, AllPost w dd ((ksG L).take most) (.returned (.tuple #[v1, v2])) ((W.drewN q).putObj D (.deferred none))) := fun a1 c1 a2 c2 e1 e2 q => by
      have h1 := (show (W.drewN q).ownsRow _ _ _ _ _ _ from ht.r1).kept (grownBy_putObj' (W.drewN q) D (.deferred none)) (.inr fun e => ht.o1 D e hXD)
      have h2 := (show (W.drewN q).ownsRow _ _ _ _ _ _ from ht.r2).kept (grownBy_putObj' (W.drewN q) D (.deferred none)) (.inr fun e => ht.o2 D e hXD)
      rw [hPl, e1] at h1
      rw [hQl, e2] at h2
      rw [e1, e2, ← HEND.out]
      have hm : (R.map Prod.fst).map (fun i => sB (dd i)) = R.map (fun y : BufY => sB (dd y.1)) := by rw [List.map_map]; rfl
      unfold AllPost
      rw [hPl, hm]
      exact ⟨a1, c1, a2, c2, rfl, row_mapK h1 hPl.symm, row_mapK h2 hQl.symm, (below_drewN (HB4.out.trans hB) q).trans (belowK_b (w := w) (Nat.le_refl _) (W.drewN q) D _ _ (by have := hge D hXD; have := (Array.getElem?_eq_some_iff.1 hK).1; omega) hK rfl rfl)⟩
    obtain ⟨a1, c1, e1, -⟩ := Row.of_owns ht.r1
    obtain ⟨a2, c2, e2, -⟩ := Row.of_owns ht.r2
    rw [hPl] at e1
    rw [hQl] at e2
    subst e1 e2
    have hc1 := ht.x1.1.cell
    have hc2 := ht.x2.1.cell
    have HF := Lib.hid (HFIN.out a1 c1 a2 c2 rfl rfl)
    have HK := Lib.hid hK
    clear ht hB hge hK hPl hQl hT2 HFIN hR
    generalize R.length = rl at *
    have HKQ : Hid (∀ q, (W.drewN q).heap[D]? = some (.deferred (some []))) := fun q => HK.out
    gi_wp2
    gi_quiet (fail)
    gi_wp2
    refine ⟨by simp, .inl ⟨_, _, rfl, run_takeDeferred (HKQ.out _), ?_⟩⟩
    refine ⟨_, results_tmp2 rfl _ _ _, ?_⟩
    exact HF.out _
  case stop =>
    rintro D X c pre W hD hXD hpre ⟨⟨v1, v2, ht, rfl, hlt⟩, hB, hge⟩ hK
    have hT2 : (pre.take most).map Prod.fst = (ksG L).take most := by
      rw [List.map_take]
      exact take_pre hpre (by rw [List.length_map]; omega)
    obtain ⟨R, hR⟩ : ∃ R, R = (pre.take most) := ⟨_, rfl⟩
    have HEND : Hid (R.map Prod.fst = (ksG L).take most) := by show _ = _; rw [hR]; exact hT2
    rw [← hR] at ht
    have hPl : (R.map Prod.fst).length = R.length := List.length_map _
    have hQl : (R.map (fun y : BufY => sB (dd y.1))).length = R.length := List.length_map _
    have HFIN : Hid (∀ a1 c1 a2 c2, v1 = .slice a1 R.length c1 → v2 = .slice a2 R.length c2 → ∀ q, AllPost w dd ((ksG L).take most) (.returned (.tuple #[v1, v2])) ((W.drewN q).putObj D (.deferred none))) := fun a1 c1 a2 c2 e1 e2 q => by
      have h1 := (show (W.drewN q).ownsRow _ _ _ _ _ _ from ht.r1).kept (grownBy_putObj' (W.drewN q) D (.deferred none)) (.inr fun e => ht.o1 D e hXD)
      have h2 := (show (W.drewN q).ownsRow _ _ _ _ _ _ from ht.r2).kept (grownBy_putObj' (W.drewN q) D (.deferred none)) (.inr fun e => ht.o2 D e hXD)
      rw [hPl, e1] at h1
      rw [hQl, e2] at h2
      rw [e1, e2, ← HEND.out]
      have hm : (R.map Prod.fst).map (fun i => sB (dd i)) = R.map (fun y : BufY => sB (dd y.1)) := by rw [List.map_map]; rfl
      unfold AllPost
      rw [hPl, hm]
      exact ⟨a1, c1, a2, c2, rfl, row_mapK h1 hPl.symm, row_mapK h2 hQl.symm, (below_drewN (HB4.out.trans hB) q).trans (belowK_b (w := w) (Nat.le_refl _) (W.drewN q) D _ _ (by have := hge D hXD; have := (Array.getElem?_eq_some_iff.1 hK).1; omega) hK rfl rfl)⟩
    obtain ⟨a1, c1, e1, -⟩ := Row.of_owns ht.r1
    obtain ⟨a2, c2, e2, -⟩ := Row.of_owns ht.r2
    rw [hPl] at e1
    rw [hQl] at e2
    subst e1 e2
    have hc1 := ht.x1.1.cell
    have hc2 := ht.x2.1.cell
    have HF := Lib.hid (HFIN.out a1 c1 a2 c2 rfl rfl)
    have HK := Lib.hid hK
    clear ht hB hge hK hPl hQl hT2 HFIN hR
    generalize R.length = rl at *
    have HKQ : Hid (∀ q, (W.drewN q).heap[D]? = some (.deferred (some []))) := fun q => HK.out
    gi_wp2
    gi_quiet (fail)
    gi_wp2
    refine ⟨by simp, .inl ⟨_, _, rfl, run_takeDeferred (HKQ.out _), ?_⟩⟩
    refine ⟨_, results_tmp2 rfl _ _ _, ?_⟩
    exact HF.out _
end Go.Proofs.Ytoifmfdaghmleaa
