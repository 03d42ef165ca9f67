/-
  pairs: the first keys and values of a map, at most so many.
-/
import Derived.Test.YtoifmfdaghmleaaMapAll
import Derived.Test.YtoifmfdaghmleaaTwoBox
import Derived.Test.YtoifmfdaghmleaaBagCol
set_option linter.unusedVariables false
namespace Go.Proofs.Ytoifmfdaghmleaa
open Go.RowKit Go.Lib Go.Sort Go.Shelf
attribute [local go_sem] Oper.semAt_some

theorem nilq2S (gf : Nat) (lb : Array Value) (W : World) : (binOp .eql 127 (.func (.func gf) #[] lb) .nilFunc).run Try.prog W = .ok (.bool false) W := by kernel_rfl
def PairsP (w : World) (R : List (ByteArray × Int)) (e : Ending) (w' : World) : Prop :=
  ∃ a c b d, e = .returned (.tuple #[.slice a R.length c, .slice b R.length d]) ∧ Row w' a R.length (fun j => Value.string ((R.map Prod.fst).getD j ⟨#[]⟩)) ∧ Row w' b R.length (fun j => Value.int .i64 ((R.map Prod.snd).getD j 0)) ∧ Below w.heap.size w w'
theorem row_mapK {α : Type} {k : α → Value} {z : α} {w : World} {base cap : Nat} {e : TypeId} {a : Option Addr} {n : Nat} {P : List α} (h : w.ownsRow base e 1 (.slice a n cap) n (P.map k)) (hn : n = P.length) : Row w a n (fun j => k (P.getD j z)) :=
  (owns_row h).1.congr fun j hj => by
    rw [List.getD_eq_getElem?_getD, List.getElem?_map, List.getElem?_eq_getElem (by omega), List.getD_eq_getElem?_getD, List.getElem?_eq_getElem (by omega)]; rfl
theorem cell_one_new2 (W : World) (p : Addr) (u x : Value) (t : TypeId) : ∀ (j : Nat) (v : Value), ([x] : List Value)[j]? = some v → ((W.setCell p u).alloc (.cells #[x] t)).cell? ((⟨W.heap.size, 0, none⟩ : Addr).add j) = some v := by
  have := cell_one_new (W.setCell p u) x t
  simpa [World.setCell] using this
set_option maxRecDepth 100000 in
set_option maxHeartbeats 4000000 in
theorem pairs_any (w : World) (p : Nat) (v : Value) (L : List (ByteArray × Int)) (h : MapS w p v (ents vI L)) (hl : L.length ≤ 1000) (most : Nat) (hmo : most ≤ 2000) :
    Calls Try.prog 53 #[.pointer (some ⟨p, 0, none⟩), .int .i64 (most : Int)] w (PairsP w (L.take most)) := by
  refine (callsIn_wide (n := 5)).1 ?_
  have hwf : ∀ f, Fence.wide.fn f = True := fun _ => rfl
  obtain ⟨i1, hi1, hz10, hz11, hz12⟩ := info_parts info_rS
  obtain ⟨i2, hi2, hz20, hz21, hz22⟩ := info_parts info_rI
  have bM := ((Boxed.new w 3 (.int .i64 (most : Int))).alloc (.cells #[.slice none 0 0] 32)).alloc (.cells #[.slice none 0 0] 31)
  have bP := (Boxed.new (w.alloc (.cells #[.int .i64 (most : Int)] 3)) 32 (.slice none 0 0)).alloc (.cells #[.slice none 0 0] 31)
  have bQ := Boxed.new ((w.alloc (.cells #[.int .i64 (most : Int)] 3)).alloc (.cells #[.slice none 0 0] 32)) 31 (.slice none 0 0)
  have hb0 : Below w.heap.size w (((w.alloc (.cells #[.int .i64 (most : Int)] 3)).alloc (.cells #[.slice none 0 0] 32)).alloc (.cells #[.slice none 0 0] 31)) := (((Below.refl _ w).alloc (Nat.le_refl _) _).alloc (by simp) _).alloc (by simp; omega) _
  have hs0 : (((w.alloc (.cells #[.int .i64 (most : Int)] 3)).alloc (.cells #[.slice none 0 0] 32)).alloc (.cells #[.slice none 0 0] 31)).heap.size = w.heap.size + 3 := by simp
  simp only [World.size_alloc] at bP bQ
  have HM := Lib.hid bM
  have HP := Lib.hid bP
  have HQ := Lib.hid bQ
  have HB0 := Lib.hid hb0
  have HS0 := Lib.hid hs0
  have HMP := Lib.hid (h.kept hb0)
  clear bM bP bQ hb0 hs0 h
  refine callsIn_of_wp_marks Try.func53 rfl trivial ?_ rfl
  simp only [Try.ntmps53, List.size_toArray, List.length_cons, List.length_nil, Nat.reduceAdd, Nat.reduceSub, Array.replicate_succ, Array.replicate_zero, List.push_toArray, List.append_toArray, List.nil_append, List.cons_append]
  gi_wp2_with fail
  generalize (((w.alloc (.cells #[.int .i64 (most : Int)] 3)).alloc (.cells #[.slice none 0 0] 32)).alloc (.cells #[.slice none 0 0] 31)) = w3 at *
  refine (callsIn_wide.2 (allMS w3 p v L HMP.out (by omega))).mono ?_
  rintro e w4 ⟨fv, rfl, hit, hb4⟩
  have HB4 := Lib.hid (below_next HB0.out hb4 HB0.out.size)
  have HM4 : Hid (Boxed w4 w.heap.size 3 (.int .i64 (most : Int))) := (hb4.block _ HM.out.lt).trans HM.out
  have HP4 : Hid (Boxed w4 (w.heap.size + 1) 32 (.slice none 0 0)) := (hb4.block _ HP.out.lt).trans HP.out
  have HQ4 : Hid (Boxed w4 (w.heap.size + 1 + 1) 31 (.slice none 0 0)) := (hb4.block _ HQ.out.lt).trans HQ.out
  have HS4 : Hid (w.heap.size + 3 ≤ w4.heap.size) := by have := hb4.size; have := HS0.out; show _ ≤ _; omega
  obtain ⟨gf, lb, rfl, eg, hseq⟩ := hit
  have HSQ := Lib.hid hseq
  have hnf := nilq2S gf lb
  clear hseq hb4 HM HP HQ HB0 HS0 HMP
  gi_wp2
  refine wpIn_rangeFunc_X rfl (by omega) (gf := gf) (lb := lb) rfl trivial eg
    (HSQ.out 4 (by omega) (fun _ => False))
    (fun b h => h.elim) (Below.refl _ _) (fun _ => rfl)
    (fun X (pre : List (ByteArray × Int)) W => (∃ v1 v2, TwoB 9 3 32 31 Value.string vI (w.heap.size + 1) (w.heap.size + 1 + 1) w4.heap.size X (pre.map Prod.fst) (pre.map Prod.snd) W v1 v2 ∧ pre.length ≤ most) ∧ (Boxed W w.heap.size 3 (.int .i64 (most : Int)) ∧ ¬ X w.heap.size) ∧ (Below w.heap.size w4 W ∧ ∀ b, X b → w.heap.size ≤ b) ∧ ∀ b, X b → b < W.heap.size)
    (fun c X (pre : List (ByteArray × Int)) W => (∃ v1 v2, TwoB 9 3 32 31 Value.string vI (w.heap.size + 1) (w.heap.size + 1 + 1) w4.heap.size X ((pre.take most).map Prod.fst) ((pre.take most).map Prod.snd) W v1 v2 ∧ (c = .exit 0 ∧ most < pre.length)) ∧ (Below w.heap.size w4 W ∧ ∀ b, X b → w.heap.size ≤ b))
    (Fr.and (Fr.twoB _ _ _ _ _ _ _ _ _ (fun pre : List (ByteArray × Int) => pre.map Prod.fst) (fun pre => pre.map Prod.snd) (fun pre => pre.length ≤ most)) (Fr.and (Fr.boxed w.heap.size 3 (fun _ => .int .i64 (most : Int))) (Fr.and (Fr.below (by have := HS4.out; omega)) Fr.bd)))
    (fun c => Fr.and (Fr.twoB _ _ _ _ _ _ _ _ _ (fun pre : List (ByteArray × Int) => (pre.take most).map Prod.fst) (fun pre => (pre.take most).map Prod.snd) (fun pre => c = .exit 0 ∧ most < pre.length)) (Fr.below (by have := HS4.out; omega)))
    ⟨⟨_, _, ⟨⟨HP4.out, fun h => h⟩, ⟨HQ4.out, fun h => h⟩, World.ownsRow_nil _ _ _ _, World.ownsRow_nil _ _ _ _, fun g h => by simp [Value.ownBlock] at h, fun g h => by simp [Value.ownBlock] at h, .inl rfl⟩, Nat.zero_le _⟩, ⟨HM4.out, fun h => h⟩, ⟨Below.refl _ _, fun b h => h.elim⟩, fun b h => h.elim⟩
    (fun y => { tmps := #[.pointer (some ⟨p, 0, none⟩), .int .i64 (most : Int), undef, .pointer (some ⟨w.heap.size, 0, none⟩), .slice none 0 0, .slice none 0 0, .pointer (some ⟨w.heap.size + 1, 0, none⟩), .pointer (some ⟨w.heap.size + 1 + 1, 0, none⟩), .func (.func gf) #[] lb, .string y.1, .int .i64 y.2, .pointer (some ⟨p, 0, none⟩), .func (.func gf) #[] lb, .func (.func gf) #[] lb, .bool false, .func (.func gf) #[] lb, .string y.1, .int .i64 y.2, undef, undef, undef, undef, undef, undef, undef, undef, undef, undef, undef, undef, undef, undef], defers := [] }) ?assign ?body ?done ?stop
  case assign =>
    intro lp y W G hG
    gi_wp2
    exact hG
  case body =>
    rintro lp X pre y W - hXl ⟨⟨v1, v2, ht, hle⟩, hM, ⟨hB, hge⟩, hbd⟩ hlt
    have HT := Lib.hid ht
    have HM2 := Lib.hid hM
    have HBW := Lib.hid hB
    have HGE := Lib.hid hge
    have HBD := Lib.hid hbd
    have hcM := hM.1.cell
    have hs := hB.size
    have hs4 := HS4.out
    have hPl : (pre.map Prod.fst).length = pre.length := List.length_map _
    have hQl : (pre.map Prod.snd).length = pre.length := List.length_map _
    have HPA : Hid ((pre ++ [y]).map Prod.fst = pre.map Prod.fst ++ [y.1]) := by show _ = _; rw [List.map_append]; rfl
    have HQA : Hid ((pre ++ [y]).map Prod.snd = pre.map Prod.snd ++ [y.2]) := by show _ = _; rw [List.map_append]; rfl
    have HLN : Hid ((pre ++ [y]).length = pre.length + 1) := by show _ = _; rw [List.length_append]; rfl
    by_cases hge2 : (most : Int) ≤ (pre.length : Int)
    · have e : (pre ++ [y]).take most = pre := by rw [List.take_append_of_le_length (by omega), List.take_of_length_le (by omega)]
      obtain ⟨a1, c1, rfl, -⟩ := Row.of_owns ht.r1
      have hc1 := ht.x1.1.cell
      rw [hPl] at hc1
      have HE := Lib.hid e
      clear ht hM hB hge hbd e hPl hQl
      gi_wp2
      refine ⟨KeepX.refl _ _, ⟨Nat.le_refl _, fun b _ h => h.elim⟩, ⟨_, _, by rw [HE.out]; exact HT.out, rfl, by rw [HLN.out]; omega⟩, HBW.out, HGE.out⟩
    · obtain ⟨k, hk⟩ : ∃ k, k = pre.length := ⟨_, rfl⟩
      rw [← hk] at hPl hQl
      have HKK := Lib.hid hk
      obtain ⟨P, hP⟩ : ∃ P, P = pre.map Prod.fst := ⟨_, rfl⟩
      obtain ⟨Q, hQ⟩ : ∃ Q, Q = pre.map Prod.snd := ⟨_, rfl⟩
      rw [← hP, ← hQ] at HT
      rw [← hP] at HPA hPl
      rw [← hQ] at HQA hQl
      obtain ⟨a1, c1, rfl, -⟩ := Row.of_owns HT.out.r1
      obtain ⟨a2, c2, rfl, -⟩ := Row.of_owns HT.out.r2
      rw [hPl, hQl] at HT
      have hc1 := HT.out.x1.1.cell
      have hc2 := HT.out.x2.1.cell
      have hr1 := HT.out.r1
      have hr2 := HT.out.r2
      rw [hPl] at hr1
      have HR1 := Lib.hid hr1
      have HPL := Lib.hid hPl
      have HQL := Lib.hid hQl
      have hkm : k ≤ 2000 := by omega
      have hge3 : ¬ (most : Int) ≤ (k : Int) := by rw [hk]; exact hge2
      clear ht hM hB hge hbd hr1 hr2 hPl hQl hge2 hP hQ hk hle
      gi_wp2_with (first
        | (gi_at_builtin; (refine wpListIn_append_own_at _ rfl _ _ 32 rfl w4.heap.size 9 i1 (.string ⟨#[]⟩) 1 16 Try.underlying32 hi1 hz10 hz11 hz12 rfl (by decide) _ k _ rfl (HR1.out.alloc _) ⟨W.heap.size, 0, none⟩ 1 1 [.string y.1] rfl rfl (cell_one_new _ _ _) (by simp [Value.oneCell']) (by simp only [maxLen]; omega) (by omega) (by simp; omega) ?_; intro v' w5 hown' hgrow _ hat; obtain ⟨g', cap2, rfl⟩ := ownsRow_succ hown'; obtain ⟨q1, q2, q3, q4, q5, q6⟩ := TwoB.app1 (x := y.1) HT.out HBD.out (by omega) (by omega) (by omega) (by omega) (by rw [HPL.out]; exact hown') hgrow hat; have hd1 := q1.cell; have hf1 := q1.frozen; have hx2 : Boxed w5 (w.heap.size + 1 + 1) 31 (.slice a2 k c2) := (HT.out.x2.1.alloc _).kept hgrow (fun e => (by have := (HR1.out.lt _ e.symm).1; omega)); have hd2 := hx2.cell; have hf2 := hx2.frozen; have HT2 := Lib.hid q2.flip; have HK2 := Lib.hid q3; have HB2 := Lib.hid q4; have HBW2 := Lib.hid q5; have HS2 := Lib.hid q6; have hr2 := q2.r2; rw [HQL.out] at hr2; have HR2 := Lib.hid hr2; clear q1 q2 q3 q4 q5 q6 hown' hgrow hat hx2 hr2))
        | (gi_at_builtin; (refine wpListIn_append_own_at _ rfl _ _ 31 rfl w4.heap.size 3 i2 (.int .i64 0) 1 8 Try.underlying31 hi2 hz20 hz21 hz22 rfl (by decide) _ k _ rfl (HR2.out.alloc _) ⟨w5.heap.size, 0, none⟩ 1 1 [.int .i64 y.2] rfl rfl (cell_one_new2 _ _ _ _ _) (by simp [Value.oneCell']) (by simp only [maxLen]; omega) (by omega) (by have := HS2.out; simp at this ⊢; omega) ?_; intro v6 w6 hown6 hgrow6 _ hat6; obtain ⟨g6, cap6, rfl⟩ := ownsRow_succ hown6; obtain ⟨q1, q2, q3, q4, q5, q6⟩ := TwoB.app1 (x := y.2) HT2.out (fun b hx => Nat.lt_of_lt_of_le (HBD.out b hx) HS2.out) (Nat.le_trans hs HS2.out) (by omega) (by omega) (by omega) (by rw [HQL.out]; exact hown6) hgrow6 hat6; have hd6 := q1.cell; have hf6 := q1.frozen; have HT6 := Lib.hid q2.flip; have HK6 := Lib.hid q3; have HB6 := Lib.hid q4; have HBW6 := Lib.hid q5; have HS6 := Lib.hid q6; clear q1 q2 q3 q4 q5 q6 hown6 hgrow6 hat6))
        | fail)
      gi_wp2
      have hMx : Boxed _ w.heap.size 3 (.int .i64 (most : Int)) := (HB6.out w.heap.size (by omega) (by omega)).trans ((HB2.out w.heap.size (by omega) (by omega)).trans HM2.out.1)
      refine ⟨HK2.out.trans HK6.out, ⟨Nat.le_trans HS2.out HS6.out, fun b _ h => h.elim⟩, ⟨⟨_, _, by rw [HPA.out, HQA.out]; exact HT6.out⟩, by rw [HLN.out, ← HKK.out]; omega⟩, ⟨hMx, HM2.out.2⟩, ⟨HBW.out.trans ((HBW2.out w.heap.size (by omega)).trans (HBW6.out w.heap.size (by omega))), HGE.out⟩, fun b hx => Nat.lt_of_lt_of_le (HBD.out b hx) (Nat.le_trans HS2.out HS6.out)⟩
  case done =>
    rintro D X xs W hD hXD rfl ⟨⟨v1, v2, ht, hle⟩, hM, ⟨hB, hge⟩, hbd⟩ hK
    have hT : xs.take most = xs := List.take_of_length_le hle
    have hT2 := hT
    obtain ⟨R, hR⟩ : ∃ R, R = xs := ⟨_, rfl⟩
    have HEND : Hid (xs.take most = R) := hT2.trans hR.symm
    rw [← hR] at ht
    have hPl : (R.map Prod.fst).length = R.length := List.length_map _
    have hQl : (R.map Prod.snd).length = R.length := List.length_map _
    have HFIN : Hid (∀ a1 c1 a2 c2, v1 = .slice a1 R.length c1 → v2 = .slice a2 R.length c2 → ∀ q, PairsP w R (.returned (.tuple #[v1, v2])) ((W.drewN q).putObj D (.deferred none))) := fun a1 c1 a2 c2 e1 e2 q => by
      have h1 := (show (W.drewN q).ownsRow _ _ _ _ _ _ from ht.r1).kept (grownBy_putObj' (W.drewN q) D (.deferred none)) (.inr fun e => ht.o1 D e hXD)
      have h2 := (show (W.drewN q).ownsRow _ _ _ _ _ _ from ht.r2).kept (grownBy_putObj' (W.drewN q) D (.deferred none)) (.inr fun e => ht.o2 D e hXD)
      rw [hPl, e1] at h1
      rw [hQl, e2] at h2
      rw [e1, e2]
      exact ⟨a1, c1, a2, c2, rfl, row_mapK h1 hPl.symm, row_mapK h2 hQl.symm, (below_drewN (HB4.out.trans hB) q).trans (belowK_b (w := w) (Nat.le_refl _) (W.drewN q) D _ _ (by have := hge D hXD; have := (Array.getElem?_eq_some_iff.1 hK).1; omega) hK rfl rfl)⟩
    obtain ⟨a1, c1, e1, -⟩ := Row.of_owns ht.r1
    obtain ⟨a2, c2, e2, -⟩ := Row.of_owns ht.r2
    rw [hPl] at e1
    rw [hQl] at e2
    subst e1 e2
    have hc1 := ht.x1.1.cell
    have hc2 := ht.x2.1.cell
    have HF := Lib.hid (HFIN.out a1 c1 a2 c2 rfl rfl)
    have HK := Lib.hid hK
    clear ht hB hge hK hPl hQl hT hT2 HFIN hR
    generalize R.length = rl at *
    have HKQ : Hid (∀ q, (W.drewN q).heap[D]? = some (.deferred (some []))) := fun q => HK.out
    gi_wp2
    gi_quiet (fail)
    gi_wp2
    refine ⟨by simp, .inl ⟨_, _, rfl, run_takeDeferred (HKQ.out _), ?_⟩⟩
    refine ⟨_, results_tmp2 rfl _ _ _, ?_⟩
    rw [HEND.out]
    exact HF.out _
  case stop =>
    rintro D X c pre W hD hXD hpre ⟨⟨v1, v2, ht, rfl, hlt⟩, hB, hge⟩ hK
    have hT : pre.take most = L.take most := take_pre hpre (by omega)
    rw [hT] at ht
    have hT2 : L.take most = L.take most := rfl
    obtain ⟨R, hR⟩ : ∃ R, R = (L.take most) := ⟨_, rfl⟩
    have HEND : Hid (L.take most = R) := hT2.trans hR.symm
    rw [← hR] at ht
    have hPl : (R.map Prod.fst).length = R.length := List.length_map _
    have hQl : (R.map Prod.snd).length = R.length := List.length_map _
    have HFIN : Hid (∀ a1 c1 a2 c2, v1 = .slice a1 R.length c1 → v2 = .slice a2 R.length c2 → ∀ q, PairsP w R (.returned (.tuple #[v1, v2])) ((W.drewN q).putObj D (.deferred none))) := fun a1 c1 a2 c2 e1 e2 q => by
      have h1 := (show (W.drewN q).ownsRow _ _ _ _ _ _ from ht.r1).kept (grownBy_putObj' (W.drewN q) D (.deferred none)) (.inr fun e => ht.o1 D e hXD)
      have h2 := (show (W.drewN q).ownsRow _ _ _ _ _ _ from ht.r2).kept (grownBy_putObj' (W.drewN q) D (.deferred none)) (.inr fun e => ht.o2 D e hXD)
      rw [hPl, e1] at h1
      rw [hQl, e2] at h2
      rw [e1, e2]
      exact ⟨a1, c1, a2, c2, rfl, row_mapK h1 hPl.symm, row_mapK h2 hQl.symm, (below_drewN (HB4.out.trans hB) q).trans (belowK_b (w := w) (Nat.le_refl _) (W.drewN q) D _ _ (by have := hge D hXD; have := (Array.getElem?_eq_some_iff.1 hK).1; omega) hK rfl rfl)⟩
    obtain ⟨a1, c1, e1, -⟩ := Row.of_owns ht.r1
    obtain ⟨a2, c2, e2, -⟩ := Row.of_owns ht.r2
    rw [hPl] at e1
    rw [hQl] at e2
    subst e1 e2
    have hc1 := ht.x1.1.cell
    have hc2 := ht.x2.1.cell
    have HF := Lib.hid (HFIN.out a1 c1 a2 c2 rfl rfl)
    have HK := Lib.hid hK
    clear ht hB hge hK hPl hQl hT hT2 HFIN hR
    generalize R.length = rl at *
    have HKQ : Hid (∀ q, (W.drewN q).heap[D]? = some (.deferred (some []))) := fun q => HK.out
    gi_wp2
    gi_quiet (fail)
    gi_wp2
    refine ⟨by simp, .inl ⟨_, _, rfl, run_takeDeferred (HKQ.out _), ?_⟩⟩
    refine ⟨_, results_tmp2 rfl _ _ _, ?_⟩
    rw [HEND.out]
    exact HF.out _
end Go.Proofs.Ytoifmfdaghmleaa
