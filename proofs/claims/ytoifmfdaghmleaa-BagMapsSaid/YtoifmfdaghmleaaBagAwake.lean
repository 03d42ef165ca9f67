/-
  What the document fixes of sets is so.
-/
import Derived.Test.YtoifmfdaghmleaaBagJn
import Derived.Test.YtoifmfdaghmleaaBagList
import Derived.Test.YtoifmfdaghmleaaSameInts
set_option linter.unusedVariables false
namespace Go.Proofs.Ytoifmfdaghmleaa
open Go.RowKit Go.Lib Go.Sort Go.Shelf

theorem row_lit {α : Type} (enc : α → Value) (zr : α) (W : World) (vs : List α) (t : TypeId) : Row (W.alloc (.cells (vs.map enc).toArray t)) (some ⟨W.heap.size, 0, none⟩) vs.length (fun j => enc (vs.getD j zr)) :=
  ⟨.inr rfl, fun k hk => by
    simp only [bOf, oOf, Option.map_some, Option.getD_some, Nat.zero_add]
    have := heap_alloc_new W (.cells (vs.map enc).toArray t)
    rw [World.cell?, this]
    simp [List.getD_eq_getElem?_getD, List.getElem?_eq_getElem hk]⟩
theorem set13 : setL ltI [1, 3] = [1, 3] := setL_of_rise ordI (by unfold Rise; simp [ltI])
theorem set23 : setL ltI [2, 3] = [2, 3] := setL_of_rise ordI (by unfold Rise; simp [ltI])
theorem un123 : unL ltI [1, 3] [2, 3] = [1, 2, 3] := by
  refine rise_ext ordI (joinL_rise ordI _ _ _ (by unfold Rise; simp [ltI]) (by unfold Rise; simp [ltI])) (by unfold Rise; simp [ltI]) (fun z => ?_)
  rw [un_mem ordI (by unfold Rise; simp [ltI]) (by unfold Rise; simp [ltI])]
  simp
  omega
abbrev sA : ByteArray := ⟨#[97]⟩
abbrev sBb : ByteArray := ⟨#[98]⟩
theorem lt_ab : ltT sA sBb = true := by rw [ltT_eq]; decide
theorem rise_ab : Rise ltT [sA, sBb] := by unfold Rise; simp [lt_ab]
theorem set_bab : setL ltT [sBb, sA, sBb] = [sA, sBb] := by
  refine rise_ext ordT (setL_is ordT _).1 rise_ab (fun z => ?_)
  rw [(setL_is ordT _).2]
  simp
  exact fun h => .inr h
theorem rk_b : rk ltT [sA, sBb] sBb = 1 := by
  unfold rk
  rw [List.countP_cons, List.countP_cons, List.countP_nil, lt_ab, ordT.irr]; rfl
set_option maxRecDepth 100000 in
set_option maxHeartbeats 2000000 in
theorem awake5_any (w : World) : Calls Try.prog 23 #[] w fun e w' => e = .returned (.bool true) ∧ Below w.heap.size w w' := by
  go_enter Try.func23, Try.ntmps23
  have h1 := newSetI (w.alloc (.cells #[.int .i64 1, .int .i64 3] 3)) (some ⟨w.heap.size, 0, none⟩) 2 2 [1, 3] rfl (by omega) (row_lit (Value.int .i64) 0 w [1, 3] 3)
  have b1 : Below w.heap.size w (w.alloc (.cells #[.int .i64 1, .int .i64 3] 3)) := (Below.refl _ w).alloc (Nat.le_refl _) _
  have H1 := Lib.hid h1
  have B1 := Lib.hid b1
  clear h1 b1
  go_wp2_with fail
  refine H1.out.mono ?_
  rintro e w2 ⟨p1, v1, rfl, hs1, hb2, _⟩
  rw [set13] at hs1
  have B2 := Lib.hid (below_next B1.out hb2 B1.out.size)
  have H2 := Lib.hid (allI w2 p1 v1 _ hs1 (by simp))
  clear hs1 hb2 H1 B1
  go_wp2_with fail
  refine H2.out.mono ?_
  rintro e w3 ⟨f1, rfl, hf1, hi1, hb3⟩
  have B3 := Lib.hid (below_next B2.out hb3 B2.out.size)
  have b4 : Below w3.heap.size w3 (w3.alloc (.cells #[.int .i64 2, .int .i64 3] 3)) := (Below.refl _ w3).alloc (Nat.le_refl _) _
  have H3 := Lib.hid (newSetI (w3.alloc (.cells #[.int .i64 2, .int .i64 3] 3)) (some ⟨w3.heap.size, 0, none⟩) 2 2 [2, 3] rfl (by omega) (row_lit (Value.int .i64) 0 w3 [2, 3] 3))
  have I1 := Lib.hid (hi1.kept b4)
  have B4 := Lib.hid (below_next B3.out b4 B3.out.size)
  have hfu1 : f1 = .nilFunc ∨ ∃ gf lb, f1 = .func (.func gf) #[] lb := hi1.elim (fun h => .inl h.1) (fun ⟨gf, lb, h, _⟩ => .inr ⟨gf, lb, h⟩)
  have HF1 := Lib.hid hfu1
  clear hi1 hb3 H2 B2 b4 B3 hfu1
  go_wp2_with fail
  refine H3.out.mono ?_
  rintro e w5 ⟨p2, v2, rfl, hs2, hb5, _⟩
  rw [set23] at hs2
  have B5 := Lib.hid (below_next B4.out hb5 B4.out.size)
  have I15 := Lib.hid (I1.out.kept hb5)
  have H4 := Lib.hid (allI w5 p2 v2 _ hs2 (by simp))
  clear hs2 hb5 H3 B4 I1
  go_wp2_with fail
  refine H4.out.mono ?_
  rintro e w6 ⟨f2, rfl, hf2, hi2, hb6⟩
  have B6 := Lib.hid (below_next B5.out hb6 B5.out.size)
  have H5 := Lib.hid (UnionI _ _ w6 f1 f2 _ _ (I15.out.kept hb6) hi2 (by simp) (by simp))
  clear hi2 hb6 H4 B5 I15
  go_wp2_with fail
  refine H5.out.mono ?_
  rintro e w7 ⟨f3, rfl, hf3, hi3, hb7⟩
  rw [un123] at hi3
  have B7 := Lib.hid (below_next B6.out hb7 B6.out.size)
  have H6 := Lib.hid (listI _ w7 f3 _ hi3 (by simp) 9)
  clear hi3 hb7 H5 B6
  go_wp2_with fail
  refine H6.out.mono ?_
  rintro e w8 ⟨a8, c8, rfl, hr8, hb8⟩
  have B8 := Lib.hid (below_next B7.out hb8 B7.out.size)
  have b9 : Below w8.heap.size w8 (w8.alloc (.cells #[.string sBb, .string sA, .string sBb] 9)) := (Below.refl _ w8).alloc (Nat.le_refl _) _
  have H7 := Lib.hid (newSetS (w8.alloc (.cells #[.string sBb, .string sA, .string sBb] 9)) (some ⟨w8.heap.size, 0, none⟩) 3 3 [sBb, sA, sBb] rfl (by omega) (row_lit Value.string ⟨#[]⟩ w8 [sBb, sA, sBb] 9))
  have R8 : Hid (Row w8 a8 3 (fun j => Value.int .i64 (([1, 2, 3] : List Int).getD j 0))) := hr8
  have R9 := Lib.hid (R8.out.kept b9)
  have B9 := Lib.hid (below_next B8.out b9 B8.out.size)
  clear hr8 hb8 H6 B7 b9 B8 R8
  simp only [show (List.take (Int.toNat 9) ([1, 2, 3] : List Int)).length = 3 from rfl]
  go_wp2_with fail
  refine H7.out.mono ?_
  rintro e w10 ⟨p3, v3, rfl, hs3, hb10, _⟩
  rw [set_bab] at hs3
  have B10 := Lib.hid (below_next B9.out hb10 B9.out.size)
  have R10 := Lib.hid (R9.out.kept hb10)
  have h8 : Calls Try.prog 65 #[.pointer (some ⟨p3, 0, none⟩), .int .i64 0] w10 fun e w' => e = .returned (.tuple #[.string sA, .bool true]) ∧ w' = w10 := atS w10 p3 v3 _ hs3 0
  have H8 := Lib.hid h8
  have HS3 := Lib.hid hs3
  clear hs3 hb10 H7 B9 R9 h8
  go_wp2_with fail
  refine H8.out.mono ?_
  rintro e w11 ⟨rfl, rfl⟩
  have b12 : Below w11.heap.size w11 (w11.alloc (.cells #[.int .i64 1, .int .i64 2, .int .i64 3] 3)) := (Below.refl _ w11).alloc (Nat.le_refl _) _
  have H9 := Lib.hid (same_yes (w11.alloc (.cells #[.int .i64 1, .int .i64 2, .int .i64 3] 3)) a8 (some ⟨w11.heap.size, 0, none⟩) 3 c8 3 (fun j => ([1, 2, 3] : List Int).getD j 0) (by omega) (R10.out.kept b12) (row_lit (Value.int .i64) 0 w11 [1, 2, 3] 3))
  have B12 := Lib.hid (below_next B10.out b12 B10.out.size)
  have hs4 := HS3.out.kept b12
  have H10 : Hid (∀ k, Calls Try.prog 39 #[.pointer (some ⟨p3, 0, none⟩)] ((w11.alloc (.cells #[.int .i64 1, .int .i64 2, .int .i64 3] 3)).drewN k) fun e w' => e = .returned (.int .i64 2) ∧ w' = ((w11.alloc (.cells #[.int .i64 1, .int .i64 2, .int .i64 3] 3)).drewN k)) := fun k => lenS _ p3 v3 _ (hs4.kept (below_drewN (Below.refl _ _) _))
  have H11 : Hid (∀ k, Calls Try.prog 66 #[.pointer (some ⟨p3, 0, none⟩), .string sBb] ((w11.alloc (.cells #[.int .i64 1, .int .i64 2, .int .i64 3] 3)).drewN k) fun e w' => e = .returned (.int .i64 1) ∧ w' = ((w11.alloc (.cells #[.int .i64 1, .int .i64 2, .int .i64 3] 3)).drewN k)) := fun k => by
    have := rankS _ p3 v3 _ (hs4.kept (below_drewN (Below.refl _ _) k)) (by simp) sBb
    rw [rk_b] at this
    exact this
  clear H8 HS3 R10 B10 hs4 b12
  go_wp2_with fail
  refine H9.out.mono ?_
  rintro e w12 ⟨rfl, k, rfl⟩
  go_wp2_with fail
  refine (H10.out k).mono ?_
  rintro e w12 ⟨rfl, rfl⟩
  go_wp2_with fail
  refine (H11.out k).mono ?_
  rintro e w12 ⟨rfl, rfl⟩
  go_wp2
  go_ret
  exact ⟨rfl, below_drewN B12.out k⟩
end Go.Proofs.Ytoifmfdaghmleaa
