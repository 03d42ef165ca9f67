/-
  What the library's slices functions do to a row of a set: cloned, sorted, its neighbours made one, looked up, one element taken out.
-/
import Derived.Test.YtoifmfdaghmleaaBagCompact
import Derived.Test.YtoifmfdaghmleaaBagCmp
import Derived.Test.YtoifmfdaghmleaaBagShelf
import Derived.Test.YtoifmfdaghmleaaBagRow
import Derived.Lib.SortBridge
import Derived.Lib.RowBridge
namespace Go.Proofs.Ytoifmfdaghmleaa
open Go.RowKit Go.Lib Go.Sort Go.Shelf

theorem swo_of {α : Type} {lt : α → α → Bool} (h : OrdB lt) : SWO (ltOf (cmpf lt)) where
  irrefl x := by unfold ltOf; rw [cmpf_neg, h.irr]
  trans x y z := by unfold ltOf; rw [cmpf_neg, cmpf_neg, cmpf_neg]; exact h.tr x y z
  ntrans x y z := by
    unfold ltOf; rw [cmpf_neg, cmpf_neg, cmpf_neg]
    intro h1 h2
    cases k : lt x z with
    | false => rfl
    | true =>
      cases k2 : lt y x with
      | true => rw [h.tr y x z k2 k] at h2; cases h2
      | false =>
        have := h.tot x y h1 k2
        subst this
        rw [k] at h2; cases h2
theorem tot_of {α : Type} {lt : α → α → Bool} (h : OrdB lt) (x y : α) (h1 : ltOf (cmpf lt) x y = false) (h2 : ltOf (cmpf lt) y x = false) : x = y := by
  unfold ltOf at h1 h2
  rw [cmpf_neg] at h1 h2
  exact h.tot x y h1 h2
theorem not_ltOf {α : Type} (lt : α → α → Bool) : (fun x y : α => !ltOf (cmpf lt) y x) = fun x y => !lt y x := by
  funext x y
  unfold ltOf
  rw [cmpf_neg]
theorem below_grow (w : World) (q : Nat) (os : Array Obj) : Below w.heap.size w (grow (Sort.ahead w q) os) :=
  ⟨rfl, rfl, rfl, by simp [grow, Sort.ahead], fun b hb => heap_grow_old _ os (by simpa [Sort.ahead] using hb)⟩
theorem holds_of_owns {α : Type} [Inhabited α] {enc : α → Value} {w : World} {base g n cap : Nat} {e : TypeId} {l : List α} (h : w.ownsRow base e 1 (.slice (some ⟨g, 0, none⟩) n cap) n (l.map enc)) (hl : l.length = n) : Holds enc w g 0 l.toArray := by
  obtain ⟨hb, hn, hm, f, hr, hf⟩ := owns_some h
  intro j hj
  have hj' : j < n := by simpa [hl] using hj
  refine ⟨?_, hr.frozen _⟩
  rw [Nat.zero_add, hr.cell (i := j) (by omega), hf j (by omega), List.getD_eq_getElem?_getD, List.getElem?_map, List.getElem?_eq_getElem (by omega)]
  have e : l.toArray[j]! = l[j]'(by omega) := by rw [getElem!_pos l.toArray j hj]; simp
  rw [e]; rfl
theorem owns_put {α : Type} [Inhabited α] {enc : α → Value} {w : World} {base g n cap : Nat} {e : TypeId} {l ys : List α} (h : w.ownsRow base e 1 (.slice (some ⟨g, 0, none⟩) n cap) n (l.map enc)) (hl : l.length = n) (hy : ys.length = n) (q : Nat) (os : Array Obj) (m : Nat) (hm : m ≤ n) :
    (grow (putRow enc (Sort.ahead w q) g 0 ys.toArray) os).ownsRow base e 1 (.slice (some ⟨g, 0, none⟩) m cap) m ((ys.take m).map enc) ∧ w.grownBy (grow (putRow enc (Sort.ahead w q) g 0 ys.toArray) os) (some g) := by
  obtain ⟨hb, hn, hmx, f, hr, hf⟩ := owns_some h
  rw [sorted_world enc w g 0 q l.toArray ys os (holds_of_owns h hl) (by simp [hl, hy])]
  have hr2 := row_setCells (ys.map enc) 0 _ _ (row_drewN hr q)
  have hg2 : w.grownBy ((w.drewN q).setCells g 0 (ys.map enc)) (some g) := gb_setCells g _ _ _ (gb_drewN (gb_refl _ _) q)
  have hb2 : Below ((w.drewN q).setCells g 0 (ys.map enc)).heap.size ((w.drewN q).setCells g 0 (ys.map enc)) (grow ((w.drewN q).setCells g 0 (ys.map enc)) os) :=
    ⟨rfl, rfl, rfl, by simp [grow], fun b hb => heap_grow_old _ os hb⟩
  refine ⟨?_, gb_trans hg2 (gb_below hb2 _)⟩
  refine owns_of (row_below hr2 hb2 (by have := hr2.lt; exact this)) hb (by omega) hmx (by simp; omega) (fun j hj => ?_)
  rw [List.length_map, if_pos ⟨Nat.zero_le _, by omega⟩, Nat.sub_zero, List.getD_eq_getElem?_getD, List.getD_eq_getElem?_getD, List.getElem?_map, List.getElem?_map, List.getElem?_take_of_lt (by omega)]
theorem owns_cases {w : World} {base : Nat} {e : TypeId} {v : Value} {n : Nat} {xs : List Value} (h : w.ownsRow base e 1 v n xs) : (v = .slice none 0 0 ∧ n = 0) ∨ ∃ g cap, v = .slice (some ⟨g, 0, none⟩) n cap ∧ n ≤ cap ∧ cap ≤ maxLen ∧ g < w.heap.size := by
  rcases h.2 with h1 | ⟨g, cap, cur, h1, _, h4, h2, h3, _⟩
  · exact .inl h1
  · exact .inr ⟨g, cap, h1, h2, h3, (Array.getElem?_eq_some_iff.1 h4).1⟩

theorem info_rI : (Try.prog.info? 3).map (fun i => (i.zero, i.size, i.bytes)) = some (some (.int .i64 0), 1, 8) := by kernel_rfl
set_option maxRecDepth 100000 in
set_option maxHeartbeats 400000 in
theorem cloneI (w : World) (a : Option Addr) (n cap : Nat) (f : Nat → Value) (hn : n ≤ 1000000) (h1 : ∀ k, k < n → (f k).oneCell' = true) (hr : Row w a n f) :
    Calls Try.prog 67 #[.slice a n cap] w fun e w' => ∃ v, e = .returned v ∧ w'.ownsRow w.heap.size 3 1 v n ((List.range n).map f) ∧ Below w.heap.size w w' := by
  have hnil := fun W => Lib.run_eql_slice_nil (P := Try.prog) W 31 3 a n cap 0 0 Try.underlying31
  obtain ⟨i0, hi, hz0, hz1, hz2⟩ := info_parts info_rI
  cases a with
  | none =>
    have hn0 : n = 0 := by rcases hr.at_ with h | h; · exact h
                           · cases h
    subst hn0
    have e1 : Option.isNone (none : Option Addr) = true := rfl
    clear hr h1
    go_enter Try.func67, Try.ntmps67
    go_wp2
    go_ret
    exact ⟨_, rfl, World.ownsRow_nil _ _ _ _, Below.refl _ _⟩
  | some ad =>
    have hx0 := owns_empty w w.heap.size 3 (Nat.le_refl _)
    have hb0 : Below w.heap.size w (w.alloc (.cells #[] 3)) := (Below.refl _ w).alloc (Nat.le_refl _) _
    obtain ⟨v3, w3, hrun3, hown3, hg3, _⟩ := run_append_row (P := Try.prog) (w.alloc (.cells #[] 3)) w.heap.size 31 31 3 i0 _ 8 Try.underlying31 hi hz0 hz1 hz2 rfl _ 0 [] hx0 (some ad) n cap _ (hr.kept hb0) h1 (by simp only [maxLen]; omega) (by omega) (by simp)
    have hB3 : Below w.heap.size w w3 := hb0.grown hg3 (by simp) (fun k hk => by simp [Value.ownBlock] at hk; omega)
    rw [Nat.zero_add, List.nil_append] at hown3
    obtain ⟨a3, cap3, rfl, _⟩ := Row.of_owns hown3
    have R3 := Lib.hid hrun3
    have HR3 := Lib.hid hown3
    have HB3 := Lib.hid hB3
    clear hr hx0 hb0 hrun3 hown3 hg3 hB3 h1
    go_enter Try.func67, Try.ntmps67
    go_wp2_with ((with_reducible refine wpList_append_run rfl _ _ _ rfl R3.out rfl rfl ?_); clear R3)
    go_ret
    exact ⟨_, rfl, HR3.out, HB3.out⟩
theorem oneI : OneCell (fun x : Int => (.int .i64 x : Value)) := fun _ => rfl
theorem egCI : ∀ args W, (callFunc 69 args).run Try.prog W = .ok (.enter 69 args) W := enters_of Try.func69 (by kernel_rfl) rfl
theorem sortI (w : World) (base n : Nat) (v : Value) (l : List Int) (hown : w.ownsRow base 3 1 v n (l.map fun x => (.int .i64 x : Value))) (hl : l.length = n) (hn : n ≤ 1000000) :
    Calls Try.prog 68 #[v, .func (.func 69) #[] #[]] w fun e w' => e = .returned (.tuple #[]) ∧ w'.ownsRow base 3 1 v n ((l.mergeSort (fun x y => !ltI y x)).map fun x => (.int .i64 x : Value)) ∧ w.grownBy w' v.ownBlock := by
  rcases owns_cases hown with ⟨rfl, rfl⟩ | ⟨g, cap, rfl, hnc, hcm, hg⟩
  · have hc := AnyF.slices_SortFunc_none (P := Try.prog) (ρ := Try.bgSortI_ren) { Try.bgSortI with } none 0 (.func (.func 69) #[] #[]) w
    change Calls Try.prog 68 _ _ _ at hc
    refine hc.mono ?_
    rintro e w' ⟨rfl, rfl⟩
    have e0 : l = [] := List.eq_nil_of_length_eq_zero hl
    subst e0
    exact ⟨rfl, by rw [List.mergeSort_nil]; exact World.ownsRow_nil _ _ _ _, gb_refl _ _⟩
  · have hH := holds_of_owns hown hl
    have hcmp : CmpReads Try.prog 69 #[] (fun x : Int => (.int .i64 x : Value)) (cmpf ltI) g 0 l.toArray.size w := fun _ _ _ _ x y => (cmpI x y _).mono fun _ _ ⟨h1, h2⟩ => ⟨h1, 0, h2⟩
    have hcon := Any.slices_SortFunc_total Try.bgSortI (fun x : Int => (.int .i64 x : Value)) oneI (cmpf ltI) (swo_of ordI) 69 #[] g 0 cap l.toArray w egCI hcmp.lays hH hg (by simp; omega) (tot_of ordI)
    change Calls Try.prog 68 _ _ _ at hcon
    rw [show l.toArray.size = n by simpa using hl] at hcon
    refine hcon.mono ?_
    rintro e w' ⟨rfl, q, os, rfl⟩
    rw [not_ltOf]
    have hml : ((l.toArray.toList.mergeSort (fun x y => !ltI y x))).length = n := by rw [List.length_mergeSort]; simpa using hl
    obtain ⟨h1, h2⟩ := owns_put hown hl hml q os n (Nat.le_refl _)
    rw [List.take_of_length_le (by omega)] at h1
    exact ⟨rfl, h1, h2⟩
set_option maxRecDepth 100000 in
theorem eqCI : EqC 71 (fun x : Int => (.int .i64 x : Value)) := by
  intro x y W
  have hcon := cmpI x y W
  have hd : (cmpf ltI x y == 0) = decide (x = y) := by
    by_cases h : x = y
    · rw [decide_eq_true h, beq_iff_eq]; exact (cmpf_zero ordI x y).2 h
    · rw [decide_eq_false h]; exact beq_false_of_ne (fun e => h ((cmpf_zero ordI x y).1 e))
  have HD := Lib.hid hd
  clear hd
  have HC := Lib.hid hcon
  clear hcon
  generalize cmpf ltI x y = r at *
  show Calls Try.prog 71 #[.int .i64 x, .int .i64 y] W _
  go_enter Try.func71, Try.ntmps71
  go_wp2_with (go_at_call 69; refine HC.out.mono ?_; rintro e w' ⟨rfl, rfl⟩)
  go_ret
  exact ⟨by rw [← HD.out]; rfl, 0, rfl⟩
set_option maxRecDepth 100000 in
theorem compactNoneI (w : World) (fv : Value) : Calls Try.prog 70 #[.slice none 0 0, fv] w fun e w' => e = .returned (.slice none 0 0) ∧ w' = w := by
  go_enter Try.func70, Try.ntmps70
  go_wp2
  go_ret
  exact ⟨rfl, rfl⟩
theorem compactRowI (w : World) (base n : Nat) (v : Value) (l : List Int) (hown : w.ownsRow base 3 1 v n (l.map fun x => (.int .i64 x : Value))) (hl : l.length = n) :
    Calls Try.prog 70 #[v, .func (.func 71) #[] #[]] w fun e w' => ∃ v', e = .returned v' ∧ w'.ownsRow base 3 1 v' (cpt l).length ((cpt l).map fun x => (.int .i64 x : Value)) ∧ v'.ownBlock = v.ownBlock ∧ w.grownBy w' v.ownBlock := by
  rcases owns_cases hown with ⟨rfl, rfl⟩ | ⟨g, cap, rfl, hnc, hcm, hg⟩
  · refine (compactNoneI w _).mono ?_
    rintro e w' ⟨rfl, rfl⟩
    have e0 : l = [] := List.eq_nil_of_length_eq_zero hl
    subst e0
    exact ⟨_, rfl, World.ownsRow_nil _ _ _ _, rfl, gb_refl _ _⟩
  · have hH := holds_of_owns hown hl
    have hall : compactUpTo l.toArray n = cpt l := by rw [← hl]; exact cpt_all l
    have hcon := compactI w g n cap l.toArray (by simpa using hl) hH hnc (by unfold maxLen at hcm; exact hcm) eqCI
    rw [hall] at hcon
    refine hcon.mono ?_
    rintro e w' ⟨rfl, q, rfl⟩
    have hcl := cpt_len l
    obtain ⟨h1, h2⟩ := owns_put (ys := cpt l ++ List.replicate (n - (cpt l).length) (0 : Int)) hown hl (by simp; omega) q #[] (cpt l).length (by omega)
    rw [List.take_left] at h1
    rw [grow_empty] at h1 h2
    exact ⟨_, rfl, h1, rfl, h2⟩
theorem info_rS : (Try.prog.info? 9).map (fun i => (i.zero, i.size, i.bytes)) = some (some (.string ⟨#[]⟩), 1, 16) := by kernel_rfl
set_option maxRecDepth 100000 in
set_option maxHeartbeats 400000 in
theorem cloneS (w : World) (a : Option Addr) (n cap : Nat) (f : Nat → Value) (hn : n ≤ 1000000) (h1 : ∀ k, k < n → (f k).oneCell' = true) (hr : Row w a n f) :
    Calls Try.prog 76 #[.slice a n cap] w fun e w' => ∃ v, e = .returned v ∧ w'.ownsRow w.heap.size 9 1 v n ((List.range n).map f) ∧ Below w.heap.size w w' := by
  have hnil := fun W => Lib.run_eql_slice_nil (P := Try.prog) W 32 9 a n cap 0 0 Try.underlying32
  obtain ⟨i0, hi, hz0, hz1, hz2⟩ := info_parts info_rS
  cases a with
  | none =>
    have hn0 : n = 0 := by rcases hr.at_ with h | h; · exact h
                           · cases h
    subst hn0
    have e1 : Option.isNone (none : Option Addr) = true := rfl
    clear hr h1
    go_enter Try.func76, Try.ntmps76
    go_wp2
    go_ret
    exact ⟨_, rfl, World.ownsRow_nil _ _ _ _, Below.refl _ _⟩
  | some ad =>
    have hx0 := owns_empty w w.heap.size 9 (Nat.le_refl _)
    have hb0 : Below w.heap.size w (w.alloc (.cells #[] 9)) := (Below.refl _ w).alloc (Nat.le_refl _) _
    obtain ⟨v3, w3, hrun3, hown3, hg3, _⟩ := run_append_row (P := Try.prog) (w.alloc (.cells #[] 9)) w.heap.size 32 32 9 i0 _ 16 Try.underlying32 hi hz0 hz1 hz2 rfl _ 0 [] hx0 (some ad) n cap _ (hr.kept hb0) h1 (by simp only [maxLen]; omega) (by omega) (by simp)
    have hB3 : Below w.heap.size w w3 := hb0.grown hg3 (by simp) (fun k hk => by simp [Value.ownBlock] at hk; omega)
    rw [Nat.zero_add, List.nil_append] at hown3
    obtain ⟨a3, cap3, rfl, _⟩ := Row.of_owns hown3
    have R3 := Lib.hid hrun3
    have HR3 := Lib.hid hown3
    have HB3 := Lib.hid hB3
    clear hr hx0 hb0 hrun3 hown3 hg3 hB3 h1
    go_enter Try.func76, Try.ntmps76
    go_wp2_with ((with_reducible refine wpList_append_run rfl _ _ _ rfl R3.out rfl rfl ?_); clear R3)
    go_ret
    exact ⟨_, rfl, HR3.out, HB3.out⟩
theorem oneS : OneCell (fun x : ByteArray => (.string x : Value)) := fun _ => rfl
theorem egCS : ∀ args W, (callFunc 78 args).run Try.prog W = .ok (.enter 78 args) W := enters_of Try.func78 (by kernel_rfl) rfl
theorem sortS (w : World) (base n : Nat) (v : Value) (l : List ByteArray) (hown : w.ownsRow base 9 1 v n (l.map fun x => (.string x : Value))) (hl : l.length = n) (hn : n ≤ 1000000) :
    Calls Try.prog 77 #[v, .func (.func 78) #[] #[]] w fun e w' => e = .returned (.tuple #[]) ∧ w'.ownsRow base 9 1 v n ((l.mergeSort (fun x y => !ltT y x)).map fun x => (.string x : Value)) ∧ w.grownBy w' v.ownBlock := by
  rcases owns_cases hown with ⟨rfl, rfl⟩ | ⟨g, cap, rfl, hnc, hcm, hg⟩
  · have hc := AnyF.slices_SortFunc_none (P := Try.prog) (ρ := Try.bgSortS_ren) { Try.bgSortS with } none 0 (.func (.func 78) #[] #[]) w
    change Calls Try.prog 77 _ _ _ at hc
    refine hc.mono ?_
    rintro e w' ⟨rfl, rfl⟩
    have e0 : l = [] := List.eq_nil_of_length_eq_zero hl
    subst e0
    exact ⟨rfl, by rw [List.mergeSort_nil]; exact World.ownsRow_nil _ _ _ _, gb_refl _ _⟩
  · have hH := holds_of_owns hown hl
    have hcmp : CmpReads Try.prog 78 #[] (fun x : ByteArray => (.string x : Value)) (cmpf ltT) g 0 l.toArray.size w := fun _ _ _ _ x y => (cmpS x y _).mono fun _ _ ⟨h1, h2⟩ => ⟨h1, 0, h2⟩
    have hcon := Any.slices_SortFunc_total Try.bgSortS (fun x : ByteArray => (.string x : Value)) oneS (cmpf ltT) (swo_of ordT) 78 #[] g 0 cap l.toArray w egCS hcmp.lays hH hg (by simp; omega) (tot_of ordT)
    change Calls Try.prog 77 _ _ _ at hcon
    rw [show l.toArray.size = n by simpa using hl] at hcon
    refine hcon.mono ?_
    rintro e w' ⟨rfl, q, os, rfl⟩
    rw [not_ltOf]
    have hml : ((l.toArray.toList.mergeSort (fun x y => !ltT y x))).length = n := by rw [List.length_mergeSort]; simpa using hl
    obtain ⟨h1, h2⟩ := owns_put hown hl hml q os n (Nat.le_refl _)
    rw [List.take_of_length_le (by omega)] at h1
    exact ⟨rfl, h1, h2⟩
set_option maxRecDepth 100000 in
theorem eqCS : EqC 80 (fun x : ByteArray => (.string x : Value)) := by
  intro x y W
  have hcon := cmpS x y W
  have hd : (cmpf ltT x y == 0) = decide (x = y) := by
    by_cases h : x = y
    · rw [decide_eq_true h, beq_iff_eq]; exact (cmpf_zero ordT x y).2 h
    · rw [decide_eq_false h]; exact beq_false_of_ne (fun e => h ((cmpf_zero ordT x y).1 e))
  have HD := Lib.hid hd
  clear hd
  have HC := Lib.hid hcon
  clear hcon
  generalize cmpf ltT x y = r at *
  show Calls Try.prog 80 #[.string x, .string y] W _
  go_enter Try.func80, Try.ntmps80
  go_wp2_with (go_at_call 78; refine HC.out.mono ?_; rintro e w' ⟨rfl, rfl⟩)
  go_ret
  exact ⟨by rw [← HD.out]; rfl, 0, rfl⟩
set_option maxRecDepth 100000 in
theorem compactNoneS (w : World) (fv : Value) : Calls Try.prog 79 #[.slice none 0 0, fv] w fun e w' => e = .returned (.slice none 0 0) ∧ w' = w := by
  go_enter Try.func79, Try.ntmps79
  go_wp2
  go_ret
  exact ⟨rfl, rfl⟩
theorem compactRowS (w : World) (base n : Nat) (v : Value) (l : List ByteArray) (hown : w.ownsRow base 9 1 v n (l.map fun x => (.string x : Value))) (hl : l.length = n) :
    Calls Try.prog 79 #[v, .func (.func 80) #[] #[]] w fun e w' => ∃ v', e = .returned v' ∧ w'.ownsRow base 9 1 v' (cpt l).length ((cpt l).map fun x => (.string x : Value)) ∧ v'.ownBlock = v.ownBlock ∧ w.grownBy w' v.ownBlock := by
  rcases owns_cases hown with ⟨rfl, rfl⟩ | ⟨g, cap, rfl, hnc, hcm, hg⟩
  · refine (compactNoneS w _).mono ?_
    rintro e w' ⟨rfl, rfl⟩
    have e0 : l = [] := List.eq_nil_of_length_eq_zero hl
    subst e0
    exact ⟨_, rfl, World.ownsRow_nil _ _ _ _, rfl, gb_refl _ _⟩
  · have hH := holds_of_owns hown hl
    have hall : compactUpTo l.toArray n = cpt l := by rw [← hl]; exact cpt_all l
    have hcon := compactS w g n cap l.toArray (by simpa using hl) hH hnc (by unfold maxLen at hcm; exact hcm) eqCS
    rw [hall] at hcon
    refine hcon.mono ?_
    rintro e w' ⟨rfl, q, rfl⟩
    have hcl := cpt_len l
    obtain ⟨h1, h2⟩ := owns_put (ys := cpt l ++ List.replicate (n - (cpt l).length) (⟨#[]⟩ : ByteArray)) hown hl (by simp; omega) q #[] (cpt l).length (by omega)
    rw [List.take_left] at h1
    rw [grow_empty] at h1 h2
    exact ⟨_, rfl, h1, rfl, h2⟩
end Go.Proofs.Ytoifmfdaghmleaa
