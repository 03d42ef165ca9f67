/-
  A set: made, looked up, told by place and by rank.
-/
import Derived.Test.YtoifmfdaghmleaaBagRows
import Derived.Test.YtoifmfdaghmleaaBagIt
set_option linter.unusedVariables false
namespace Go.Proofs.Ytoifmfdaghmleaa
open Go.RowKit Go.Lib Go.Sort Go.Shelf
attribute [local go_sem] Oper.semAt_some

/-- is it a member -/
def memB {α : Type} [DecidableEq α] (l : List α) (x : α) : Bool := decide (x ∈ l)
theorem memB_true {α : Type} [DecidableEq α] {l : List α} {x : α} (h : x ∈ l) : memB l x = true := decide_eq_true h
theorem memB_false {α : Type} [DecidableEq α] {l : List α} {x : α} (h : x ∉ l) : memB l x = false := decide_eq_false h
theorem memB_iff {α : Type} [DecidableEq α] {l : List α} {x : α} : memB l x = true ↔ x ∈ l := by unfold memB; simp
theorem range_getD {α : Type} (l : List α) (d : α) (f : α → Value) : (List.range l.length).map (fun j => f (l.getD j d)) = l.map f := by
  apply List.ext_getElem?
  intro j
  rw [List.getElem?_map, List.getElem?_map]
  rcases Nat.lt_or_ge j l.length with h | h
  · rw [List.getElem?_range h, List.getElem?_eq_getElem h]
    simp [List.getD_eq_getElem?_getD, List.getElem?_eq_getElem h]
  · rw [List.getElem?_eq_none (by simpa using h), List.getElem?_eq_none h]; rfl

/-- a set: its struct at p, its row behind it -/
structure SetI (W : World) (p : Nat) (v : Value) (l : List Int) : Prop where
  box : Boxed W p 99 v
  row : W.ownsRow (p + 1) 3 1 v l.length (l.map fun x => (Value.int .i64 x : Value))
  rise : Rise ltI l
theorem SetI.ne {W : World} {p : Nat} {v : Value} {l : List Int} (h : SetI W p v l) : v.ownBlock ≠ some p := fun e => by have := (h.row.lt p e).1; omega
theorem SetI.gb {W W' : World} {p : Nat} {v : Value} {l : List Int} {row : Option Nat} (h : SetI W p v l) (hg : W.grownBy W' row) (h1 : some p ≠ row) (h2 : v.ownBlock = none ∨ v.ownBlock ≠ row) : SetI W' p v l :=
  ⟨h.box.kept hg h1, h.row.kept hg h2, h.rise⟩
theorem SetI.kept {W W' : World} {p : Nat} {v : Value} {l : List Int} (h : SetI W p v l) (hb : Below W.heap.size W W') : SetI W' p v l :=
  h.gb (gb_below hb none) (by simp) (by cases v.ownBlock <;> simp)
set_option maxRecDepth 100000 in
set_option maxHeartbeats 400000 in
theorem newSetI (w : World) (a : Option Addr) (n cap : Nat) (l : List Int) (hl : l.length = n) (hn : n ≤ 1000000) (hr : Row w a n (fun j => (Value.int .i64 (l.getD j (0 : Int)) : Value))) :
    Calls Try.prog 24 #[.slice a n cap] w fun e w' => ∃ p v, e = .returned (.pointer (some ⟨p, 0, none⟩)) ∧ SetI w' p v (setL ltI l) ∧ Below w.heap.size w w' ∧ w.heap.size ≤ p := by
  have b1 := Boxed.new w 99 (.slice none 0 0)
  have hb1 : Below w.heap.size w (w.alloc (.cells #[.slice none 0 0] 99)) := (Below.refl _ w).alloc (Nat.le_refl _) _
  have hs1 : (w.alloc (.cells #[.slice none 0 0] 99)).heap.size = w.heap.size + 1 := by simp
  have HCL := Lib.hid (cloneI (w.alloc (.cells #[.slice none 0 0] 99)) a n cap _ hn (fun _ _ => rfl) (hr.kept hb1))
  have HB1 := Lib.hid b1
  have HW1 := Lib.hid hb1
  have HS1 := Lib.hid hs1
  have HN := Lib.hid hl
  clear hr b1 hb1 hs1 hl
  go_enter Try.func24, Try.ntmps24
  go_wp2_with fail
  generalize (w.alloc (.cells #[.slice none 0 0] 99)) = w1 at *
  refine HCL.out.mono ?_
  rintro e w2 ⟨v2', rfl, ho2, hb2⟩
  obtain ⟨a2, cap2, rfl, _⟩ := Row.of_owns ho2
  rw [← HN.out, range_getD, HS1.out, HN.out] at ho2
  have x2 : Boxed w2 w.heap.size 99 (.slice none 0 0) := (hb2.block _ HB1.out.lt).trans HB1.out
  have c2 := x2.cell
  have f2 := x2.frozen
  have HX3 := Lib.hid (x2.set (.slice a2 n cap2))
  have ho3 : (w2.setCell ⟨w.heap.size, 0, none⟩ (.slice a2 n cap2)).ownsRow (w.heap.size + 1) 3 1 (.slice a2 n cap2) n (l.map fun x => (Value.int .i64 x : Value)) := by
    exact ho2.kept (grownBy_setCell' w2 w.heap.size (.slice a2 n cap2)) (.inr (fun h => by have := (ho2.lt _ h).1; omega))
  have HO3 := Lib.hid ho3
  have hb3 : Below w.heap.size w (w2.setCell ⟨w.heap.size, 0, none⟩ (.slice a2 n cap2)) := (below_next HW1.out hb2 (by have := HS1.out; omega)).setCell (by simp) _
  have HB3 := Lib.hid hb3
  have hs3 : w.heap.size + 1 ≤ (w2.setCell ⟨w.heap.size, 0, none⟩ (.slice a2 n cap2)).heap.size := by have := hb2.size; rw [HS1.out] at this; simpa [World.setCell] using this
  have HS3 := Lib.hid hs3
  clear ho2 hb2 x2 ho3 hb3 hs3 HCL HB1 HW1 HS1
  have HST := Lib.hid (sortI _ _ n (.slice a2 n cap2) l HO3.out HN.out hn)
  have c3 := HX3.out.cell
  go_wp2_with fail
  clear c2 f2
  generalize (w2.setCell ⟨w.heap.size, 0, none⟩ (.slice a2 n cap2)) = w3 at *
  refine HST.out.mono ?_
  rintro e w4 ⟨rfl, ho4, hg4⟩
  have hne : (Value.slice a2 n cap2).ownBlock ≠ some w.heap.size := fun e => by have := (HO3.out.lt _ e).1; omega
  have x4 : Boxed w4 w.heap.size 99 (.slice a2 n cap2) := HX3.out.kept hg4 (fun e => hne e.symm)
  have c4 := x4.cell
  have hb4 : Below w.heap.size w w4 := HB3.out.grown hg4 (by have := HS3.out; omega) (fun k hk => by have := (HO3.out.lt k hk).1; omega)
  have hs4 : w.heap.size + 1 ≤ w4.heap.size := Nat.le_trans HS3.out hg4.size
  have HCP := Lib.hid (compactRowI w4 _ n (.slice a2 n cap2) _ ho4 (by rw [List.length_mergeSort]; exact HN.out))
  have HX4 := Lib.hid x4
  have HB4 := Lib.hid hb4
  have HS4 := Lib.hid hs4
  have HNE := Lib.hid hne
  have HO4 := Lib.hid ho4
  clear ho4 hg4 hne x4 hb4 hs4 HST HX3 HO3 HB3 HS3
  go_wp2_with fail
  refine HCP.out.mono ?_
  rintro e w5 ⟨v5', rfl, ho5, hv5, hg5⟩
  obtain ⟨a5, cap5, rfl, _⟩ := Row.of_owns ho5
  have x5 : Boxed w5 w.heap.size 99 (.slice a2 n cap2) := HX4.out.kept hg5 (fun e => HNE.out e.symm)
  have c5 := x5.cell
  have f5 := x5.frozen
  rw [setL_sorted ordI] at ho5 hv5
  rw [setL_sorted ordI]
  generalize hm5 : (setL ltI l).length = m5 at *
  have HM5 := Lib.hid hm5
  clear hm5
  have hb5 : Below w.heap.size w w5 := HB4.out.grown hg5 (by have := HS4.out; omega) (fun k hk => by have := (HO4.out.lt k hk).1; omega)
  have HFIN : Hid (SetI (w5.setCell ⟨w.heap.size, 0, none⟩ (.slice a5 m5 cap5)) w.heap.size (.slice a5 m5 cap5) (setL ltI l) ∧ Below w.heap.size w (w5.setCell ⟨w.heap.size, 0, none⟩ (.slice a5 m5 cap5))) :=
    ⟨⟨x5.set (.slice a5 m5 cap5), by rw [HM5.out]; exact ho5.kept (grownBy_setCell' w5 w.heap.size (.slice a5 m5 cap5)) (.inr (by rw [hv5]; exact HNE.out)), (setL_is ordI l).1⟩, hb5.setCell (by simp) _⟩
  clear ho5 hv5 hg5 x5 hb5 HCP HX4 HB4 HS4 HNE HO4 c4
  go_wp2
  go_ret
  exact ⟨_, _, rfl, HFIN.out.1, HFIN.out.2, Nat.le_refl _⟩
theorem size_sI (w : World) : (sizeOf (Try.prog.elem 31)).run Try.prog w = .ok 1 w := by kernel_rfl
theorem row_ofI {w : World} {base cap : Nat} {a : Option Addr} {l : List Int} (h : w.ownsRow base 3 1 (.slice a l.length cap) l.length (l.map fun x => (Value.int .i64 x : Value))) : Row w a l.length (fun j => (Value.int .i64 (l.getD j (0 : Int)) : Value)) :=
  (owns_row h).1.congr fun j hj => by
    rw [List.getD_eq_getElem?_getD, List.getElem?_map, List.getElem?_eq_getElem hj, List.getD_eq_getElem?_getD, List.getElem?_eq_getElem hj]; rfl
set_option maxRecDepth 100000 in
set_option maxHeartbeats 1000000 in
theorem bsfI (w : World) (a : Option Addr) (n cap : Nat) (l : List Int) (hl : l.length = n) (hr : Row w a n (fun j => (Value.int .i64 (l.getD j (0 : Int)) : Value))) (hrs : Rise ltI l) (hn : n ≤ 1000000) (x : Int) :
    Calls Try.prog 114 #[.slice a n cap, Value.int .i64 x, .func (.func 69) #[] #[]] w fun e w' => e = .returned (.tuple #[.int .i64 (rk ltI l x : Nat), .bool (memB l x)]) ∧ w' = w := by
  have hix := run_ix (P := Try.prog) 31 (by kernel_rfl) size_sI a n cap hr.at_ .i64
  have eg := egCI
  have hrn := rk_le (lt := ltI) l x
  rw [hl] at hrn
  have HR := Lib.hid hr
  have HIX := Lib.hid hix
  have HC := Lib.hid (fun y W => cmpI y x W)
  have HP := Lib.hid (fun h (hh : h < n) => show decide (cmpf ltI (l.getD h (0 : Int)) x < 0) = true ↔ h < rk ltI l x by
    rw [cmpf_neg, List.getD_eq_getElem?_getD, List.getElem?_eq_getElem (by omega)]
    exact rk_at ordI hrs x h (by omega))
  have HM : Hid (memB l x = (decide (rk ltI l x < n) && decide (cmpf ltI (l.getD (rk ltI l x) (0 : Int)) x = 0))) := by
    show _ = _
    by_cases hm : x ∈ l
    · obtain ⟨h1, h2⟩ := (rk_mem ordI hrs x).1 hm
      have e : l.getD (rk ltI l x) (0 : Int) = x := by rw [List.getD_eq_getElem?_getD, List.getElem?_eq_getElem h1, Option.getD_some, h2]
      rw [memB_true hm, e, decide_eq_true (by omega), decide_eq_true ((cmpf_zero ordI x x).2 rfl)]; rfl
    · rw [memB_false hm]
      by_cases h1 : rk ltI l x < n
      · rw [decide_eq_false (p := cmpf ltI (l.getD (rk ltI l x) (0 : Int)) x = 0) (fun e => hm ((rk_mem ordI hrs x).2 ⟨by omega, by
          have := (cmpf_zero ordI _ _).1 e
          rwa [List.getD_eq_getElem?_getD, List.getElem?_eq_getElem (by omega), Option.getD_some] at this⟩))]; simp
      · rw [decide_eq_false h1]; rfl
  clear hr hix hrs hl
  generalize memB l x = mb at *
  generalize rk ltI l x = t at *
  go_enter Try.func114, Try.ntmps114
  go_wp2
  go_loop [9, 10] (fun ii jj => ∃ i j : Nat, i ≤ t ∧ t ≤ j ∧ j ≤ n ∧ ii = .int .i64 i ∧ jj = .int .i64 j) (fun ii jj => (intOf jj).toNat - (intOf ii).toNat)
  case atStart => exact ⟨0, n, Nat.zero_le _, hrn, Nat.le_refl _, rfl, rfl⟩
  case round =>
    obtain ⟨i, j, hi, hj, hjn, rfl, rfl⟩ := hrel
    by_cases hij : (i : Int) < (j : Int)
    · obtain ⟨h, hh⟩ : ∃ h, h = (i + j) / 2 := ⟨_, rfl⟩
      have hhn : h < n := by omega
      have d := HR.out.cell h hhn
      have hlh := HP.out h hhn
      have hxk := fun W => HIX.out W h hhn
      have hb1 : i ≤ h := by omega
      have hb2 : h < j := by omega
      have e2 : ((i : Int) + (j : Int)) / 2 = (h : Int) := by omega
      rw [← e2] at hxk
      have E2 := Lib.hid e2
      have e1 : IntKind.u64.wrap ((i : Int) + (j : Int)) = (i : Int) + (j : Int) := IntWalk.u64_in _ (by omega)
      have e3 : IntKind.i64.wrap (((i : Int) + (j : Int)) / 2) = ((i : Int) + (j : Int)) / 2 := IntWalk.i64_in _ (by omega)
      clear hh e2
      have HLH := Lib.hid hlh
      clear hlh
      generalize l.getD h (0 : Int) = y at *
      go_wp2_with fail
      clear e1 e3 d hxk
      refine (HC.out _ _).mono ?_
      rintro e w' ⟨rfl, rfl⟩
      have hdd : decide (cmpf ltI y x < 0) = decide (h < t) := by
        have := HLH.out
        by_cases g : h < t
        · rw [this.2 g, decide_eq_true g]
        · rw [decide_eq_false g]
          cases q : decide (cmpf ltI y x < 0) with
          | false => rfl
          | true => exact absurd (this.1 q) g
      clear HLH
      by_cases hfx : h < t
      · rw [decide_eq_true hfx] at hdd
        generalize cmpf ltI y x = r at *
        go_wp2
        go_round
        case rel => have e2 := E2.out; exact ⟨h + 1, j, by omega, hj, hjn, by first | (rw [E2.out]; go_num; done) | (have e2 := E2.out; congr 1; omega), rfl⟩
        case measure => have e2 := E2.out; simp [intOf]; omega
      · rw [decide_eq_false hfx] at hdd
        generalize cmpf ltI y x = r at *
        go_wp2
        go_round
        case rel => exact ⟨i, h, hi, by omega, by omega, rfl, by rw [E2.out]⟩
        case measure => have e2 := E2.out; simp [intOf]; omega
    · obtain rfl : i = t := by omega
      have hd : decide ((i : Int) < (j : Int)) = false := by simpa using hij
      by_cases hin : i < n
      · have d := HR.out.cell i hin
        have hxk := fun W => HIX.out W i hin
        have ti : (i : Int) < (n : Int) := by omega
        have hm := HM.out
        rw [decide_eq_true hin, Bool.true_and] at hm
        have HM2 := Lib.hid hm
        clear hm HM
        generalize l.getD i (0 : Int) = y at *
        go_wp2_with fail
        refine (HC.out _ _).mono ?_
        rintro e w' ⟨rfl, rfl⟩
        have hm := HM2.out
        have hb : (cmpf ltI y x == 0) = mb := by rw [hm]; exact (Bool.beq_eq_decide_eq _ _)
        have HB := Lib.hid hb
        clear hb hm HM2
        generalize cmpf ltI y x = r at *
        go_wp2
        (try simp only [Exit.inBlock, Exit.then]); refine bodyPost_ret (results_tmp2 rfl _ _ _) rfl ?_
        exact ⟨by rw [← HB.out]; rfl, rfl⟩
      · have ti : ¬ (i : Int) < (n : Int) := by omega
        have hm := HM.out
        rw [decide_eq_false hin, Bool.false_and] at hm
        subst hm
        clear HM
        go_wp2
        (try simp only [Exit.inBlock, Exit.then]); refine bodyPost_ret (results_tmp2 rfl _ _ _) rfl ?_
        exact ⟨rfl, rfl⟩
set_option maxRecDepth 100000 in
theorem placeI (w : World) (p : Nat) (v : Value) (l : List Int) (h : SetI w p v l) (hn : l.length ≤ 1000000) (x : Int) :
    Calls Try.prog 85 #[.pointer (some ⟨p, 0, none⟩), Value.int .i64 x] w fun e w' => e = .returned (.tuple #[.int .i64 (rk ltI l x : Nat), .bool (memB l x)]) ∧ w' = w := by
  have c := h.box.cell
  obtain ⟨a, cap, rfl, _⟩ := Row.of_owns h.row
  have HF := Lib.hid (bsfI w a l.length cap l rfl (row_ofI h.row) h.rise hn x)
  generalize l.length = n at *
  clear h
  go_enter Try.func85, Try.ntmps85
  go_wp2_with (go_at_call 114; refine HF.out.mono ?_; rintro e w' ⟨rfl, rfl⟩)
  (try simp only [Exit.inBlock, Exit.then]); refine bodyPost_ret (results_tmp2 rfl _ _ _) rfl ?_
  exact ⟨rfl, rfl⟩
set_option maxRecDepth 100000 in
theorem hasI (w : World) (p : Nat) (v : Value) (l : List Int) (h : SetI w p v l) (hn : l.length ≤ 1000000) (x : Int) :
    Calls Try.prog 44 #[.pointer (some ⟨p, 0, none⟩), Value.int .i64 x] w fun e w' => e = .returned (.bool (memB l x)) ∧ w' = w := by
  have HF := Lib.hid (placeI w p v l h hn x)
  clear h
  generalize memB l x = b at *
  go_enter Try.func44, Try.ntmps44
  go_wp2_with (go_at_call 85; refine HF.out.mono ?_; rintro e w' ⟨rfl, rfl⟩)
  go_ret
  exact ⟨rfl, rfl⟩
set_option maxRecDepth 100000 in
theorem rankI (w : World) (p : Nat) (v : Value) (l : List Int) (h : SetI w p v l) (hn : l.length ≤ 1000000) (x : Int) :
    Calls Try.prog 42 #[.pointer (some ⟨p, 0, none⟩), Value.int .i64 x] w fun e w' => e = .returned (.int .i64 (rk ltI l x : Nat)) ∧ w' = w := by
  have HF := Lib.hid (placeI w p v l h hn x)
  clear h
  generalize memB l x = b at *
  go_enter Try.func42, Try.ntmps42
  go_wp2_with (go_at_call 85; refine HF.out.mono ?_; rintro e w' ⟨rfl, rfl⟩)
  go_ret
  exact ⟨rfl, rfl⟩
set_option maxRecDepth 100000 in
theorem lenI (w : World) (p : Nat) (v : Value) (l : List Int) (h : SetI w p v l) :
    Calls Try.prog 45 #[.pointer (some ⟨p, 0, none⟩)] w fun e w' => e = .returned (.int .i64 (l.length : Nat)) ∧ w' = w := by
  have c := h.box.cell
  obtain ⟨a, cap, rfl, _⟩ := Row.of_owns h.row
  generalize l.length = n at *
  clear h
  go_enter Try.func45, Try.ntmps45
  go_wp2
  go_ret
  exact ⟨rfl, rfl⟩
def atLI (l : List Int) (i : Int) : Int := if 0 ≤ i ∧ i < l.length then l.getD i.toNat (0 : Int) else (0 : Int)
set_option maxRecDepth 100000 in
theorem atI (w : World) (p : Nat) (v : Value) (l : List Int) (h : SetI w p v l) (i : Int) :
    Calls Try.prog 41 #[.pointer (some ⟨p, 0, none⟩), .int .i64 i] w fun e w' => e = .returned (.tuple #[Value.int .i64 (atLI l i), .bool (decide (0 ≤ i ∧ i < (l.length : Int)))]) ∧ w' = w := by
  have c := h.box.cell
  obtain ⟨a, cap, rfl, _, hr, _⟩ := Row.of_owns h.row
  by_cases h0 : i < 0
  · have hP : Hid (Value.int .i64 (atLI l i) = Value.int .i64 (0 : Int) ∧ decide (0 ≤ i ∧ i < (l.length : Int)) = false) := ⟨by unfold atLI; rw [if_neg (by omega)], by simp; omega⟩
    rw [hP.out.1, hP.out.2]
    generalize l.length = n at *
    clear h hr hP
    go_enter Try.func41, Try.ntmps41
    go_wp2
    (try simp only [Exit.inBlock, Exit.then]); refine bodyPost_ret (results_tmp2 rfl _ _ _) rfl ?_
    exact ⟨rfl, rfl⟩
  · by_cases h1 : (l.length : Int) ≤ i
    · have hP : Hid (Value.int .i64 (atLI l i) = Value.int .i64 (0 : Int) ∧ decide (0 ≤ i ∧ i < (l.length : Int)) = false) := ⟨by unfold atLI; rw [if_neg (by omega)], by simp; omega⟩
      rw [hP.out.1, hP.out.2]
      generalize l.length = n at *
      clear h hr hP
      have h0' : decide (i < 0) = false := by simpa using h0
      go_enter Try.func41, Try.ntmps41
      go_wp2
      (try simp only [Exit.inBlock, Exit.then]); refine bodyPost_ret (results_tmp2 rfl _ _ _) rfl ?_
      exact ⟨rfl, rfl⟩
    · obtain ⟨k, rfl⟩ : ∃ k : Nat, i = (k : Int) := ⟨i.toNat, by omega⟩
      have hk : k < l.length := by omega
      have hP : Hid (Value.int .i64 (atLI l k) = Value.int .i64 (l.getD k (0 : Int)) ∧ decide (0 ≤ (k : Int) ∧ (k : Int) < (l.length : Int)) = true) := ⟨by unfold atLI; rw [if_pos (by omega), Int.toNat_natCast], by simp; omega⟩
      rw [hP.out.1, hP.out.2]
      have hc := hr.cell k hk
      have e1 : (l.map fun x => (Value.int .i64 x : Value)).getD k undef = Value.int .i64 (l.getD k (0 : Int)) := by
        rw [List.getD_eq_getElem?_getD, List.getElem?_map, List.getElem?_eq_getElem hk, List.getD_eq_getElem?_getD, List.getElem?_eq_getElem hk]; rfl
      rw [e1] at hc
      have hix := run_ix (P := Try.prog) 31 (by kernel_rfl) size_sI a l.length cap hr.at_ .i64
      have hxk := fun W => hix W k hk
      have t1 : ¬ ((l.length : Int) ≤ (k : Int)) := h1
      have t2 : ¬ ((k : Int) < 0) := h0
      generalize l.getD k (0 : Int) = y at *
      generalize l.length = n at *
      clear h hr hP hix e1 h1
      go_enter Try.func41, Try.ntmps41
      go_wp2
      (try simp only [Exit.inBlock, Exit.then]); refine bodyPost_ret (results_tmp2 rfl _ _ _) rfl ?_
      exact ⟨rfl, rfl⟩
/-- a set: its struct at p, its row behind it -/
structure SetS (W : World) (p : Nat) (v : Value) (l : List ByteArray) : Prop where
  box : Boxed W p 108 v
  row : W.ownsRow (p + 1) 9 1 v l.length (l.map fun x => (Value.string x : Value))
  rise : Rise ltT l
theorem SetS.ne {W : World} {p : Nat} {v : Value} {l : List ByteArray} (h : SetS W p v l) : v.ownBlock ≠ some p := fun e => by have := (h.row.lt p e).1; omega
theorem SetS.gb {W W' : World} {p : Nat} {v : Value} {l : List ByteArray} {row : Option Nat} (h : SetS W p v l) (hg : W.grownBy W' row) (h1 : some p ≠ row) (h2 : v.ownBlock = none ∨ v.ownBlock ≠ row) : SetS W' p v l :=
  ⟨h.box.kept hg h1, h.row.kept hg h2, h.rise⟩
theorem SetS.kept {W W' : World} {p : Nat} {v : Value} {l : List ByteArray} (h : SetS W p v l) (hb : Below W.heap.size W W') : SetS W' p v l :=
  h.gb (gb_below hb none) (by simp) (by cases v.ownBlock <;> simp)
set_option maxRecDepth 100000 in
set_option maxHeartbeats 400000 in
theorem newSetS (w : World) (a : Option Addr) (n cap : Nat) (l : List ByteArray) (hl : l.length = n) (hn : n ≤ 1000000) (hr : Row w a n (fun j => (Value.string (l.getD j (⟨#[]⟩ : ByteArray)) : Value))) :
    Calls Try.prog 33 #[.slice a n cap] w fun e w' => ∃ p v, e = .returned (.pointer (some ⟨p, 0, none⟩)) ∧ SetS w' p v (setL ltT l) ∧ Below w.heap.size w w' ∧ w.heap.size ≤ p := by
  have b1 := Boxed.new w 108 (.slice none 0 0)
  have hb1 : Below w.heap.size w (w.alloc (.cells #[.slice none 0 0] 108)) := (Below.refl _ w).alloc (Nat.le_refl _) _
  have hs1 : (w.alloc (.cells #[.slice none 0 0] 108)).heap.size = w.heap.size + 1 := by simp
  have HCL := Lib.hid (cloneS (w.alloc (.cells #[.slice none 0 0] 108)) a n cap _ hn (fun _ _ => rfl) (hr.kept hb1))
  have HB1 := Lib.hid b1
  have HW1 := Lib.hid hb1
  have HS1 := Lib.hid hs1
  have HN := Lib.hid hl
  clear hr b1 hb1 hs1 hl
  go_enter Try.func33, Try.ntmps33
  go_wp2_with fail
  generalize (w.alloc (.cells #[.slice none 0 0] 108)) = w1 at *
  refine HCL.out.mono ?_
  rintro e w2 ⟨v2', rfl, ho2, hb2⟩
  obtain ⟨a2, cap2, rfl, _⟩ := Row.of_owns ho2
  rw [← HN.out, range_getD, HS1.out, HN.out] at ho2
  have x2 : Boxed w2 w.heap.size 108 (.slice none 0 0) := (hb2.block _ HB1.out.lt).trans HB1.out
  have c2 := x2.cell
  have f2 := x2.frozen
  have HX3 := Lib.hid (x2.set (.slice a2 n cap2))
  have ho3 : (w2.setCell ⟨w.heap.size, 0, none⟩ (.slice a2 n cap2)).ownsRow (w.heap.size + 1) 9 1 (.slice a2 n cap2) n (l.map fun x => (Value.string x : Value)) := by
    exact ho2.kept (grownBy_setCell' w2 w.heap.size (.slice a2 n cap2)) (.inr (fun h => by have := (ho2.lt _ h).1; omega))
  have HO3 := Lib.hid ho3
  have hb3 : Below w.heap.size w (w2.setCell ⟨w.heap.size, 0, none⟩ (.slice a2 n cap2)) := (below_next HW1.out hb2 (by have := HS1.out; omega)).setCell (by simp) _
  have HB3 := Lib.hid hb3
  have hs3 : w.heap.size + 1 ≤ (w2.setCell ⟨w.heap.size, 0, none⟩ (.slice a2 n cap2)).heap.size := by have := hb2.size; rw [HS1.out] at this; simpa [World.setCell] using this
  have HS3 := Lib.hid hs3
  clear ho2 hb2 x2 ho3 hb3 hs3 HCL HB1 HW1 HS1
  have HST := Lib.hid (sortS _ _ n (.slice a2 n cap2) l HO3.out HN.out hn)
  have c3 := HX3.out.cell
  go_wp2_with fail
  clear c2 f2
  generalize (w2.setCell ⟨w.heap.size, 0, none⟩ (.slice a2 n cap2)) = w3 at *
  refine HST.out.mono ?_
  rintro e w4 ⟨rfl, ho4, hg4⟩
  have hne : (Value.slice a2 n cap2).ownBlock ≠ some w.heap.size := fun e => by have := (HO3.out.lt _ e).1; omega
  have x4 : Boxed w4 w.heap.size 108 (.slice a2 n cap2) := HX3.out.kept hg4 (fun e => hne e.symm)
  have c4 := x4.cell
  have hb4 : Below w.heap.size w w4 := HB3.out.grown hg4 (by have := HS3.out; omega) (fun k hk => by have := (HO3.out.lt k hk).1; omega)
  have hs4 : w.heap.size + 1 ≤ w4.heap.size := Nat.le_trans HS3.out hg4.size
  have HCP := Lib.hid (compactRowS w4 _ n (.slice a2 n cap2) _ ho4 (by rw [List.length_mergeSort]; exact HN.out))
  have HX4 := Lib.hid x4
  have HB4 := Lib.hid hb4
  have HS4 := Lib.hid hs4
  have HNE := Lib.hid hne
  have HO4 := Lib.hid ho4
  clear ho4 hg4 hne x4 hb4 hs4 HST HX3 HO3 HB3 HS3
  go_wp2_with fail
  refine HCP.out.mono ?_
  rintro e w5 ⟨v5', rfl, ho5, hv5, hg5⟩
  obtain ⟨a5, cap5, rfl, _⟩ := Row.of_owns ho5
  have x5 : Boxed w5 w.heap.size 108 (.slice a2 n cap2) := HX4.out.kept hg5 (fun e => HNE.out e.symm)
  have c5 := x5.cell
  have f5 := x5.frozen
  rw [setL_sorted ordT] at ho5 hv5
  rw [setL_sorted ordT]
  generalize hm5 : (setL ltT l).length = m5 at *
  have HM5 := Lib.hid hm5
  clear hm5
  have hb5 : Below w.heap.size w w5 := HB4.out.grown hg5 (by have := HS4.out; omega) (fun k hk => by have := (HO4.out.lt k hk).1; omega)
  have HFIN : Hid (SetS (w5.setCell ⟨w.heap.size, 0, none⟩ (.slice a5 m5 cap5)) w.heap.size (.slice a5 m5 cap5) (setL ltT l) ∧ Below w.heap.size w (w5.setCell ⟨w.heap.size, 0, none⟩ (.slice a5 m5 cap5))) :=
    ⟨⟨x5.set (.slice a5 m5 cap5), by rw [HM5.out]; exact ho5.kept (grownBy_setCell' w5 w.heap.size (.slice a5 m5 cap5)) (.inr (by rw [hv5]; exact HNE.out)), (setL_is ordT l).1⟩, hb5.setCell (by simp) _⟩
  clear ho5 hv5 hg5 x5 hb5 HCP HX4 HB4 HS4 HNE HO4 c4
  go_wp2
  go_ret
  exact ⟨_, _, rfl, HFIN.out.1, HFIN.out.2, Nat.le_refl _⟩
theorem size_sS (w : World) : (sizeOf (Try.prog.elem 32)).run Try.prog w = .ok 1 w := by kernel_rfl
theorem row_ofS {w : World} {base cap : Nat} {a : Option Addr} {l : List ByteArray} (h : w.ownsRow base 9 1 (.slice a l.length cap) l.length (l.map fun x => (Value.string x : Value))) : Row w a l.length (fun j => (Value.string (l.getD j (⟨#[]⟩ : ByteArray)) : Value)) :=
  (owns_row h).1.congr fun j hj => by
    rw [List.getD_eq_getElem?_getD, List.getElem?_map, List.getElem?_eq_getElem hj, List.getD_eq_getElem?_getD, List.getElem?_eq_getElem hj]; rfl
set_option maxRecDepth 100000 in
set_option maxHeartbeats 1000000 in
theorem bsfS (w : World) (a : Option Addr) (n cap : Nat) (l : List ByteArray) (hl : l.length = n) (hr : Row w a n (fun j => (Value.string (l.getD j (⟨#[]⟩ : ByteArray)) : Value))) (hrs : Rise ltT l) (hn : n ≤ 1000000) (x : ByteArray) :
    Calls Try.prog 113 #[.slice a n cap, Value.string x, .func (.func 78) #[] #[]] w fun e w' => e = .returned (.tuple #[.int .i64 (rk ltT l x : Nat), .bool (memB l x)]) ∧ w' = w := by
  have hix := run_ix (P := Try.prog) 32 (by kernel_rfl) size_sS a n cap hr.at_ .i64
  have eg := egCS
  have hrn := rk_le (lt := ltT) l x
  rw [hl] at hrn
  have HR := Lib.hid hr
  have HIX := Lib.hid hix
  have HC := Lib.hid (fun y W => cmpS y x W)
  have HP := Lib.hid (fun h (hh : h < n) => show decide (cmpf ltT (l.getD h (⟨#[]⟩ : ByteArray)) x < 0) = true ↔ h < rk ltT l x by
    rw [cmpf_neg, List.getD_eq_getElem?_getD, List.getElem?_eq_getElem (by omega)]
    exact rk_at ordT hrs x h (by omega))
  have HM : Hid (memB l x = (decide (rk ltT l x < n) && decide (cmpf ltT (l.getD (rk ltT l x) (⟨#[]⟩ : ByteArray)) x = 0))) := by
    show _ = _
    by_cases hm : x ∈ l
    · obtain ⟨h1, h2⟩ := (rk_mem ordT hrs x).1 hm
      have e : l.getD (rk ltT l x) (⟨#[]⟩ : ByteArray) = x := by rw [List.getD_eq_getElem?_getD, List.getElem?_eq_getElem h1, Option.getD_some, h2]
      rw [memB_true hm, e, decide_eq_true (by omega), decide_eq_true ((cmpf_zero ordT x x).2 rfl)]; rfl
    · rw [memB_false hm]
      by_cases h1 : rk ltT l x < n
      · rw [decide_eq_false (p := cmpf ltT (l.getD (rk ltT l x) (⟨#[]⟩ : ByteArray)) x = 0) (fun e => hm ((rk_mem ordT hrs x).2 ⟨by omega, by
          have := (cmpf_zero ordT _ _).1 e
          rwa [List.getD_eq_getElem?_getD, List.getElem?_eq_getElem (by omega), Option.getD_some] at this⟩))]; simp
      · rw [decide_eq_false h1]; rfl
  clear hr hix hrs hl
  generalize memB l x = mb at *
  generalize rk ltT l x = t at *
  go_enter Try.func113, Try.ntmps113
  go_wp2
  go_loop [9, 10] (fun ii jj => ∃ i j : Nat, i ≤ t ∧ t ≤ j ∧ j ≤ n ∧ ii = .int .i64 i ∧ jj = .int .i64 j) (fun ii jj => (intOf jj).toNat - (intOf ii).toNat)
  case atStart => exact ⟨0, n, Nat.zero_le _, hrn, Nat.le_refl _, rfl, rfl⟩
  case round =>
    obtain ⟨i, j, hi, hj, hjn, rfl, rfl⟩ := hrel
    by_cases hij : (i : Int) < (j : Int)
    · obtain ⟨h, hh⟩ : ∃ h, h = (i + j) / 2 := ⟨_, rfl⟩
      have hhn : h < n := by omega
      have d := HR.out.cell h hhn
      have hlh := HP.out h hhn
      have hxk := fun W => HIX.out W h hhn
      have hb1 : i ≤ h := by omega
      have hb2 : h < j := by omega
      have e2 : ((i : Int) + (j : Int)) / 2 = (h : Int) := by omega
      rw [← e2] at hxk
      have E2 := Lib.hid e2
      have e1 : IntKind.u64.wrap ((i : Int) + (j : Int)) = (i : Int) + (j : Int) := IntWalk.u64_in _ (by omega)
      have e3 : IntKind.i64.wrap (((i : Int) + (j : Int)) / 2) = ((i : Int) + (j : Int)) / 2 := IntWalk.i64_in _ (by omega)
      clear hh e2
      have HLH := Lib.hid hlh
      clear hlh
      generalize l.getD h (⟨#[]⟩ : ByteArray) = y at *
      go_wp2_with fail
      clear e1 e3 d hxk
      refine (HC.out _ _).mono ?_
      rintro e w' ⟨rfl, rfl⟩
      have hdd : decide (cmpf ltT y x < 0) = decide (h < t) := by
        have := HLH.out
        by_cases g : h < t
        · rw [this.2 g, decide_eq_true g]
        · rw [decide_eq_false g]
          cases q : decide (cmpf ltT y x < 0) with
          | false => rfl
          | true => exact absurd (this.1 q) g
      clear HLH
      by_cases hfx : h < t
      · rw [decide_eq_true hfx] at hdd
        generalize cmpf ltT y x = r at *
        go_wp2
        go_round
        case rel => have e2 := E2.out; exact ⟨h + 1, j, by omega, hj, hjn, by first | (rw [E2.out]; go_num; done) | (have e2 := E2.out; congr 1; omega), rfl⟩
        case measure => have e2 := E2.out; simp [intOf]; omega
      · rw [decide_eq_false hfx] at hdd
        generalize cmpf ltT y x = r at *
        go_wp2
        go_round
        case rel => exact ⟨i, h, hi, by omega, by omega, rfl, by rw [E2.out]⟩
        case measure => have e2 := E2.out; simp [intOf]; omega
    · obtain rfl : i = t := by omega
      have hd : decide ((i : Int) < (j : Int)) = false := by simpa using hij
      by_cases hin : i < n
      · have d := HR.out.cell i hin
        have hxk := fun W => HIX.out W i hin
        have ti : (i : Int) < (n : Int) := by omega
        have hm := HM.out
        rw [decide_eq_true hin, Bool.true_and] at hm
        have HM2 := Lib.hid hm
        clear hm HM
        generalize l.getD i (⟨#[]⟩ : ByteArray) = y at *
        go_wp2_with fail
        refine (HC.out _ _).mono ?_
        rintro e w' ⟨rfl, rfl⟩
        have hm := HM2.out
        have hb : (cmpf ltT y x == 0) = mb := by rw [hm]; exact (Bool.beq_eq_decide_eq _ _)
        have HB := Lib.hid hb
        clear hb hm HM2
        generalize cmpf ltT y x = r at *
        go_wp2
        (try simp only [Exit.inBlock, Exit.then]); refine bodyPost_ret (results_tmp2 rfl _ _ _) rfl ?_
        exact ⟨by rw [← HB.out]; rfl, rfl⟩
      · have ti : ¬ (i : Int) < (n : Int) := by omega
        have hm := HM.out
        rw [decide_eq_false hin, Bool.false_and] at hm
        subst hm
        clear HM
        go_wp2
        (try simp only [Exit.inBlock, Exit.then]); refine bodyPost_ret (results_tmp2 rfl _ _ _) rfl ?_
        exact ⟨rfl, rfl⟩
set_option maxRecDepth 100000 in
theorem placeS (w : World) (p : Nat) (v : Value) (l : List ByteArray) (h : SetS w p v l) (hn : l.length ≤ 1000000) (x : ByteArray) :
    Calls Try.prog 84 #[.pointer (some ⟨p, 0, none⟩), Value.string x] w fun e w' => e = .returned (.tuple #[.int .i64 (rk ltT l x : Nat), .bool (memB l x)]) ∧ w' = w := by
  have c := h.box.cell
  obtain ⟨a, cap, rfl, _⟩ := Row.of_owns h.row
  have HF := Lib.hid (bsfS w a l.length cap l rfl (row_ofS h.row) h.rise hn x)
  generalize l.length = n at *
  clear h
  go_enter Try.func84, Try.ntmps84
  go_wp2_with (go_at_call 113; refine HF.out.mono ?_; rintro e w' ⟨rfl, rfl⟩)
  (try simp only [Exit.inBlock, Exit.then]); refine bodyPost_ret (results_tmp2 rfl _ _ _) rfl ?_
  exact ⟨rfl, rfl⟩
set_option maxRecDepth 100000 in
theorem hasS (w : World) (p : Nat) (v : Value) (l : List ByteArray) (h : SetS w p v l) (hn : l.length ≤ 1000000) (x : ByteArray) :
    Calls Try.prog 40 #[.pointer (some ⟨p, 0, none⟩), Value.string x] w fun e w' => e = .returned (.bool (memB l x)) ∧ w' = w := by
  have HF := Lib.hid (placeS w p v l h hn x)
  clear h
  generalize memB l x = b at *
  go_enter Try.func40, Try.ntmps40
  go_wp2_with (go_at_call 84; refine HF.out.mono ?_; rintro e w' ⟨rfl, rfl⟩)
  go_ret
  exact ⟨rfl, rfl⟩
set_option maxRecDepth 100000 in
theorem rankS (w : World) (p : Nat) (v : Value) (l : List ByteArray) (h : SetS w p v l) (hn : l.length ≤ 1000000) (x : ByteArray) :
    Calls Try.prog 66 #[.pointer (some ⟨p, 0, none⟩), Value.string x] w fun e w' => e = .returned (.int .i64 (rk ltT l x : Nat)) ∧ w' = w := by
  have HF := Lib.hid (placeS w p v l h hn x)
  clear h
  generalize memB l x = b at *
  go_enter Try.func66, Try.ntmps66
  go_wp2_with (go_at_call 84; refine HF.out.mono ?_; rintro e w' ⟨rfl, rfl⟩)
  go_ret
  exact ⟨rfl, rfl⟩
set_option maxRecDepth 100000 in
theorem lenS (w : World) (p : Nat) (v : Value) (l : List ByteArray) (h : SetS w p v l) :
    Calls Try.prog 39 #[.pointer (some ⟨p, 0, none⟩)] w fun e w' => e = .returned (.int .i64 (l.length : Nat)) ∧ w' = w := by
  have c := h.box.cell
  obtain ⟨a, cap, rfl, _⟩ := Row.of_owns h.row
  generalize l.length = n at *
  clear h
  go_enter Try.func39, Try.ntmps39
  go_wp2
  go_ret
  exact ⟨rfl, rfl⟩
def atLS (l : List ByteArray) (i : Int) : ByteArray := if 0 ≤ i ∧ i < l.length then l.getD i.toNat (⟨#[]⟩ : ByteArray) else (⟨#[]⟩ : ByteArray)
set_option maxRecDepth 100000 in
theorem atS (w : World) (p : Nat) (v : Value) (l : List ByteArray) (h : SetS w p v l) (i : Int) :
    Calls Try.prog 65 #[.pointer (some ⟨p, 0, none⟩), .int .i64 i] w fun e w' => e = .returned (.tuple #[Value.string (atLS l i), .bool (decide (0 ≤ i ∧ i < (l.length : Int)))]) ∧ w' = w := by
  have c := h.box.cell
  obtain ⟨a, cap, rfl, _, hr, _⟩ := Row.of_owns h.row
  by_cases h0 : i < 0
  · have hP : Hid (Value.string (atLS l i) = Value.string (⟨#[]⟩ : ByteArray) ∧ decide (0 ≤ i ∧ i < (l.length : Int)) = false) := ⟨by unfold atLS; rw [if_neg (by omega)], by simp; omega⟩
    rw [hP.out.1, hP.out.2]
    generalize l.length = n at *
    clear h hr hP
    go_enter Try.func65, Try.ntmps65
    go_wp2
    (try simp only [Exit.inBlock, Exit.then]); refine bodyPost_ret (results_tmp2 rfl _ _ _) rfl ?_
    exact ⟨rfl, rfl⟩
  · by_cases h1 : (l.length : Int) ≤ i
    · have hP : Hid (Value.string (atLS l i) = Value.string (⟨#[]⟩ : ByteArray) ∧ decide (0 ≤ i ∧ i < (l.length : Int)) = false) := ⟨by unfold atLS; rw [if_neg (by omega)], by simp; omega⟩
      rw [hP.out.1, hP.out.2]
      generalize l.length = n at *
      clear h hr hP
      have h0' : decide (i < 0) = false := by simpa using h0
      go_enter Try.func65, Try.ntmps65
      go_wp2
      (try simp only [Exit.inBlock, Exit.then]); refine bodyPost_ret (results_tmp2 rfl _ _ _) rfl ?_
      exact ⟨rfl, rfl⟩
    · obtain ⟨k, rfl⟩ : ∃ k : Nat, i = (k : Int) := ⟨i.toNat, by omega⟩
      have hk : k < l.length := by omega
      have hP : Hid (Value.string (atLS l k) = Value.string (l.getD k (⟨#[]⟩ : ByteArray)) ∧ decide (0 ≤ (k : Int) ∧ (k : Int) < (l.length : Int)) = true) := ⟨by unfold atLS; rw [if_pos (by omega), Int.toNat_natCast], by simp; omega⟩
      rw [hP.out.1, hP.out.2]
      have hc := hr.cell k hk
      have e1 : (l.map fun x => (Value.string x : Value)).getD k undef = Value.string (l.getD k (⟨#[]⟩ : ByteArray)) := by
        rw [List.getD_eq_getElem?_getD, List.getElem?_map, List.getElem?_eq_getElem hk, List.getD_eq_getElem?_getD, List.getElem?_eq_getElem hk]; rfl
      rw [e1] at hc
      have hix := run_ix (P := Try.prog) 32 (by kernel_rfl) size_sS a l.length cap hr.at_ .i64
      have hxk := fun W => hix W k hk
      have t1 : ¬ ((l.length : Int) ≤ (k : Int)) := h1
      have t2 : ¬ ((k : Int) < 0) := h0
      generalize l.getD k (⟨#[]⟩ : ByteArray) = y at *
      generalize l.length = n at *
      clear h hr hP hix e1 h1
      go_enter Try.func65, Try.ntmps65
      go_wp2
      (try simp only [Exit.inBlock, Exit.then]); refine bodyPost_ret (results_tmp2 rfl _ _ _) rfl ?_
      exact ⟨rfl, rfl⟩
end Go.Proofs.Ytoifmfdaghmleaa
