/-
  A map: made, looked up.
-/
import Derived.Test.YtoifmfdaghmleaaBagSet
import Derived.Test.YtoifmfdaghmleaaMapL
import Derived.Test.YtoifmfdaghmleaaOpsOpen
set_option linter.unusedVariables false
namespace Go.Proofs.Ytoifmfdaghmleaa
open Go.RowKit Go.Lib Go.Sort Go.Shelf
attribute [local go_sem] Oper.semAt_some

/-- a key's value, or what stands for none -/
def mgetV {α : Type} [DecidableEq α] (lt : α → α → Bool) (z : Value) (l : List (α × Value)) (x : α) : Value := if x ∈ keysL l then (l[rk lt (keysL l) x]?.map Prod.snd).getD z else z
/-- a map: its struct at p, its row behind it -/
structure MapS (W : World) (p : Nat) (v : Value) (l : List (ByteArray × Value)) : Prop where
  box : Boxed W p 121 v
  row : W.ownsRow (p + 1) 123 2 v l.length (mvs (fun x : ByteArray => (Value.string x : Value)) l)
  rise : Rise ltT (keysL l)
  one : ∀ e ∈ l, e.2.oneCell' = true
theorem MapS.ne {W : World} {p : Nat} {v : Value} {l : List (ByteArray × Value)} (h : MapS W p v l) : v.ownBlock ≠ some p := fun e => by have := (h.row.lt p e).1; omega
theorem MapS.gb {W W' : World} {p : Nat} {v : Value} {l : List (ByteArray × Value)} {row : Option Nat} (h : MapS W p v l) (hg : W.grownBy W' row) (h1 : some p ≠ row) (h2 : v.ownBlock = none ∨ v.ownBlock ≠ row) : MapS W' p v l :=
  ⟨h.box.kept hg h1, h.row.kept hg h2, h.rise, h.one⟩
theorem MapS.kept {W W' : World} {p : Nat} {v : Value} {l : List (ByteArray × Value)} (h : MapS W p v l) (hb : Below W.heap.size W W') : MapS W' p v l :=
  h.gb (gb_below hb none) (by simp) (by cases v.ownBlock <;> simp)
set_option maxRecDepth 100000 in
theorem newMapS (w : World) : Calls Try.prog 49 #[] w fun e w' => e = .returned (.pointer (some ⟨w.heap.size, 0, none⟩)) ∧ MapS w' w.heap.size (.slice none 0 0) [] ∧ Below w.heap.size w w' := by
  have b1 := Boxed.new w 121 (.slice none 0 0)
  have hb1 : Below w.heap.size w (w.alloc (.cells #[.slice none 0 0] 121)) := (Below.refl _ w).alloc (Nat.le_refl _) _
  have HB := Lib.hid b1
  have HW := Lib.hid hb1
  clear b1 hb1
  go_enter Try.func49, Try.ntmps49
  go_wp2
  go_ret
  exact ⟨rfl, ⟨HB.out, World.ownsRow_nil _ _ _ _, rise_nil, fun e he => (List.not_mem_nil he).elim⟩, HW.out⟩
theorem egMS : ∀ args W, (callFunc 118 args).run Try.prog W = .ok (.enter 118 args) W := enters_of Try.func118 (by kernel_rfl) rfl
set_option maxRecDepth 100000 in
theorem plcS (W : World) (x : ByteArray) (v : Value) (y : ByteArray) (h1 : v.oneCell' = true) : Calls Try.prog 118 #[.agg #[Value.string x, v], Value.string y] W fun e w' => e = .returned (.int .i64 (cmpf ltT x y)) ∧ Below W.heap.size W w' := by
  have HC := Lib.hid (fun W => cmpS x y W)
  have HW := Lib.hid (show Below W.heap.size W (W.alloc (.cells #[Value.string x, v] 123)) from (Below.refl _ W).alloc (Nat.le_refl _) _)
  go_enter Try.func118, Try.ntmps118
  go_wp2_with (go_at_call 78; refine (HC.out _).mono ?_; rintro e w' ⟨rfl, rfl⟩)
  go_ret
  exact ⟨rfl, HW.out⟩
theorem mkeyS {l : List (ByteArray × Value)} {w : World} {a : Option Addr} (hr : Row w a (l.length * 2) (fun j => (mvs (fun x : ByteArray => (Value.string x : Value)) l).getD j undef)) (k : Nat) (hk : k < l.length) :
    w.cell? ⟨bOf a, oOf a + k * 2, none⟩ = some (Value.string ((keysL l).getD k (⟨#[]⟩ : ByteArray))) ∧ w.cell? ⟨bOf a, oOf a + k * 2 + 1, none⟩ = some (l[k].2) := by
  obtain ⟨h1, h2⟩ := mvs_at (fun x : ByteArray => (Value.string x : Value)) l k hk
  have c1 := hr.cell (k * 2) (by omega)
  have c2 := hr.cell (k * 2 + 1) (by omega)
  rw [List.getD_eq_getElem?_getD, h1] at c1
  rw [List.getD_eq_getElem?_getD, h2, ← Nat.add_assoc] at c2
  have e : (keysL l).getD k (⟨#[]⟩ : ByteArray) = l[k].1 := by unfold keysL; rw [List.getD_eq_getElem?_getD, List.getElem?_map, List.getElem?_eq_getElem hk]; rfl
  rw [e]
  exact ⟨c1, c2⟩
set_option maxRecDepth 100000 in
set_option maxHeartbeats 1000000 in
theorem bsmS (w : World) (a : Option Addr) (n cap : Nat) (l : List (ByteArray × Value)) (hl : l.length = n) (hr : Row w a (l.length * 2) (fun j => (mvs (fun x : ByteArray => (Value.string x : Value)) l).getD j undef)) (h1 : ∀ e ∈ l, e.2.oneCell' = true) (hrs : Rise ltT (keysL l)) (hn : n ≤ 1000000) (x : ByteArray) :
    Calls Try.prog 117 #[.slice a n cap, Value.string x, .func (.func 118) #[] #[]] w fun e w' => e = .returned (.tuple #[.int .i64 (rk ltT (keysL l) x : Nat), .bool (memB (keysL l) x)]) ∧ Below w.heap.size w w' := by
  have hat : n = 0 ∨ a = some ⟨bOf a, oOf a, none⟩ := hr.at_.imp (fun e => by omega) id
  have hix := run_ixN (P := Try.prog) 119 2 (by kernel_rfl) (fun w => by kernel_rfl) a n cap hat
  have eg := egMS
  have hkl := keysL_len l
  have hrn := rk_le (lt := ltT) (keysL l) x
  rw [hkl, hl] at hrn
  have HR := Lib.hid (fun W (hW : Below w.heap.size w W) h (hh : h < n) => mkeyS (hr.kept hW) h (by omega))
  have HIX := Lib.hid hix
  have HC := Lib.hid (fun y u hu W => plcS W y u x hu)
  have H1 := Lib.hid (fun h (hh : h < l.length) => h1 l[h] (List.getElem_mem _))
  have HP := Lib.hid (fun h (hh : h < n) => show decide (cmpf ltT ((keysL l).getD h (⟨#[]⟩ : ByteArray)) x < 0) = true ↔ h < rk ltT (keysL l) x by
    rw [cmpf_neg, List.getD_eq_getElem?_getD, List.getElem?_eq_getElem (by omega)]
    exact rk_at ordT hrs x h (by omega))
  have HM : Hid (memB (keysL l) x = (decide (rk ltT (keysL l) x < n) && decide (cmpf ltT ((keysL l).getD (rk ltT (keysL l) x) (⟨#[]⟩ : ByteArray)) x = 0))) := by
    show _ = _
    by_cases hm : x ∈ keysL l
    · obtain ⟨h1, h2⟩ := (rk_mem ordT hrs x).1 hm
      have e : (keysL l).getD (rk ltT (keysL l) x) (⟨#[]⟩ : ByteArray) = x := by rw [List.getD_eq_getElem?_getD, List.getElem?_eq_getElem h1, Option.getD_some, h2]
      rw [memB_true hm, e, decide_eq_true (by omega), decide_eq_true ((cmpf_zero ordT x x).2 rfl)]; rfl
    · rw [memB_false hm]
      by_cases h1 : rk ltT (keysL l) x < n
      · rw [decide_eq_false (p := cmpf ltT ((keysL l).getD (rk ltT (keysL l) x) (⟨#[]⟩ : ByteArray)) x = 0) (fun e => hm ((rk_mem ordT hrs x).2 ⟨by omega, by
          have := (cmpf_zero ordT _ _).1 e
          rwa [List.getD_eq_getElem?_getD, List.getElem?_eq_getElem (by omega), Option.getD_some] at this⟩))]; simp
      · rw [decide_eq_false h1]; rfl
  have HL := Lib.hid hl
  clear hr hix hrs h1 hat
  replace hl := trivial
  replace hkl := trivial
  generalize memB (keysL l) x = mb at *
  generalize rk ltT (keysL l) x = t at *
  go_enter Try.func117, Try.ntmps117
  go_wp2
  go_loopw [9, 10] (fun ii jj wr => ∃ i j : Nat, i ≤ t ∧ t ≤ j ∧ j ≤ n ∧ ii = .int .i64 i ∧ jj = .int .i64 j ∧ Below w.heap.size w wr) (fun ii jj _ => (intOf jj).toNat - (intOf ii).toNat)
  case atStart => exact ⟨0, n, Nat.zero_le _, hrn, Nat.le_refl _, rfl, rfl, Below.refl _ _⟩
  case round =>
    obtain ⟨i, j, hi, hj, hjn, rfl, rfl, hb⟩ := hrel
    have HB := Lib.hid hb
    clear hb
    by_cases hij : (i : Int) < (j : Int)
    · obtain ⟨h, hh⟩ : ∃ h, h = (i + j) / 2 := ⟨_, rfl⟩
      have hhn : h < n := by omega
      obtain ⟨d0, d1⟩ := HR.out wr HB.out h hhn
      have hlh := HP.out h hhn
      have hone := H1.out h (by rw [HL.out]; exact hhn)
      have hxk := fun W => HIX.out W h hhn
      have hb1 : i ≤ h := by omega
      have hb2 : h < j := by omega
      have e2 : ((i : Int) + (j : Int)) / 2 = (h : Int) := by omega
      rw [← e2] at hxk
      have E2 := Lib.hid e2
      have e1 : IntKind.u64.wrap ((i : Int) + (j : Int)) = (i : Int) + (j : Int) := IntWalk.u64_in _ (by omega)
      have e3 : IntKind.i64.wrap (((i : Int) + (j : Int)) / 2) = ((i : Int) + (j : Int)) / 2 := IntWalk.i64_in _ (by omega)
      clear hh e2
      have HLH := Lib.hid hlh
      have HC1 := Lib.hid (HC.out ((keysL l).getD h (⟨#[]⟩ : ByteArray)) _ hone)
      clear hlh hone
      generalize (keysL l).getD h (⟨#[]⟩ : ByteArray) = y at *
      generalize (l[h]'(by rw [HL.out]; exact hhn)).2 = u at *
      go_wp2_with fail
      clear e1 e3 d0 d1 hxk
      refine (HC1.out _).mono ?_
      rintro e w' ⟨rfl, hbw⟩
      have HBW := Lib.hid (below_next HB.out hbw HB.out.size)
      clear hbw HC1
      have hdd : decide (cmpf ltT y x < 0) = decide (h < t) := by
        have := HLH.out
        by_cases g : h < t
        · rw [this.2 g, decide_eq_true g]
        · rw [decide_eq_false g]
          cases q : decide (cmpf ltT y x < 0) with
          | false => rfl
          | true => exact absurd (this.1 q) g
      clear HLH
      by_cases hfx : h < t
      · rw [decide_eq_true hfx] at hdd
        generalize cmpf ltT y x = r at *
        go_wp2
        go_roundw
        case rel => have e2 := E2.out; exact ⟨h + 1, j, by omega, hj, hjn, by first | (rw [E2.out]; go_num; done) | (have e2 := E2.out; congr 1; omega), rfl, HBW.out⟩
        case measure => have e2 := E2.out; simp [intOf]; omega
      · rw [decide_eq_false hfx] at hdd
        generalize cmpf ltT y x = r at *
        go_wp2
        go_roundw
        case rel => exact ⟨i, h, hi, by omega, by omega, rfl, by rw [E2.out], HBW.out⟩
        case measure => have e2 := E2.out; simp [intOf]; omega
    · obtain rfl : i = t := by omega
      have hd : decide ((i : Int) < (j : Int)) = false := by simpa using hij
      by_cases hin : i < n
      · obtain ⟨d0, d1⟩ := HR.out wr HB.out i hin
        have hone := H1.out i (by rw [HL.out]; exact hin)
        have hxk := fun W => HIX.out W i hin
        have ti : (i : Int) < (n : Int) := by omega
        have hm := HM.out
        rw [decide_eq_true hin, Bool.true_and] at hm
        have HM2 := Lib.hid hm
        have HC1 := Lib.hid (HC.out ((keysL l).getD i (⟨#[]⟩ : ByteArray)) _ hone)
        clear hm HM hone
        generalize (keysL l).getD i (⟨#[]⟩ : ByteArray) = y at *
        generalize (l[i]'(by rw [HL.out]; exact hin)).2 = u at *
        go_wp2_with fail
        refine (HC1.out _).mono ?_
        rintro e w' ⟨rfl, hbw⟩
        have HBW := Lib.hid (below_next HB.out hbw HB.out.size)
        clear hbw HC1 d0 d1 hxk
        have hm := HM2.out
        have hb : (cmpf ltT y x == 0) = mb := by rw [hm]; exact (Bool.beq_eq_decide_eq _ _)
        have HBB := Lib.hid hb
        clear hb hm HM2
        generalize cmpf ltT y x = r at *
        go_wp2
        (try simp only [Exit.inBlock, Exit.then]); refine bodyPost_ret (results_tmp2 rfl _ _ _) rfl ?_
        exact ⟨by rw [← HBB.out]; rfl, HBW.out⟩
      · have ti : ¬ (i : Int) < (n : Int) := by omega
        have hm := HM.out
        rw [decide_eq_false hin, Bool.false_and] at hm
        subst hm
        clear HM
        go_wp2
        (try simp only [Exit.inBlock, Exit.then]); refine bodyPost_ret (results_tmp2 rfl _ _ _) rfl ?_
        exact ⟨rfl, HB.out⟩
set_option maxRecDepth 100000 in
theorem placeMS (w : World) (p : Nat) (v : Value) (l : List (ByteArray × Value)) (h : MapS w p v l) (hn : l.length ≤ 1000000) (x : ByteArray) :
    Calls Try.prog 89 #[.pointer (some ⟨p, 0, none⟩), Value.string x] w fun e w' => e = .returned (.tuple #[.int .i64 (rk ltT (keysL l) x : Nat), .bool (memB (keysL l) x)]) ∧ Below w.heap.size w w' := by
  have c := h.box.cell
  obtain ⟨a, cap, rfl, hc, hr, _⟩ := mrow_of_owns h.row rfl
  have HF := Lib.hid (bsmS w a l.length cap l rfl hr h.one h.rise hn x)
  generalize l.length = n at *
  clear h hr
  go_enter Try.func89, Try.ntmps89
  go_wp2_with (go_at_call 117; refine HF.out.mono ?_; rintro e w' ⟨rfl, hb⟩; have HB := Lib.hid hb; clear hb)
  (try simp only [Exit.inBlock, Exit.then]); refine bodyPost_ret (results_tmp2 rfl _ _ _) rfl ?_
  exact ⟨rfl, HB.out⟩
set_option maxRecDepth 100000 in
theorem lenMS (w : World) (p : Nat) (v : Value) (l : List (ByteArray × Value)) (h : MapS w p v l) :
    Calls Try.prog 54 #[.pointer (some ⟨p, 0, none⟩)] w fun e w' => e = .returned (.int .i64 (l.length : Nat)) ∧ w' = w := by
  have c := h.box.cell
  obtain ⟨a, cap, rfl, _⟩ := mrow_of_owns h.row rfl
  generalize l.length = n at *
  clear h
  go_enter Try.func54, Try.ntmps54
  go_wp2
  go_ret
  exact ⟨rfl, rfl⟩
set_option maxRecDepth 100000 in
set_option maxHeartbeats 1000000 in
theorem getMS (w : World) (p : Nat) (v : Value) (l : List (ByteArray × Value)) (h : MapS w p v l) (hn : l.length ≤ 1000000) (x : ByteArray) :
    Calls Try.prog 52 #[.pointer (some ⟨p, 0, none⟩), Value.string x] w fun e w' => e = .returned (.tuple #[mgetV ltT (Value.int .i64 0) l x, .bool (memB (keysL l) x)]) ∧ Below w.heap.size w w' := by
  have HPL := Lib.hid (placeMS w p v l h hn x)
  obtain ⟨a, cap, rfl, hc, hr, _⟩ := mrow_of_owns h.row rfl
  have HM := Lib.hid h
  have HR := Lib.hid hr
  by_cases hm : x ∈ keysL l
  · have hlt := ((rk_mem ordT h.rise x).1 hm).1
    rw [keysL_len] at hlt
    have hg : mgetV ltT (Value.int .i64 0) l x = l[rk ltT (keysL l) x].2 := by unfold mgetV; rw [if_pos hm, List.getElem?_eq_getElem hlt]; rfl
    rw [hg]
    rw [memB_true hm] at HPL ⊢
    have HCL := Lib.hid (fun W (hW : Below w.heap.size w W) => mkeyS (hr.kept hW) (rk ltT (keysL l) x) hlt)
    have hix := run_ixN (P := Try.prog) 119 2 (by kernel_rfl) (fun w => by kernel_rfl) a l.length cap (hr.at_.imp (fun e => by omega) id)
    have hxk := fun W => hix W (rk ltT (keysL l) x) hlt
    clear hg hm h hr hix
    generalize l[rk ltT (keysL l) x].2 = u at *
    generalize rk ltT (keysL l) x = r at *
    go_enter Try.func52, Try.ntmps52
    go_wp2_with fail
    refine HPL.out.mono ?_
    rintro e w1 ⟨rfl, hb⟩
    have c1 := (HM.out.kept hb).box.cell
    obtain ⟨-, d1⟩ := HCL.out w1 hb
    have HB := Lib.hid hb
    clear hb HPL
    go_wp2
    (try simp only [Exit.inBlock, Exit.then]); refine bodyPost_ret (results_tmp2 rfl _ _ _) rfl ?_
    exact ⟨rfl, HB.out⟩
  · have hg : mgetV ltT (Value.int .i64 0) l x = (Value.int .i64 0) := by unfold mgetV; rw [if_neg hm]
    rw [hg]
    rw [memB_false hm] at HPL ⊢
    clear hg hm h hr
    generalize rk ltT (keysL l) x = r at *
    go_enter Try.func52, Try.ntmps52
    go_wp2_with fail
    refine HPL.out.mono ?_
    rintro e w1 ⟨rfl, hb⟩
    have HB := Lib.hid hb
    clear hb HPL
    go_wp2
    (try simp only [Exit.inBlock, Exit.then]); refine bodyPost_ret (results_tmp2 rfl _ _ _) rfl ?_
    exact ⟨rfl, HB.out⟩
/-- a map: its struct at p, its row behind it -/
structure MapI (W : World) (p : Nat) (v : Value) (l : List (Int × Value)) : Prop where
  box : Boxed W p 131 v
  row : W.ownsRow (p + 1) 133 2 v l.length (mvs (fun x : Int => (Value.int .i64 x : Value)) l)
  rise : Rise ltI (keysL l)
  one : ∀ e ∈ l, e.2.oneCell' = true
theorem MapI.ne {W : World} {p : Nat} {v : Value} {l : List (Int × Value)} (h : MapI W p v l) : v.ownBlock ≠ some p := fun e => by have := (h.row.lt p e).1; omega
theorem MapI.gb {W W' : World} {p : Nat} {v : Value} {l : List (Int × Value)} {row : Option Nat} (h : MapI W p v l) (hg : W.grownBy W' row) (h1 : some p ≠ row) (h2 : v.ownBlock = none ∨ v.ownBlock ≠ row) : MapI W' p v l :=
  ⟨h.box.kept hg h1, h.row.kept hg h2, h.rise, h.one⟩
theorem MapI.kept {W W' : World} {p : Nat} {v : Value} {l : List (Int × Value)} (h : MapI W p v l) (hb : Below W.heap.size W W') : MapI W' p v l :=
  h.gb (gb_below hb none) (by simp) (by cases v.ownBlock <;> simp)
set_option maxRecDepth 100000 in
theorem newMapI (w : World) : Calls Try.prog 55 #[] w fun e w' => e = .returned (.pointer (some ⟨w.heap.size, 0, none⟩)) ∧ MapI w' w.heap.size (.slice none 0 0) [] ∧ Below w.heap.size w w' := by
  have b1 := Boxed.new w 131 (.slice none 0 0)
  have hb1 : Below w.heap.size w (w.alloc (.cells #[.slice none 0 0] 131)) := (Below.refl _ w).alloc (Nat.le_refl _) _
  have HB := Lib.hid b1
  have HW := Lib.hid hb1
  clear b1 hb1
  go_enter Try.func55, Try.ntmps55
  go_wp2
  go_ret
  exact ⟨rfl, ⟨HB.out, World.ownsRow_nil _ _ _ _, rise_nil, fun e he => (List.not_mem_nil he).elim⟩, HW.out⟩
theorem egMI : ∀ args W, (callFunc 124 args).run Try.prog W = .ok (.enter 124 args) W := enters_of Try.func124 (by kernel_rfl) rfl
set_option maxRecDepth 100000 in
theorem plcI (W : World) (x : Int) (v : Value) (y : Int) (h1 : v.oneCell' = true) : Calls Try.prog 124 #[.agg #[Value.int .i64 x, v], Value.int .i64 y] W fun e w' => e = .returned (.int .i64 (cmpf ltI x y)) ∧ Below W.heap.size W w' := by
  have HC := Lib.hid (fun W => cmpI x y W)
  have HW := Lib.hid (show Below W.heap.size W (W.alloc (.cells #[Value.int .i64 x, v] 133)) from (Below.refl _ W).alloc (Nat.le_refl _) _)
  go_enter Try.func124, Try.ntmps124
  go_wp2_with (go_at_call 69; refine (HC.out _).mono ?_; rintro e w' ⟨rfl, rfl⟩)
  go_ret
  exact ⟨rfl, HW.out⟩
theorem mkeyI {l : List (Int × Value)} {w : World} {a : Option Addr} (hr : Row w a (l.length * 2) (fun j => (mvs (fun x : Int => (Value.int .i64 x : Value)) l).getD j undef)) (k : Nat) (hk : k < l.length) :
    w.cell? ⟨bOf a, oOf a + k * 2, none⟩ = some (Value.int .i64 ((keysL l).getD k (0 : Int))) ∧ w.cell? ⟨bOf a, oOf a + k * 2 + 1, none⟩ = some (l[k].2) := by
  obtain ⟨h1, h2⟩ := mvs_at (fun x : Int => (Value.int .i64 x : Value)) l k hk
  have c1 := hr.cell (k * 2) (by omega)
  have c2 := hr.cell (k * 2 + 1) (by omega)
  rw [List.getD_eq_getElem?_getD, h1] at c1
  rw [List.getD_eq_getElem?_getD, h2, ← Nat.add_assoc] at c2
  have e : (keysL l).getD k (0 : Int) = l[k].1 := by unfold keysL; rw [List.getD_eq_getElem?_getD, List.getElem?_map, List.getElem?_eq_getElem hk]; rfl
  rw [e]
  exact ⟨c1, c2⟩
set_option maxRecDepth 100000 in
set_option maxHeartbeats 1000000 in
theorem bsmI (w : World) (a : Option Addr) (n cap : Nat) (l : List (Int × Value)) (hl : l.length = n) (hr : Row w a (l.length * 2) (fun j => (mvs (fun x : Int => (Value.int .i64 x : Value)) l).getD j undef)) (h1 : ∀ e ∈ l, e.2.oneCell' = true) (hrs : Rise ltI (keysL l)) (hn : n ≤ 1000000) (x : Int) :
    Calls Try.prog 123 #[.slice a n cap, Value.int .i64 x, .func (.func 124) #[] #[]] w fun e w' => e = .returned (.tuple #[.int .i64 (rk ltI (keysL l) x : Nat), .bool (memB (keysL l) x)]) ∧ Below w.heap.size w w' := by
  have hat : n = 0 ∨ a = some ⟨bOf a, oOf a, none⟩ := hr.at_.imp (fun e => by omega) id
  have hix := run_ixN (P := Try.prog) 129 2 (by kernel_rfl) (fun w => by kernel_rfl) a n cap hat
  have eg := egMI
  have hkl := keysL_len l
  have hrn := rk_le (lt := ltI) (keysL l) x
  rw [hkl, hl] at hrn
  have HR := Lib.hid (fun W (hW : Below w.heap.size w W) h (hh : h < n) => mkeyI (hr.kept hW) h (by omega))
  have HIX := Lib.hid hix
  have HC := Lib.hid (fun y u hu W => plcI W y u x hu)
  have H1 := Lib.hid (fun h (hh : h < l.length) => h1 l[h] (List.getElem_mem _))
  have HP := Lib.hid (fun h (hh : h < n) => show decide (cmpf ltI ((keysL l).getD h (0 : Int)) x < 0) = true ↔ h < rk ltI (keysL l) x by
    rw [cmpf_neg, List.getD_eq_getElem?_getD, List.getElem?_eq_getElem (by omega)]
    exact rk_at ordI hrs x h (by omega))
  have HM : Hid (memB (keysL l) x = (decide (rk ltI (keysL l) x < n) && decide (cmpf ltI ((keysL l).getD (rk ltI (keysL l) x) (0 : Int)) x = 0))) := by
    show _ = _
    by_cases hm : x ∈ keysL l
    · obtain ⟨h1, h2⟩ := (rk_mem ordI hrs x).1 hm
      have e : (keysL l).getD (rk ltI (keysL l) x) (0 : Int) = x := by rw [List.getD_eq_getElem?_getD, List.getElem?_eq_getElem h1, Option.getD_some, h2]
      rw [memB_true hm, e, decide_eq_true (by omega), decide_eq_true ((cmpf_zero ordI x x).2 rfl)]; rfl
    · rw [memB_false hm]
      by_cases h1 : rk ltI (keysL l) x < n
      · rw [decide_eq_false (p := cmpf ltI ((keysL l).getD (rk ltI (keysL l) x) (0 : Int)) x = 0) (fun e => hm ((rk_mem ordI hrs x).2 ⟨by omega, by
          have := (cmpf_zero ordI _ _).1 e
          rwa [List.getD_eq_getElem?_getD, List.getElem?_eq_getElem (by omega), Option.getD_some] at this⟩))]; simp
      · rw [decide_eq_false h1]; rfl
  have HL := Lib.hid hl
  clear hr hix hrs h1 hat
  replace hl := trivial
  replace hkl := trivial
  generalize memB (keysL l) x = mb at *
  generalize rk ltI (keysL l) x = t at *
  go_enter Try.func123, Try.ntmps123
  go_wp2
  go_loopw [9, 10] (fun ii jj wr => ∃ i j : Nat, i ≤ t ∧ t ≤ j ∧ j ≤ n ∧ ii = .int .i64 i ∧ jj = .int .i64 j ∧ Below w.heap.size w wr) (fun ii jj _ => (intOf jj).toNat - (intOf ii).toNat)
  case atStart => exact ⟨0, n, Nat.zero_le _, hrn, Nat.le_refl _, rfl, rfl, Below.refl _ _⟩
  case round =>
    obtain ⟨i, j, hi, hj, hjn, rfl, rfl, hb⟩ := hrel
    have HB := Lib.hid hb
    clear hb
    by_cases hij : (i : Int) < (j : Int)
    · obtain ⟨h, hh⟩ : ∃ h, h = (i + j) / 2 := ⟨_, rfl⟩
      have hhn : h < n := by omega
      obtain ⟨d0, d1⟩ := HR.out wr HB.out h hhn
      have hlh := HP.out h hhn
      have hone := H1.out h (by rw [HL.out]; exact hhn)
      have hxk := fun W => HIX.out W h hhn
      have hb1 : i ≤ h := by omega
      have hb2 : h < j := by omega
      have e2 : ((i : Int) + (j : Int)) / 2 = (h : Int) := by omega
      rw [← e2] at hxk
      have E2 := Lib.hid e2
      have e1 : IntKind.u64.wrap ((i : Int) + (j : Int)) = (i : Int) + (j : Int) := IntWalk.u64_in _ (by omega)
      have e3 : IntKind.i64.wrap (((i : Int) + (j : Int)) / 2) = ((i : Int) + (j : Int)) / 2 := IntWalk.i64_in _ (by omega)
      clear hh e2
      have HLH := Lib.hid hlh
      have HC1 := Lib.hid (HC.out ((keysL l).getD h (0 : Int)) _ hone)
      clear hlh hone
      generalize (keysL l).getD h (0 : Int) = y at *
      generalize (l[h]'(by rw [HL.out]; exact hhn)).2 = u at *
      go_wp2_with fail
      clear e1 e3 d0 d1 hxk
      refine (HC1.out _).mono ?_
      rintro e w' ⟨rfl, hbw⟩
      have HBW := Lib.hid (below_next HB.out hbw HB.out.size)
      clear hbw HC1
      have hdd : decide (cmpf ltI y x < 0) = decide (h < t) := by
        have := HLH.out
        by_cases g : h < t
        · rw [this.2 g, decide_eq_true g]
        · rw [decide_eq_false g]
          cases q : decide (cmpf ltI y x < 0) with
          | false => rfl
          | true => exact absurd (this.1 q) g
      clear HLH
      by_cases hfx : h < t
      · rw [decide_eq_true hfx] at hdd
        generalize cmpf ltI y x = r at *
        go_wp2
        go_roundw
        case rel => have e2 := E2.out; exact ⟨h + 1, j, by omega, hj, hjn, by first | (rw [E2.out]; go_num; done) | (have e2 := E2.out; congr 1; omega), rfl, HBW.out⟩
        case measure => have e2 := E2.out; simp [intOf]; omega
      · rw [decide_eq_false hfx] at hdd
        generalize cmpf ltI y x = r at *
        go_wp2
        go_roundw
        case rel => exact ⟨i, h, hi, by omega, by omega, rfl, by rw [E2.out], HBW.out⟩
        case measure => have e2 := E2.out; simp [intOf]; omega
    · obtain rfl : i = t := by omega
      have hd : decide ((i : Int) < (j : Int)) = false := by simpa using hij
      by_cases hin : i < n
      · obtain ⟨d0, d1⟩ := HR.out wr HB.out i hin
        have hone := H1.out i (by rw [HL.out]; exact hin)
        have hxk := fun W => HIX.out W i hin
        have ti : (i : Int) < (n : Int) := by omega
        have hm := HM.out
        rw [decide_eq_true hin, Bool.true_and] at hm
        have HM2 := Lib.hid hm
        have HC1 := Lib.hid (HC.out ((keysL l).getD i (0 : Int)) _ hone)
        clear hm HM hone
        generalize (keysL l).getD i (0 : Int) = y at *
        generalize (l[i]'(by rw [HL.out]; exact hin)).2 = u at *
        go_wp2_with fail
        refine (HC1.out _).mono ?_
        rintro e w' ⟨rfl, hbw⟩
        have HBW := Lib.hid (below_next HB.out hbw HB.out.size)
        clear hbw HC1 d0 d1 hxk
        have hm := HM2.out
        have hb : (cmpf ltI y x == 0) = mb := by rw [hm]; exact (Bool.beq_eq_decide_eq _ _)
        have HBB := Lib.hid hb
        clear hb hm HM2
        generalize cmpf ltI y x = r at *
        go_wp2
        (try simp only [Exit.inBlock, Exit.then]); refine bodyPost_ret (results_tmp2 rfl _ _ _) rfl ?_
        exact ⟨by rw [← HBB.out]; rfl, HBW.out⟩
      · have ti : ¬ (i : Int) < (n : Int) := by omega
        have hm := HM.out
        rw [decide_eq_false hin, Bool.false_and] at hm
        subst hm
        clear HM
        go_wp2
        (try simp only [Exit.inBlock, Exit.then]); refine bodyPost_ret (results_tmp2 rfl _ _ _) rfl ?_
        exact ⟨rfl, HB.out⟩
set_option maxRecDepth 100000 in
theorem placeMI (w : World) (p : Nat) (v : Value) (l : List (Int × Value)) (h : MapI w p v l) (hn : l.length ≤ 1000000) (x : Int) :
    Calls Try.prog 93 #[.pointer (some ⟨p, 0, none⟩), Value.int .i64 x] w fun e w' => e = .returned (.tuple #[.int .i64 (rk ltI (keysL l) x : Nat), .bool (memB (keysL l) x)]) ∧ Below w.heap.size w w' := by
  have c := h.box.cell
  obtain ⟨a, cap, rfl, hc, hr, _⟩ := mrow_of_owns h.row rfl
  have HF := Lib.hid (bsmI w a l.length cap l rfl hr h.one h.rise hn x)
  generalize l.length = n at *
  clear h hr
  go_enter Try.func93, Try.ntmps93
  go_wp2_with (go_at_call 123; refine HF.out.mono ?_; rintro e w' ⟨rfl, hb⟩; have HB := Lib.hid hb; clear hb)
  (try simp only [Exit.inBlock, Exit.then]); refine bodyPost_ret (results_tmp2 rfl _ _ _) rfl ?_
  exact ⟨rfl, HB.out⟩
set_option maxRecDepth 100000 in
theorem lenMI (w : World) (p : Nat) (v : Value) (l : List (Int × Value)) (h : MapI w p v l) :
    Calls Try.prog 64 #[.pointer (some ⟨p, 0, none⟩)] w fun e w' => e = .returned (.int .i64 (l.length : Nat)) ∧ w' = w := by
  have c := h.box.cell
  obtain ⟨a, cap, rfl, _⟩ := mrow_of_owns h.row rfl
  generalize l.length = n at *
  clear h
  go_enter Try.func64, Try.ntmps64
  go_wp2
  go_ret
  exact ⟨rfl, rfl⟩
set_option maxRecDepth 100000 in
set_option maxHeartbeats 1000000 in
theorem getMI (w : World) (p : Nat) (v : Value) (l : List (Int × Value)) (h : MapI w p v l) (hn : l.length ≤ 1000000) (x : Int) :
    Calls Try.prog 56 #[.pointer (some ⟨p, 0, none⟩), Value.int .i64 x] w fun e w' => e = .returned (.tuple #[mgetV ltI (Value.slice none 0 0) l x, .bool (memB (keysL l) x)]) ∧ Below w.heap.size w w' := by
  have HPL := Lib.hid (placeMI w p v l h hn x)
  obtain ⟨a, cap, rfl, hc, hr, _⟩ := mrow_of_owns h.row rfl
  have HM := Lib.hid h
  have HR := Lib.hid hr
  by_cases hm : x ∈ keysL l
  · have hlt := ((rk_mem ordI h.rise x).1 hm).1
    rw [keysL_len] at hlt
    have hg : mgetV ltI (Value.slice none 0 0) l x = l[rk ltI (keysL l) x].2 := by unfold mgetV; rw [if_pos hm, List.getElem?_eq_getElem hlt]; rfl
    rw [hg]
    rw [memB_true hm] at HPL ⊢
    have HCL := Lib.hid (fun W (hW : Below w.heap.size w W) => mkeyI (hr.kept hW) (rk ltI (keysL l) x) hlt)
    have hix := run_ixN (P := Try.prog) 129 2 (by kernel_rfl) (fun w => by kernel_rfl) a l.length cap (hr.at_.imp (fun e => by omega) id)
    have hxk := fun W => hix W (rk ltI (keysL l) x) hlt
    clear hg hm h hr hix
    generalize l[rk ltI (keysL l) x].2 = u at *
    generalize rk ltI (keysL l) x = r at *
    go_enter Try.func56, Try.ntmps56
    go_wp2_with fail
    refine HPL.out.mono ?_
    rintro e w1 ⟨rfl, hb⟩
    have c1 := (HM.out.kept hb).box.cell
    obtain ⟨-, d1⟩ := HCL.out w1 hb
    have HB := Lib.hid hb
    clear hb HPL
    go_wp2
    (try simp only [Exit.inBlock, Exit.then]); refine bodyPost_ret (results_tmp2 rfl _ _ _) rfl ?_
    exact ⟨rfl, HB.out⟩
  · have hg : mgetV ltI (Value.slice none 0 0) l x = (Value.slice none 0 0) := by unfold mgetV; rw [if_neg hm]
    rw [hg]
    rw [memB_false hm] at HPL ⊢
    clear hg hm h hr
    generalize rk ltI (keysL l) x = r at *
    go_enter Try.func56, Try.ntmps56
    go_wp2_with fail
    refine HPL.out.mono ?_
    rintro e w1 ⟨rfl, hb⟩
    have HB := Lib.hid hb
    clear hb HPL
    go_wp2
    (try simp only [Exit.inBlock, Exit.then]); refine bodyPost_ret (results_tmp2 rfl _ _ _) rfl ?_
    exact ⟨rfl, HB.out⟩
end Go.Proofs.Ytoifmfdaghmleaa
