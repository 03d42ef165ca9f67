/-
  A set's iterators: All, From.
-/
import Derived.Test.YtoifmfdaghmleaaGreatBagSet
set_option linter.unusedVariables false
namespace Go.Proofs.YtoifmfdaghmleaaGreat
open Go.RowKit Go.Lib Go.Sort Go.Shelf
attribute [local go_sem] Oper.semAt_some

/-- a function that hands back a list -/
def ListCI (w : World) (fv : Value) (l : List Int) : Prop :=
  ∃ gl lbl, fv = .func (.func gl) #[] lbl ∧ (∀ args W, (callFunc gl args).run Tryz.prog W = .ok (.enter gl args) W) ∧
    ∀ W, Below w.heap.size w W → Calls Tryz.prog gl lbl W fun e w' => ∃ a cap, e = .returned (.slice a l.length cap) ∧ Row w' a l.length (fun j => (Value.int .i64 (l.getD j (0 : Int)) : Value)) ∧ Below W.heap.size W w'
set_option maxRecDepth 100000 in
set_option maxHeartbeats 2000000 in
theorem seq1I (n : Nat) (hn : 1 ≤ n) (K : Nat → Prop) (w : World) (B1 : Nat) (fv : Value) (l : List Int) (hl : l.length ≤ 1000000) (hc : w.cell? ⟨B1, 0, none⟩ = some fv) (h : ListCI w fv l) :
    SeqX Fence.wide n Tryz.prog 57 #[.pointer (some ⟨B1, 0, none⟩)] (fun x => #[Value.int .i64 x]) K (fun xs => xs = l) (fun pre => pre <+: l) l.length w := by
  intro lp J Jx W hW hJ hJx hY h0
  obtain ⟨gl, lbl, rfl, eg, hcon⟩ := h
  have hwf : ∀ f, Fence.wide.fn f = True := fun _ => rfl
  refine callsIn_of_wp Tryz.func57 rfl trivial ?_ rfl
  simp only [Tryz.ntmps57, List.size_toArray, List.length_cons, List.length_nil, Nat.reduceAdd, Nat.reduceSub, Array.replicate_succ, Array.replicate_zero, List.push_toArray, List.append_toArray, List.nil_append, List.cons_append]
  have HY := Lib.hid hY
  have HJ := Lib.hid hJ
  have HJX := Lib.hid hJx
  have H0 := Lib.hid h0
  have c1 := (hW.cell (p := ⟨B1, 0, none⟩) (World.block_lt_of_cell? w _ hc)).trans hc
  have HC := Lib.hid (hcon W hW)
  clear hY hJ hJx h0 hW hc hcon
  gi_wp2
  refine (callsIn_wide.2 HC.out).mono ?_
  rintro e W0 ⟨a0, cap0, rfl, hr0, hb0⟩
  have HCL := Lib.hid (cloneI W0 a0 l.length cap0 _ hl (fun _ _ => rfl) hr0)
  have HB0 := Lib.hid hb0
  clear hr0 hb0 HC c1 eg
  gi_wp2_with fail
  refine (callsIn_wide.2 HCL.out).mono ?_
  rintro e W1 ⟨v1, rfl, ho1, hb1⟩
  rw [range_getD] at ho1
  obtain ⟨a, cap, rfl, hca, hr, hla, _⟩ := Row.of_owns ho1
  have hb : Below W.heap.size W W1 := below_next HB0.out hb1 HB0.out.size
  obtain ⟨X1, hX1⟩ : ∃ X1 : Nat → Prop, X1 = fun b => W.heap.size ≤ b ∧ b < W1.heap.size := ⟨_, rfl⟩
  have HJ1 : Hid (J X1 [] W1) := HJ.out _ _ _ _ _ H0.out (StepX.of_below hb) (fun b hb => by rw [hX1] at hb; exact .inr hb)
  have HXK : Hid (l.length = 0 ∨ X1 (bOf a)) := by
    rcases Nat.eq_zero_or_pos l.length with h | h
    · exact .inl h
    · refine .inr ?_
      rw [hX1]
      exact ⟨Nat.le_trans HB0.out.size (hla.resolve_left (by omega)), hr.lt (by omega)⟩
  have hr1 : Row W1 a l.length (fun j => (Value.int .i64 (l.getD j (0 : Int)) : Value)) := hr.congr fun j hj => by
    rw [List.getD_eq_getElem?_getD, List.getElem?_map, List.getElem?_eq_getElem hj, List.getD_eq_getElem?_getD, List.getElem?_eq_getElem hj]; rfl
  have HR1 := Lib.hid hr1
  have hix := run_ix (P := Tryz.prog) 34 (by kernel_rfl) size_sI a l.length cap hr.at_ .i64
  have HIX := Lib.hid hix
  clear hr hr1 hb hb1 hla ho1 hX1 H0 hix HCL HB0 hca
  gi_wp2
  gi_loopw [9] (fun v9 wr => ∃ k : Nat, k ≤ l.length ∧ v9 = .int .i64 (k : Int) ∧ J X1 (l.take k) wr ∧ Row wr a l.length (fun j => (Value.int .i64 (l.getD j (0 : Int)) : Value))) (fun v9 _ => l.length - (intOf v9).toNat)
  case atStart => exact ⟨0, Nat.zero_le _, rfl, by rw [List.take_zero]; exact HJ1.out, HR1.out⟩
  case round =>
    obtain ⟨k, hk, rfl, hj, hrow⟩ := hrel
    have HJ0 := Lib.hid hj
    have HR0 := Lib.hid hrow
    clear hj hrow
    by_cases hlt : k < l.length
    · have d1 := HR0.out.cell k hlt
      have hx := fun W => HIX.out W k hlt
      have HT : Hid (l.take k ++ [l.getD k (0 : Int)] = l.take (k + 1)) := by
        show _ = _
        rw [List.take_succ_eq_append_getElem hlt, List.getD_eq_getElem?_getD, List.getElem?_eq_getElem hlt]; rfl
      generalize l.getD k (0 : Int) = x at *
      obtain ⟨fn, tmps, assign, body, hy, hR⟩ := HY.out X1 (l.take k) x _ HJ0.out (by rw [List.length_take]; omega)
      have HYR := Lib.hid hR
      clear hR
      gi_wp2
      refine HYR.out.mono ?_
      rintro e0 W3 ⟨hkx, hkk, (⟨rfl, hJ3⟩ | ⟨rfl, hJx3⟩)⟩
      · rw [HT.out] at hJ3
        have HJ3 := Lib.hid hJ3
        have HR3 : Hid (Row W3 a l.length (fun j => (Value.int .i64 (l.getD j (0 : Int)) : Value))) := ⟨HR0.out.at_, fun j hj => by
          have h1 := HR0.out.cell j hj
          have hlt1 := World.block_lt_of_cell? wr _ h1
          exact (World.cell?_of_block (a := ⟨bOf a, oOf a + j, none⟩) (hkx.block _ hlt1 (HXK.out.resolve_left (by omega)))).trans h1⟩
        clear hJ3 hkk hkx hy d1 hx
        gi_wp2
        go_roundw
        case rel => exact ⟨k + 1, by omega, by go_num, HJ3.out, HR3.out⟩
        case measure => simp [intOf]; omega
      · rw [HT.out] at hJx3
        have HJ3 := Lib.hid hJx3
        clear hJx3 hkk hkx hy d1 hx
        gi_wp2
        refine bodyPost_ret (results_none rfl _ _ _) rfl ?_
        exact ⟨⟨_, rfl⟩, .inr ⟨_, _, List.take_prefix _ _, HJ3.out⟩⟩
    · obtain rfl : k = l.length := by omega
      have hd : decide ((l.length : Int) < (l.length : Int)) = false := by simp
      have HE : Hid (J X1 l wr) := by have := HJ0.out; rw [List.take_length] at this; exact this
      gi_wp2
      go_end0
      exact ⟨⟨_, rfl⟩, .inl ⟨_, _, rfl, HE.out⟩⟩
theorem egqI : ∀ args W, (callFunc 57 args).run Tryz.prog W = .ok (.enter 57 args) W := enters_of Tryz.func57 (by kernel_rfl) rfl
theorem egaI : ∀ args W, (callFunc 39 args).run Tryz.prog W = .ok (.enter 39 args) W := enters_of Tryz.func39 (by kernel_rfl) rfl
theorem seqfI (w : World) (gl : Nat) (lbl : Array Value) : Calls Tryz.prog 38 #[.func (.func gl) #[] lbl] w fun e w' => e = .returned (.func (.func 57) #[] #[.pointer (some ⟨w.heap.size, 0, none⟩)]) ∧ w' = w.alloc (.cells #[.func (.func gl) #[] lbl] 71) := by
  go_enter Tryz.func38, Tryz.ntmps38
  go_wp2
  go_ret
  exact ⟨rfl, rfl⟩
set_option maxRecDepth 100000 in
theorem all1I (w : World) (B p : Nat) (v : Value) (l : List Int) (hc : w.cell? ⟨B, 0, none⟩ = some (.pointer (some ⟨p, 0, none⟩))) (h : SetI w p v l) :
    Calls Tryz.prog 39 #[.pointer (some ⟨B, 0, none⟩)] w fun e w' => ∃ a cap, e = .returned (.slice a l.length cap) ∧ Row w' a l.length (fun j => (Value.int .i64 (l.getD j (0 : Int)) : Value)) ∧ Below w.heap.size w w' := by
  have c2 := h.box.cell
  obtain ⟨a, cap, rfl, _, hr, _⟩ := Row.of_owns h.row
  have hr1 : Row w a l.length (fun j => (Value.int .i64 (l.getD j (0 : Int)) : Value)) := hr.congr fun j hj => by
    rw [List.getD_eq_getElem?_getD, List.getElem?_map, List.getElem?_eq_getElem hj, List.getD_eq_getElem?_getD, List.getElem?_eq_getElem hj]; rfl
  have HR := Lib.hid hr1
  clear h hr hr1
  go_enter Tryz.func39, Tryz.ntmps39
  go_wp2
  go_ret
  exact ⟨_, _, rfl, HR.out, Below.refl _ _⟩
set_option maxRecDepth 100000 in
theorem allI (w : World) (p : Nat) (v : Value) (l : List Int) (h : SetI w p v l) (hl : l.length ≤ 1000000) :
    Calls Tryz.prog 15 #[.pointer (some ⟨p, 0, none⟩)] w fun e w' => ∃ fv, e = .returned fv ∧ fv ≠ .nilFunc ∧ Iter1 (fun x : Int => (Value.int .i64 x : Value)) noB fv l w' ∧ Below w.heap.size w w' := by
  have HS := Lib.hid h
  clear h
  go_enter Tryz.func15, Tryz.ntmps15
  go_wp2_with (go_at_call 38; refine (seqfI _ _ _).mono ?_; rintro e w' ⟨rfl, rfl⟩)
  go_ret
  have hb1 : Below w.heap.size w (w.alloc (.cells #[.pointer (some ⟨p, 0, none⟩)] 39)) := (Below.refl _ w).alloc (Nat.le_refl _) _
  obtain ⟨w2, hw2⟩ : ∃ w2, w2 = (w.alloc (.cells #[.pointer (some ⟨p, 0, none⟩)] 39)).alloc (.cells #[.func (.func 39) #[] #[.pointer (some ⟨w.heap.size, 0, none⟩)]] 71) := ⟨_, rfl⟩
  have hb2 : Below w.heap.size w w2 := by rw [hw2]; exact hb1.alloc (by simp) _
  have x1 : Boxed w2 w.heap.size 39 (.pointer (some ⟨p, 0, none⟩)) := by rw [hw2]; exact (Boxed.new _ _ _).alloc _
  have x2 : Boxed w2 (w.alloc (.cells #[.pointer (some ⟨p, 0, none⟩)] 39)).heap.size 71 (.func (.func 39) #[] #[.pointer (some ⟨w.heap.size, 0, none⟩)]) := by rw [hw2]; exact Boxed.new _ _ _
  rw [World.size_alloc] at x2
  have hs := HS.out.kept hb2
  refine ⟨_, rfl, by simp, .inr ⟨57, _, rfl, egqI, fun b h => h.elim, fun n hn K _ => ?_⟩, by rw [hw2] at hb2; exact hb2⟩
  rw [← hw2]
  exact seq1I n hn K w2 _ _ l hl x2.cell ⟨_, _, rfl, egaI, fun W hW => all1I W _ p v l ((hW.cell (p := ⟨w.heap.size, 0, none⟩) x1.lt).trans x1.cell) (hs.kept hW)⟩
/-- a function that hands back a list -/
def ListCU (w : World) (fv : Value) (l : List Int) : Prop :=
  ∃ gl lbl, fv = .func (.func gl) #[] lbl ∧ (∀ args W, (callFunc gl args).run Tryz.prog W = .ok (.enter gl args) W) ∧
    ∀ W, Below w.heap.size w W → Calls Tryz.prog gl lbl W fun e w' => ∃ a cap, e = .returned (.slice a l.length cap) ∧ Row w' a l.length (fun j => (Value.int .u64 (l.getD j (0 : Int)) : Value)) ∧ Below W.heap.size W w'
set_option maxRecDepth 100000 in
set_option maxHeartbeats 2000000 in
theorem seq1U (n : Nat) (hn : 1 ≤ n) (K : Nat → Prop) (w : World) (B1 : Nat) (fv : Value) (l : List Int) (hl : l.length ≤ 1000000) (hc : w.cell? ⟨B1, 0, none⟩ = some fv) (h : ListCU w fv l) :
    SeqX Fence.wide n Tryz.prog 52 #[.pointer (some ⟨B1, 0, none⟩)] (fun x => #[Value.int .u64 x]) K (fun xs => xs = l) (fun pre => pre <+: l) l.length w := by
  intro lp J Jx W hW hJ hJx hY h0
  obtain ⟨gl, lbl, rfl, eg, hcon⟩ := h
  have hwf : ∀ f, Fence.wide.fn f = True := fun _ => rfl
  refine callsIn_of_wp Tryz.func52 rfl trivial ?_ rfl
  simp only [Tryz.ntmps52, List.size_toArray, List.length_cons, List.length_nil, Nat.reduceAdd, Nat.reduceSub, Array.replicate_succ, Array.replicate_zero, List.push_toArray, List.append_toArray, List.nil_append, List.cons_append]
  have HY := Lib.hid hY
  have HJ := Lib.hid hJ
  have HJX := Lib.hid hJx
  have H0 := Lib.hid h0
  have c1 := (hW.cell (p := ⟨B1, 0, none⟩) (World.block_lt_of_cell? w _ hc)).trans hc
  have HC := Lib.hid (hcon W hW)
  clear hY hJ hJx h0 hW hc hcon
  gi_wp2
  refine (callsIn_wide.2 HC.out).mono ?_
  rintro e W0 ⟨a0, cap0, rfl, hr0, hb0⟩
  have HCL := Lib.hid (cloneU W0 a0 l.length cap0 _ hl (fun _ _ => rfl) hr0)
  have HB0 := Lib.hid hb0
  clear hr0 hb0 HC c1 eg
  gi_wp2_with fail
  refine (callsIn_wide.2 HCL.out).mono ?_
  rintro e W1 ⟨v1, rfl, ho1, hb1⟩
  rw [range_getD] at ho1
  obtain ⟨a, cap, rfl, hca, hr, hla, _⟩ := Row.of_owns ho1
  have hb : Below W.heap.size W W1 := below_next HB0.out hb1 HB0.out.size
  obtain ⟨X1, hX1⟩ : ∃ X1 : Nat → Prop, X1 = fun b => W.heap.size ≤ b ∧ b < W1.heap.size := ⟨_, rfl⟩
  have HJ1 : Hid (J X1 [] W1) := HJ.out _ _ _ _ _ H0.out (StepX.of_below hb) (fun b hb => by rw [hX1] at hb; exact .inr hb)
  have HXK : Hid (l.length = 0 ∨ X1 (bOf a)) := by
    rcases Nat.eq_zero_or_pos l.length with h | h
    · exact .inl h
    · refine .inr ?_
      rw [hX1]
      exact ⟨Nat.le_trans HB0.out.size (hla.resolve_left (by omega)), hr.lt (by omega)⟩
  have hr1 : Row W1 a l.length (fun j => (Value.int .u64 (l.getD j (0 : Int)) : Value)) := hr.congr fun j hj => by
    rw [List.getD_eq_getElem?_getD, List.getElem?_map, List.getElem?_eq_getElem hj, List.getD_eq_getElem?_getD, List.getElem?_eq_getElem hj]; rfl
  have HR1 := Lib.hid hr1
  have hix := run_ix (P := Tryz.prog) 22 (by kernel_rfl) size_sU a l.length cap hr.at_ .i64
  have HIX := Lib.hid hix
  clear hr hr1 hb hb1 hla ho1 hX1 H0 hix HCL HB0 hca
  gi_wp2
  gi_loopw [9] (fun v9 wr => ∃ k : Nat, k ≤ l.length ∧ v9 = .int .i64 (k : Int) ∧ J X1 (l.take k) wr ∧ Row wr a l.length (fun j => (Value.int .u64 (l.getD j (0 : Int)) : Value))) (fun v9 _ => l.length - (intOf v9).toNat)
  case atStart => exact ⟨0, Nat.zero_le _, rfl, by rw [List.take_zero]; exact HJ1.out, HR1.out⟩
  case round =>
    obtain ⟨k, hk, rfl, hj, hrow⟩ := hrel
    have HJ0 := Lib.hid hj
    have HR0 := Lib.hid hrow
    clear hj hrow
    by_cases hlt : k < l.length
    · have d1 := HR0.out.cell k hlt
      have hx := fun W => HIX.out W k hlt
      have HT : Hid (l.take k ++ [l.getD k (0 : Int)] = l.take (k + 1)) := by
        show _ = _
        rw [List.take_succ_eq_append_getElem hlt, List.getD_eq_getElem?_getD, List.getElem?_eq_getElem hlt]; rfl
      generalize l.getD k (0 : Int) = x at *
      obtain ⟨fn, tmps, assign, body, hy, hR⟩ := HY.out X1 (l.take k) x _ HJ0.out (by rw [List.length_take]; omega)
      have HYR := Lib.hid hR
      clear hR
      gi_wp2
      refine HYR.out.mono ?_
      rintro e0 W3 ⟨hkx, hkk, (⟨rfl, hJ3⟩ | ⟨rfl, hJx3⟩)⟩
      · rw [HT.out] at hJ3
        have HJ3 := Lib.hid hJ3
        have HR3 : Hid (Row W3 a l.length (fun j => (Value.int .u64 (l.getD j (0 : Int)) : Value))) := ⟨HR0.out.at_, fun j hj => by
          have h1 := HR0.out.cell j hj
          have hlt1 := World.block_lt_of_cell? wr _ h1
          exact (World.cell?_of_block (a := ⟨bOf a, oOf a + j, none⟩) (hkx.block _ hlt1 (HXK.out.resolve_left (by omega)))).trans h1⟩
        clear hJ3 hkk hkx hy d1 hx
        gi_wp2
        go_roundw
        case rel => exact ⟨k + 1, by omega, by go_num, HJ3.out, HR3.out⟩
        case measure => simp [intOf]; omega
      · rw [HT.out] at hJx3
        have HJ3 := Lib.hid hJx3
        clear hJx3 hkk hkx hy d1 hx
        gi_wp2
        refine bodyPost_ret (results_none rfl _ _ _) rfl ?_
        exact ⟨⟨_, rfl⟩, .inr ⟨_, _, List.take_prefix _ _, HJ3.out⟩⟩
    · obtain rfl : k = l.length := by omega
      have hd : decide ((l.length : Int) < (l.length : Int)) = false := by simp
      have HE : Hid (J X1 l wr) := by have := HJ0.out; rw [List.take_length] at this; exact this
      gi_wp2
      go_end0
      exact ⟨⟨_, rfl⟩, .inl ⟨_, _, rfl, HE.out⟩⟩
theorem egqU : ∀ args W, (callFunc 52 args).run Tryz.prog W = .ok (.enter 52 args) W := enters_of Tryz.func52 (by kernel_rfl) rfl
theorem egaU : ∀ args W, (callFunc 29 args).run Tryz.prog W = .ok (.enter 29 args) W := enters_of Tryz.func29 (by kernel_rfl) rfl
theorem seqfU (w : World) (gl : Nat) (lbl : Array Value) : Calls Tryz.prog 28 #[.func (.func gl) #[] lbl] w fun e w' => e = .returned (.func (.func 52) #[] #[.pointer (some ⟨w.heap.size, 0, none⟩)]) ∧ w' = w.alloc (.cells #[.func (.func gl) #[] lbl] 59) := by
  go_enter Tryz.func28, Tryz.ntmps28
  go_wp2
  go_ret
  exact ⟨rfl, rfl⟩
set_option maxRecDepth 100000 in
theorem all1U (w : World) (B p : Nat) (v : Value) (l : List Int) (hc : w.cell? ⟨B, 0, none⟩ = some (.pointer (some ⟨p, 0, none⟩))) (h : SetU w p v l) :
    Calls Tryz.prog 29 #[.pointer (some ⟨B, 0, none⟩)] w fun e w' => ∃ a cap, e = .returned (.slice a l.length cap) ∧ Row w' a l.length (fun j => (Value.int .u64 (l.getD j (0 : Int)) : Value)) ∧ Below w.heap.size w w' := by
  have c2 := h.box.cell
  obtain ⟨a, cap, rfl, _, hr, _⟩ := Row.of_owns h.row
  have hr1 : Row w a l.length (fun j => (Value.int .u64 (l.getD j (0 : Int)) : Value)) := hr.congr fun j hj => by
    rw [List.getD_eq_getElem?_getD, List.getElem?_map, List.getElem?_eq_getElem hj, List.getD_eq_getElem?_getD, List.getElem?_eq_getElem hj]; rfl
  have HR := Lib.hid hr1
  clear h hr hr1
  go_enter Tryz.func29, Tryz.ntmps29
  go_wp2
  go_ret
  exact ⟨_, _, rfl, HR.out, Below.refl _ _⟩
set_option maxRecDepth 100000 in
theorem allU (w : World) (p : Nat) (v : Value) (l : List Int) (h : SetU w p v l) (hl : l.length ≤ 1000000) :
    Calls Tryz.prog 9 #[.pointer (some ⟨p, 0, none⟩)] w fun e w' => ∃ fv, e = .returned fv ∧ fv ≠ .nilFunc ∧ Iter1 (fun x : Int => (Value.int .u64 x : Value)) noB fv l w' ∧ Below w.heap.size w w' := by
  have HS := Lib.hid h
  clear h
  go_enter Tryz.func9, Tryz.ntmps9
  go_wp2_with (go_at_call 28; refine (seqfU _ _ _).mono ?_; rintro e w' ⟨rfl, rfl⟩)
  go_ret
  have hb1 : Below w.heap.size w (w.alloc (.cells #[.pointer (some ⟨p, 0, none⟩)] 24)) := (Below.refl _ w).alloc (Nat.le_refl _) _
  obtain ⟨w2, hw2⟩ : ∃ w2, w2 = (w.alloc (.cells #[.pointer (some ⟨p, 0, none⟩)] 24)).alloc (.cells #[.func (.func 29) #[] #[.pointer (some ⟨w.heap.size, 0, none⟩)]] 59) := ⟨_, rfl⟩
  have hb2 : Below w.heap.size w w2 := by rw [hw2]; exact hb1.alloc (by simp) _
  have x1 : Boxed w2 w.heap.size 24 (.pointer (some ⟨p, 0, none⟩)) := by rw [hw2]; exact (Boxed.new _ _ _).alloc _
  have x2 : Boxed w2 (w.alloc (.cells #[.pointer (some ⟨p, 0, none⟩)] 24)).heap.size 59 (.func (.func 29) #[] #[.pointer (some ⟨w.heap.size, 0, none⟩)]) := by rw [hw2]; exact Boxed.new _ _ _
  rw [World.size_alloc] at x2
  have hs := HS.out.kept hb2
  refine ⟨_, rfl, by simp, .inr ⟨52, _, rfl, egqU, fun b h => h.elim, fun n hn K _ => ?_⟩, by rw [hw2] at hb2; exact hb2⟩
  rw [← hw2]
  exact seq1U n hn K w2 _ _ l hl x2.cell ⟨_, _, rfl, egaU, fun W hW => all1U W _ p v l ((hW.cell (p := ⟨w.heap.size, 0, none⟩) x1.lt).trans x1.cell) (hs.kept hW)⟩
end Go.Proofs.YtoifmfdaghmleaaGreat
