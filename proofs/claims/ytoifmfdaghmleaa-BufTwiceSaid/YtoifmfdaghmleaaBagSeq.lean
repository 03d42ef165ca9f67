/-
  A set's iterators: All, From.
-/
import Derived.Test.YtoifmfdaghmleaaBagSet
set_option linter.unusedVariables false
namespace Go.Proofs.Ytoifmfdaghmleaa
open Go.RowKit Go.Lib Go.Sort Go.Shelf
attribute [local go_sem] Oper.semAt_some

/-- a function that hands back a list -/
def ListCI (w : World) (fv : Value) (l : List Int) : Prop :=
  ∃ gl lbl, fv = .func (.func gl) #[] lbl ∧ (∀ args W, (callFunc gl args).run Try.prog W = .ok (.enter gl args) W) ∧
    ∀ W, Below w.heap.size w W → Calls Try.prog gl lbl W fun e w' => ∃ a cap, e = .returned (.slice a l.length cap) ∧ Row w' a l.length (fun j => (Value.int .i64 (l.getD j (0 : Int)) : Value)) ∧ Below W.heap.size W w'
set_option maxRecDepth 100000 in
set_option maxHeartbeats 2000000 in
theorem seq1I (n : Nat) (hn : 1 ≤ n) (K : Nat → Prop) (w : World) (B1 : Nat) (fv : Value) (l : List Int) (hl : l.length ≤ 1000000) (hc : w.cell? ⟨B1, 0, none⟩ = some fv) (h : ListCI w fv l) :
    SeqX Fence.wide n Try.prog 107 #[.pointer (some ⟨B1, 0, none⟩)] (fun x => #[Value.int .i64 x]) K (fun xs => xs = l) (fun pre => pre <+: l) l.length w := by
  intro lp J Jx W hW hJ hJx hY h0
  obtain ⟨gl, lbl, rfl, eg, hcon⟩ := h
  have hwf : ∀ f, Fence.wide.fn f = True := fun _ => rfl
  refine callsIn_of_wp Try.func107 rfl trivial ?_ rfl
  simp only [Try.ntmps107, List.size_toArray, List.length_cons, List.length_nil, Nat.reduceAdd, Nat.reduceSub, Array.replicate_succ, Array.replicate_zero, List.push_toArray, List.append_toArray, List.nil_append, List.cons_append]
  have HY := Lib.hid hY
  have HJ := Lib.hid hJ
  have HJX := Lib.hid hJx
  have H0 := Lib.hid h0
  have c1 := (hW.cell (p := ⟨B1, 0, none⟩) (World.block_lt_of_cell? w _ hc)).trans hc
  have HC := Lib.hid (hcon W hW)
  clear hY hJ hJx h0 hW hc hcon
  gi_wp2
  refine (callsIn_wide.2 HC.out).mono ?_
  rintro e W0 ⟨a0, cap0, rfl, hr0, hb0⟩
  have HCL := Lib.hid (cloneI W0 a0 l.length cap0 _ hl (fun _ _ => rfl) hr0)
  have HB0 := Lib.hid hb0
  clear hr0 hb0 HC c1 eg
  gi_wp2_with fail
  refine (callsIn_wide.2 HCL.out).mono ?_
  rintro e W1 ⟨v1, rfl, ho1, hb1⟩
  rw [range_getD] at ho1
  obtain ⟨a, cap, rfl, hca, hr, hla, _⟩ := Row.of_owns ho1
  have hb : Below W.heap.size W W1 := below_next HB0.out hb1 HB0.out.size
  obtain ⟨X1, hX1⟩ : ∃ X1 : Nat → Prop, X1 = fun b => W.heap.size ≤ b ∧ b < W1.heap.size := ⟨_, rfl⟩
  have HJ1 : Hid (J X1 [] W1) := HJ.out _ _ _ _ _ H0.out (StepX.of_below hb) (fun b hb => by rw [hX1] at hb; exact .inr hb)
  have HXK : Hid (l.length = 0 ∨ X1 (bOf a)) := by
    rcases Nat.eq_zero_or_pos l.length with h | h
    · exact .inl h
    · refine .inr ?_
      rw [hX1]
      exact ⟨Nat.le_trans HB0.out.size (hla.resolve_left (by omega)), hr.lt (by omega)⟩
  have hr1 : Row W1 a l.length (fun j => (Value.int .i64 (l.getD j (0 : Int)) : Value)) := hr.congr fun j hj => by
    rw [List.getD_eq_getElem?_getD, List.getElem?_map, List.getElem?_eq_getElem hj, List.getD_eq_getElem?_getD, List.getElem?_eq_getElem hj]; rfl
  have HR1 := Lib.hid hr1
  have hix := run_ix (P := Try.prog) 31 (by kernel_rfl) size_sI a l.length cap hr.at_ .i64
  have HIX := Lib.hid hix
  clear hr hr1 hb hb1 hla ho1 hX1 H0 hix HCL HB0 hca
  gi_wp2
  gi_loopw [9] (fun v9 wr => ∃ k : Nat, k ≤ l.length ∧ v9 = .int .i64 (k : Int) ∧ J X1 (l.take k) wr ∧ Row wr a l.length (fun j => (Value.int .i64 (l.getD j (0 : Int)) : Value))) (fun v9 _ => l.length - (intOf v9).toNat)
  case atStart => exact ⟨0, Nat.zero_le _, rfl, by rw [List.take_zero]; exact HJ1.out, HR1.out⟩
  case round =>
    obtain ⟨k, hk, rfl, hj, hrow⟩ := hrel
    have HJ0 := Lib.hid hj
    have HR0 := Lib.hid hrow
    clear hj hrow
    by_cases hlt : k < l.length
    · have d1 := HR0.out.cell k hlt
      have hx := fun W => HIX.out W k hlt
      have HT : Hid (l.take k ++ [l.getD k (0 : Int)] = l.take (k + 1)) := by
        show _ = _
        rw [List.take_succ_eq_append_getElem hlt, List.getD_eq_getElem?_getD, List.getElem?_eq_getElem hlt]; rfl
      generalize l.getD k (0 : Int) = x at *
      obtain ⟨fn, tmps, assign, body, hy, hR⟩ := HY.out X1 (l.take k) x _ HJ0.out (by rw [List.length_take]; omega)
      have HYR := Lib.hid hR
      clear hR
      gi_wp2
      refine HYR.out.mono ?_
      rintro e0 W3 ⟨hkx, hkk, (⟨rfl, hJ3⟩ | ⟨rfl, hJx3⟩)⟩
      · rw [HT.out] at hJ3
        have HJ3 := Lib.hid hJ3
        have HR3 : Hid (Row W3 a l.length (fun j => (Value.int .i64 (l.getD j (0 : Int)) : Value))) := ⟨HR0.out.at_, fun j hj => by
          have h1 := HR0.out.cell j hj
          have hlt1 := World.block_lt_of_cell? wr _ h1
          exact (World.cell?_of_block (a := ⟨bOf a, oOf a + j, none⟩) (hkx.block _ hlt1 (HXK.out.resolve_left (by omega)))).trans h1⟩
        clear hJ3 hkk hkx hy d1 hx
        gi_wp2
        go_roundw
        case rel => exact ⟨k + 1, by omega, by go_num, HJ3.out, HR3.out⟩
        case measure => simp [intOf]; omega
      · rw [HT.out] at hJx3
        have HJ3 := Lib.hid hJx3
        clear hJx3 hkk hkx hy d1 hx
        gi_wp2
        refine bodyPost_ret (results_none rfl _ _ _) rfl ?_
        exact ⟨⟨_, rfl⟩, .inr ⟨_, _, List.take_prefix _ _, HJ3.out⟩⟩
    · obtain rfl : k = l.length := by omega
      have hd : decide ((l.length : Int) < (l.length : Int)) = false := by simp
      have HE : Hid (J X1 l wr) := by have := HJ0.out; rw [List.take_length] at this; exact this
      gi_wp2
      go_end0
      exact ⟨⟨_, rfl⟩, .inl ⟨_, _, rfl, HE.out⟩⟩
theorem egqI : ∀ args W, (callFunc 107 args).run Try.prog W = .ok (.enter 107 args) W := enters_of Try.func107 (by kernel_rfl) rfl
theorem egaI : ∀ args W, (callFunc 74 args).run Try.prog W = .ok (.enter 74 args) W := enters_of Try.func74 (by kernel_rfl) rfl
theorem seqfI (w : World) (gl : Nat) (lbl : Array Value) : Calls Try.prog 73 #[.func (.func gl) #[] lbl] w fun e w' => e = .returned (.func (.func 107) #[] #[.pointer (some ⟨w.heap.size, 0, none⟩)]) ∧ w' = w.alloc (.cells #[.func (.func gl) #[] lbl] 106) := by
  go_enter Try.func73, Try.ntmps73
  go_wp2
  go_ret
  exact ⟨rfl, rfl⟩
set_option maxRecDepth 100000 in
theorem all1I (w : World) (B p : Nat) (v : Value) (l : List Int) (hc : w.cell? ⟨B, 0, none⟩ = some (.pointer (some ⟨p, 0, none⟩))) (h : SetI w p v l) :
    Calls Try.prog 74 #[.pointer (some ⟨B, 0, none⟩)] w fun e w' => ∃ a cap, e = .returned (.slice a l.length cap) ∧ Row w' a l.length (fun j => (Value.int .i64 (l.getD j (0 : Int)) : Value)) ∧ Below w.heap.size w w' := by
  have c2 := h.box.cell
  obtain ⟨a, cap, rfl, _, hr, _⟩ := Row.of_owns h.row
  have hr1 : Row w a l.length (fun j => (Value.int .i64 (l.getD j (0 : Int)) : Value)) := hr.congr fun j hj => by
    rw [List.getD_eq_getElem?_getD, List.getElem?_map, List.getElem?_eq_getElem hj, List.getD_eq_getElem?_getD, List.getElem?_eq_getElem hj]; rfl
  have HR := Lib.hid hr1
  clear h hr hr1
  go_enter Try.func74, Try.ntmps74
  go_wp2
  go_ret
  exact ⟨_, _, rfl, HR.out, Below.refl _ _⟩
set_option maxRecDepth 100000 in
theorem allI (w : World) (p : Nat) (v : Value) (l : List Int) (h : SetI w p v l) (hl : l.length ≤ 1000000) :
    Calls Try.prog 28 #[.pointer (some ⟨p, 0, none⟩)] w fun e w' => ∃ fv, e = .returned fv ∧ fv ≠ .nilFunc ∧ Iter1 (fun x : Int => (Value.int .i64 x : Value)) noB fv l w' ∧ Below w.heap.size w w' := by
  have HS := Lib.hid h
  clear h
  go_enter Try.func28, Try.ntmps28
  go_wp2_with (go_at_call 73; refine (seqfI _ _ _).mono ?_; rintro e w' ⟨rfl, rfl⟩)
  go_ret
  have hb1 : Below w.heap.size w (w.alloc (.cells #[.pointer (some ⟨p, 0, none⟩)] 42)) := (Below.refl _ w).alloc (Nat.le_refl _) _
  obtain ⟨w2, hw2⟩ : ∃ w2, w2 = (w.alloc (.cells #[.pointer (some ⟨p, 0, none⟩)] 42)).alloc (.cells #[.func (.func 74) #[] #[.pointer (some ⟨w.heap.size, 0, none⟩)]] 106) := ⟨_, rfl⟩
  have hb2 : Below w.heap.size w w2 := by rw [hw2]; exact hb1.alloc (by simp) _
  have x1 : Boxed w2 w.heap.size 42 (.pointer (some ⟨p, 0, none⟩)) := by rw [hw2]; exact (Boxed.new _ _ _).alloc _
  have x2 : Boxed w2 (w.alloc (.cells #[.pointer (some ⟨p, 0, none⟩)] 42)).heap.size 106 (.func (.func 74) #[] #[.pointer (some ⟨w.heap.size, 0, none⟩)]) := by rw [hw2]; exact Boxed.new _ _ _
  rw [World.size_alloc] at x2
  have hs := HS.out.kept hb2
  refine ⟨_, rfl, by simp, .inr ⟨107, _, rfl, egqI, fun b h => h.elim, fun n hn K _ => ?_⟩, by rw [hw2] at hb2; exact hb2⟩
  rw [← hw2]
  exact seq1I n hn K w2 _ _ l hl x2.cell ⟨_, _, rfl, egaI, fun W hW => all1I W _ p v l ((hW.cell (p := ⟨w.heap.size, 0, none⟩) x1.lt).trans x1.cell) (hs.kept hW)⟩
/-- a function that hands back a list -/
def ListCS (w : World) (fv : Value) (l : List ByteArray) : Prop :=
  ∃ gl lbl, fv = .func (.func gl) #[] lbl ∧ (∀ args W, (callFunc gl args).run Try.prog W = .ok (.enter gl args) W) ∧
    ∀ W, Below w.heap.size w W → Calls Try.prog gl lbl W fun e w' => ∃ a cap, e = .returned (.slice a l.length cap) ∧ Row w' a l.length (fun j => (Value.string (l.getD j (⟨#[]⟩ : ByteArray)) : Value)) ∧ Below W.heap.size W w'
set_option maxRecDepth 100000 in
set_option maxHeartbeats 2000000 in
theorem seq1S (n : Nat) (hn : 1 ≤ n) (K : Nat → Prop) (w : World) (B1 : Nat) (fv : Value) (l : List ByteArray) (hl : l.length ≤ 1000000) (hc : w.cell? ⟨B1, 0, none⟩ = some fv) (h : ListCS w fv l) :
    SeqX Fence.wide n Try.prog 112 #[.pointer (some ⟨B1, 0, none⟩)] (fun x => #[Value.string x]) K (fun xs => xs = l) (fun pre => pre <+: l) l.length w := by
  intro lp J Jx W hW hJ hJx hY h0
  obtain ⟨gl, lbl, rfl, eg, hcon⟩ := h
  have hwf : ∀ f, Fence.wide.fn f = True := fun _ => rfl
  refine callsIn_of_wp Try.func112 rfl trivial ?_ rfl
  simp only [Try.ntmps112, List.size_toArray, List.length_cons, List.length_nil, Nat.reduceAdd, Nat.reduceSub, Array.replicate_succ, Array.replicate_zero, List.push_toArray, List.append_toArray, List.nil_append, List.cons_append]
  have HY := Lib.hid hY
  have HJ := Lib.hid hJ
  have HJX := Lib.hid hJx
  have H0 := Lib.hid h0
  have c1 := (hW.cell (p := ⟨B1, 0, none⟩) (World.block_lt_of_cell? w _ hc)).trans hc
  have HC := Lib.hid (hcon W hW)
  clear hY hJ hJx h0 hW hc hcon
  gi_wp2
  refine (callsIn_wide.2 HC.out).mono ?_
  rintro e W0 ⟨a0, cap0, rfl, hr0, hb0⟩
  have HCL := Lib.hid (cloneS W0 a0 l.length cap0 _ hl (fun _ _ => rfl) hr0)
  have HB0 := Lib.hid hb0
  clear hr0 hb0 HC c1 eg
  gi_wp2_with fail
  refine (callsIn_wide.2 HCL.out).mono ?_
  rintro e W1 ⟨v1, rfl, ho1, hb1⟩
  rw [range_getD] at ho1
  obtain ⟨a, cap, rfl, hca, hr, hla, _⟩ := Row.of_owns ho1
  have hb : Below W.heap.size W W1 := below_next HB0.out hb1 HB0.out.size
  obtain ⟨X1, hX1⟩ : ∃ X1 : Nat → Prop, X1 = fun b => W.heap.size ≤ b ∧ b < W1.heap.size := ⟨_, rfl⟩
  have HJ1 : Hid (J X1 [] W1) := HJ.out _ _ _ _ _ H0.out (StepX.of_below hb) (fun b hb => by rw [hX1] at hb; exact .inr hb)
  have HXK : Hid (l.length = 0 ∨ X1 (bOf a)) := by
    rcases Nat.eq_zero_or_pos l.length with h | h
    · exact .inl h
    · refine .inr ?_
      rw [hX1]
      exact ⟨Nat.le_trans HB0.out.size (hla.resolve_left (by omega)), hr.lt (by omega)⟩
  have hr1 : Row W1 a l.length (fun j => (Value.string (l.getD j (⟨#[]⟩ : ByteArray)) : Value)) := hr.congr fun j hj => by
    rw [List.getD_eq_getElem?_getD, List.getElem?_map, List.getElem?_eq_getElem hj, List.getD_eq_getElem?_getD, List.getElem?_eq_getElem hj]; rfl
  have HR1 := Lib.hid hr1
  have hix := run_ix (P := Try.prog) 32 (by kernel_rfl) size_sS a l.length cap hr.at_ .i64
  have HIX := Lib.hid hix
  clear hr hr1 hb hb1 hla ho1 hX1 H0 hix HCL HB0 hca
  gi_wp2
  gi_loopw [9] (fun v9 wr => ∃ k : Nat, k ≤ l.length ∧ v9 = .int .i64 (k : Int) ∧ J X1 (l.take k) wr ∧ Row wr a l.length (fun j => (Value.string (l.getD j (⟨#[]⟩ : ByteArray)) : Value))) (fun v9 _ => l.length - (intOf v9).toNat)
  case atStart => exact ⟨0, Nat.zero_le _, rfl, by rw [List.take_zero]; exact HJ1.out, HR1.out⟩
  case round =>
    obtain ⟨k, hk, rfl, hj, hrow⟩ := hrel
    have HJ0 := Lib.hid hj
    have HR0 := Lib.hid hrow
    clear hj hrow
    by_cases hlt : k < l.length
    · have d1 := HR0.out.cell k hlt
      have hx := fun W => HIX.out W k hlt
      have HT : Hid (l.take k ++ [l.getD k (⟨#[]⟩ : ByteArray)] = l.take (k + 1)) := by
        show _ = _
        rw [List.take_succ_eq_append_getElem hlt, List.getD_eq_getElem?_getD, List.getElem?_eq_getElem hlt]; rfl
      generalize l.getD k (⟨#[]⟩ : ByteArray) = x at *
      obtain ⟨fn, tmps, assign, body, hy, hR⟩ := HY.out X1 (l.take k) x _ HJ0.out (by rw [List.length_take]; omega)
      have HYR := Lib.hid hR
      clear hR
      gi_wp2
      refine HYR.out.mono ?_
      rintro e0 W3 ⟨hkx, hkk, (⟨rfl, hJ3⟩ | ⟨rfl, hJx3⟩)⟩
      · rw [HT.out] at hJ3
        have HJ3 := Lib.hid hJ3
        have HR3 : Hid (Row W3 a l.length (fun j => (Value.string (l.getD j (⟨#[]⟩ : ByteArray)) : Value))) := ⟨HR0.out.at_, fun j hj => by
          have h1 := HR0.out.cell j hj
          have hlt1 := World.block_lt_of_cell? wr _ h1
          exact (World.cell?_of_block (a := ⟨bOf a, oOf a + j, none⟩) (hkx.block _ hlt1 (HXK.out.resolve_left (by omega)))).trans h1⟩
        clear hJ3 hkk hkx hy d1 hx
        gi_wp2
        go_roundw
        case rel => exact ⟨k + 1, by omega, by go_num, HJ3.out, HR3.out⟩
        case measure => simp [intOf]; omega
      · rw [HT.out] at hJx3
        have HJ3 := Lib.hid hJx3
        clear hJx3 hkk hkx hy d1 hx
        gi_wp2
        refine bodyPost_ret (results_none rfl _ _ _) rfl ?_
        exact ⟨⟨_, rfl⟩, .inr ⟨_, _, List.take_prefix _ _, HJ3.out⟩⟩
    · obtain rfl : k = l.length := by omega
      have hd : decide ((l.length : Int) < (l.length : Int)) = false := by simp
      have HE : Hid (J X1 l wr) := by have := HJ0.out; rw [List.take_length] at this; exact this
      gi_wp2
      go_end0
      exact ⟨⟨_, rfl⟩, .inl ⟨_, _, rfl, HE.out⟩⟩
theorem egqS : ∀ args W, (callFunc 112 args).run Try.prog W = .ok (.enter 112 args) W := enters_of Try.func112 (by kernel_rfl) rfl
theorem egaS : ∀ args W, (callFunc 83 args).run Try.prog W = .ok (.enter 83 args) W := enters_of Try.func83 (by kernel_rfl) rfl
theorem seqfS (w : World) (gl : Nat) (lbl : Array Value) : Calls Try.prog 82 #[.func (.func gl) #[] lbl] w fun e w' => e = .returned (.func (.func 112) #[] #[.pointer (some ⟨w.heap.size, 0, none⟩)]) ∧ w' = w.alloc (.cells #[.func (.func gl) #[] lbl] 116) := by
  go_enter Try.func82, Try.ntmps82
  go_wp2
  go_ret
  exact ⟨rfl, rfl⟩
set_option maxRecDepth 100000 in
theorem all1S (w : World) (B p : Nat) (v : Value) (l : List ByteArray) (hc : w.cell? ⟨B, 0, none⟩ = some (.pointer (some ⟨p, 0, none⟩))) (h : SetS w p v l) :
    Calls Try.prog 83 #[.pointer (some ⟨B, 0, none⟩)] w fun e w' => ∃ a cap, e = .returned (.slice a l.length cap) ∧ Row w' a l.length (fun j => (Value.string (l.getD j (⟨#[]⟩ : ByteArray)) : Value)) ∧ Below w.heap.size w w' := by
  have c2 := h.box.cell
  obtain ⟨a, cap, rfl, _, hr, _⟩ := Row.of_owns h.row
  have hr1 : Row w a l.length (fun j => (Value.string (l.getD j (⟨#[]⟩ : ByteArray)) : Value)) := hr.congr fun j hj => by
    rw [List.getD_eq_getElem?_getD, List.getElem?_map, List.getElem?_eq_getElem hj, List.getD_eq_getElem?_getD, List.getElem?_eq_getElem hj]; rfl
  have HR := Lib.hid hr1
  clear h hr hr1
  go_enter Try.func83, Try.ntmps83
  go_wp2
  go_ret
  exact ⟨_, _, rfl, HR.out, Below.refl _ _⟩
set_option maxRecDepth 100000 in
theorem allS (w : World) (p : Nat) (v : Value) (l : List ByteArray) (h : SetS w p v l) (hl : l.length ≤ 1000000) :
    Calls Try.prog 36 #[.pointer (some ⟨p, 0, none⟩)] w fun e w' => ∃ fv, e = .returned fv ∧ fv ≠ .nilFunc ∧ Iter1 (fun x : ByteArray => (Value.string x : Value)) noB fv l w' ∧ Below w.heap.size w w' := by
  have HS := Lib.hid h
  clear h
  go_enter Try.func36, Try.ntmps36
  go_wp2_with (go_at_call 82; refine (seqfS _ _ _).mono ?_; rintro e w' ⟨rfl, rfl⟩)
  go_ret
  have hb1 : Below w.heap.size w (w.alloc (.cells #[.pointer (some ⟨p, 0, none⟩)] 52)) := (Below.refl _ w).alloc (Nat.le_refl _) _
  obtain ⟨w2, hw2⟩ : ∃ w2, w2 = (w.alloc (.cells #[.pointer (some ⟨p, 0, none⟩)] 52)).alloc (.cells #[.func (.func 83) #[] #[.pointer (some ⟨w.heap.size, 0, none⟩)]] 116) := ⟨_, rfl⟩
  have hb2 : Below w.heap.size w w2 := by rw [hw2]; exact hb1.alloc (by simp) _
  have x1 : Boxed w2 w.heap.size 52 (.pointer (some ⟨p, 0, none⟩)) := by rw [hw2]; exact (Boxed.new _ _ _).alloc _
  have x2 : Boxed w2 (w.alloc (.cells #[.pointer (some ⟨p, 0, none⟩)] 52)).heap.size 116 (.func (.func 83) #[] #[.pointer (some ⟨w.heap.size, 0, none⟩)]) := by rw [hw2]; exact Boxed.new _ _ _
  rw [World.size_alloc] at x2
  have hs := HS.out.kept hb2
  refine ⟨_, rfl, by simp, .inr ⟨112, _, rfl, egqS, fun b h => h.elim, fun n hn K _ => ?_⟩, by rw [hw2] at hb2; exact hb2⟩
  rw [← hw2]
  exact seq1S n hn K w2 _ _ l hl x2.cell ⟨_, _, rfl, egaS, fun W hW => all1S W _ p v l ((hW.cell (p := ⟨w.heap.size, 0, none⟩) x1.lt).trans x1.cell) (hs.kept hW)⟩
theorem egfI : ∀ args W, (callFunc 86 args).run Try.prog W = .ok (.enter 86 args) W := enters_of Try.func86 (by kernel_rfl) rfl
set_option maxRecDepth 100000 in
theorem from1I (w : World) (B B2 p : Nat) (v : Value) (l : List Int) (x : Int) (hc : w.cell? ⟨B, 0, none⟩ = some (.pointer (some ⟨p, 0, none⟩))) (hx : w.cell? ⟨B2, 0, none⟩ = some (Value.int .i64 x)) (h : SetI w p v l) (hl : l.length ≤ 1000000) :
    Calls Try.prog 86 #[.pointer (some ⟨B, 0, none⟩), .pointer (some ⟨B2, 0, none⟩)] w fun e w' => ∃ a cap, e = .returned (.slice a (l.drop (rk ltI l x)).length cap) ∧ Row w' a (l.drop (rk ltI l x)).length (fun j => (Value.int .i64 ((l.drop (rk ltI l x)).getD j (0 : Int)) : Value)) ∧ Below w.heap.size w w' := by
  have c2 := h.box.cell
  obtain ⟨a, cap, rfl, hca, hr, _⟩ := Row.of_owns h.row
  have hrk := rk_le (lt := ltI) l x
  have hr1 : Row w a l.length (fun j => (Value.int .i64 (l.getD j (0 : Int)) : Value)) := hr.congr fun j hj => by
    rw [List.getD_eq_getElem?_getD, List.getElem?_map, List.getElem?_eq_getElem hj, List.getD_eq_getElem?_getD, List.getElem?_eq_getElem hj]; rfl
  have HR := Lib.hid hr1
  have HRK := Lib.hid (fun W (hW : Below w.heap.size w W) => rankI W p _ l (h.kept hW) hl x)
  have hD : ∃ a' c', (∀ W, Below w.heap.size w W → Row W a' (l.drop (rk ltI l x)).length (fun j => (Value.int .i64 ((l.drop (rk ltI l x)).getD j (0 : Int)) : Value))) ∧ ((rk ltI l x = cap ∧ a' = a ∧ c' = cap - rk ltI l x) ∨ (¬ rk ltI l x = cap ∧ a = some ⟨bOf a, oOf a, none⟩ ∧ a' = some ⟨bOf a, oOf a + rk ltI l x, none⟩ ∧ c' = cap - rk ltI l x)) := by
    by_cases hc : rk ltI l x = cap
    · refine ⟨a, _, fun W hW => ?_, .inl ⟨hc, rfl, rfl⟩⟩
      have : (l.drop (rk ltI l x)).length = 0 := by rw [List.length_drop]; omega
      rw [this]; exact Row.nil _ _ _
    · have hcap : 0 < cap := by omega
      have hA : a = some ⟨bOf a, oOf a, none⟩ := by
        rcases owns_cases h.row with ⟨e, _⟩ | ⟨g, c, e, _⟩
        · injection e with e1 e2 e3; omega
        · injection e with e1 e2 e3; rw [e1]; rfl
      refine ⟨_, _, fun W hW => ⟨.inr ?_, fun j hj => ?_⟩, .inr ⟨hc, hA, rfl, rfl⟩⟩
      · rfl
      · rw [List.length_drop] at hj
        have := (hr1.kept hW).cell (rk ltI l x + j) (by omega)
        simp only [bOf, oOf, Option.map_some, Option.getD_some] at this ⊢
        rw [Nat.add_assoc, this]
        simp [List.getD_eq_getElem?_getD, List.getElem?_drop]
  rw [List.length_drop] at hD ⊢
  obtain ⟨a', c', hrow, hway⟩ := hD
  have HROW := Lib.hid hrow
  clear h hr hr1 hrow
  generalize l.length = n at *
  generalize hk : rk ltI l x = k at *
  have HK := Lib.hid hk
  clear hk
  have hrk2 : (k : Int) ≤ (n : Int) := by omega
  rcases hway with ⟨e1, rfl, rfl⟩ | ⟨e1, hA, rfl, rfl⟩
  · have e2 : cap = k := e1.symm
    clear e1
    go_enter Try.func86, Try.ntmps86
    go_wp2
    go_quiet (exact Calls.quiet_of_same (HRK.out _ (below_drewN (Below.refl _ _) _)))
    go_wp2
    go_ret
    exact ⟨_, _, rfl, HROW.out _ (below_drewN (Below.refl _ _) _), below_drewN (Below.refl _ _) _⟩
  · have e2 : ¬ cap = k := fun e => e1 e.symm
    generalize bOf a = ba at *
    generalize oOf a = oa at *
    subst hA
    go_enter Try.func86, Try.ntmps86
    go_wp2
    go_quiet (exact Calls.quiet_of_same (HRK.out _ (below_drewN (Below.refl _ _) _)))
    go_wp2
    go_ret
    exact ⟨_, _, rfl, HROW.out _ (below_drewN (Below.refl _ _) _), below_drewN (Below.refl _ _) _⟩
set_option maxRecDepth 100000 in
theorem fromI (w : World) (p : Nat) (v : Value) (l : List Int) (h : SetI w p v l) (hl : l.length ≤ 1000000) (x : Int) :
    Calls Try.prog 43 #[.pointer (some ⟨p, 0, none⟩), Value.int .i64 x] w fun e w' => ∃ fv, e = .returned fv ∧ fv ≠ .nilFunc ∧ Iter1 (fun x : Int => (Value.int .i64 x : Value)) noB fv (l.drop (rk ltI l x)) w' ∧ Below w.heap.size w w' := by
  have HS := Lib.hid h
  clear h
  go_enter Try.func43, Try.ntmps43
  go_wp2_with (go_at_call 73; refine (seqfI _ _ _).mono ?_; rintro e w' ⟨rfl, rfl⟩)
  go_ret
  obtain ⟨w1, hw1⟩ : ∃ w1, w1 = (w.alloc (.cells #[.pointer (some ⟨p, 0, none⟩)] 42)).alloc (.cells #[Value.int .i64 x] 3) := ⟨_, rfl⟩
  have hb1 : Below w.heap.size w w1 := by rw [hw1]; exact ((Below.refl _ w).alloc (Nat.le_refl _) _).alloc (by simp) _
  have hs1 : w1.heap.size = w.heap.size + 1 + 1 := by rw [hw1]; simp
  have x1 : Boxed w1 w.heap.size 42 (.pointer (some ⟨p, 0, none⟩)) := by rw [hw1]; exact (Boxed.new _ _ _).alloc _
  have x2 : Boxed w1 (w.heap.size + 1) 3 (Value.int .i64 x) := by rw [hw1]; have := Boxed.new (w.alloc (.cells #[.pointer (some ⟨p, 0, none⟩)] 42)) 3 (Value.int .i64 x); rwa [World.size_alloc] at this
  rw [← hw1]
  obtain ⟨w2, hw2⟩ : ∃ w2, w2 = w1.alloc (.cells #[.func (.func 86) #[] #[.pointer (some ⟨w.heap.size, 0, none⟩), .pointer (some ⟨w.heap.size + 1, 0, none⟩)]] 106) := ⟨_, rfl⟩
  have hb2 : Below w.heap.size w w2 := by rw [hw2]; exact hb1.alloc (by omega) _
  have y1 : Boxed w2 w.heap.size 42 (.pointer (some ⟨p, 0, none⟩)) := by rw [hw2]; exact x1.alloc _
  have y2 : Boxed w2 (w.heap.size + 1) 3 (Value.int .i64 x) := by rw [hw2]; exact x2.alloc _
  have y3 : Boxed w2 w1.heap.size 106 (.func (.func 86) #[] #[.pointer (some ⟨w.heap.size, 0, none⟩), .pointer (some ⟨w.heap.size + 1, 0, none⟩)]) := by rw [hw2]; exact Boxed.new _ _ _
  have hs := HS.out.kept hb2
  refine ⟨_, rfl, by simp, .inr ⟨107, _, rfl, egqI, fun b h => h.elim, fun n hn K _ => ?_⟩, by first | (rw [hw2] at hb2; exact hb2) | (rw [hw2, hs1] at hb2; exact hb2)⟩
  rw [hs1] at y3
  first | rw [← hw2] | (rw [hs1] at hw2; rw [← hw2])
  exact seq1I n hn K w2 _ _ _ (by rw [List.length_drop]; omega) y3.cell ⟨_, _, rfl, egfI, fun W hW => from1I W _ _ p v l x ((hW.cell (p := ⟨w.heap.size, 0, none⟩) y1.lt).trans y1.cell) ((hW.cell (p := ⟨w.heap.size + 1, 0, none⟩) y2.lt).trans y2.cell) (hs.kept hW) hl⟩
end Go.Proofs.Ytoifmfdaghmleaa
