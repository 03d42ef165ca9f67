/-
  A map's iterator: All.
-/
import Derived.Test.YtoifmfdaghmleaaMapSet
import Derived.Test.YtoifmfdaghmleaaSeqX
import Derived.Test.YtoifmfdaghmleaaBagIt
set_option linter.unusedVariables false
namespace Go.Proofs.Ytoifmfdaghmleaa
open Go.RowKit Go.Lib Go.Sort Go.Shelf
attribute [local go_sem] Oper.semAt_some

abbrev vI (z : Int) : Value := .int .i64 z
abbrev vS (s : Option Addr × Nat × Nat) : Value := .slice s.1 s.2.1 s.2.2
/-- a function that tells a list of pairs, wherever its memory is as it was; or none -/
def IterE {α : Type} (encs : α → Array Value) (fv : Value) (l : List α) (w : World) : Prop :=
  ∃ gf lb, fv = .func (.func gf) #[] lb ∧ (∀ args W, (callFunc gf args).run Try.prog W = .ok (.enter gf args) W) ∧
    ∀ n, 1 ≤ n → ∀ K : Nat → Prop, SeqX Fence.wide n Try.prog gf lb encs K (fun xs => xs = l) (fun pre => pre <+: l) l.length w
theorem IterE.kept {α : Type} {encs : α → Array Value} {fv : Value} {l : List α} {w w' : World} (h : IterE encs fv l w) (hb : Below w.heap.size w w') : IterE encs fv l w' := by
  obtain ⟨gf, lb, h1, h2, h3⟩ := h
  exact ⟨gf, lb, h1, h2, fun n hn K => SeqG.kept (h3 n hn K) hb⟩
theorem owns_empty2 (w : World) (base : Nat) (e : TypeId) (hb : base ≤ w.heap.size) : (w.alloc (.cells #[] e)).ownsRow base e 2 (.slice (some ⟨w.heap.size, 0, none⟩) 0 0) 0 [] := by
  refine ⟨rfl, .inr ⟨w.heap.size, 0, #[], rfl, hb, heap_alloc_new w _, Nat.le_refl _, by simp [maxLen], rfl, rfl⟩⟩
theorem info_mS : (Try.prog.info? 123).map (fun i => (i.zero, i.size, i.bytes)) = some (some (.agg #[.string ⟨#[]⟩, .int .i64 0]), 2, 24) := by kernel_rfl
set_option maxRecDepth 100000 in
set_option maxHeartbeats 400000 in
theorem cloneMS (w : World) (a : Option Addr) (n cap : Nat) (l : List (ByteArray × Value)) (hl : l.length = n) (hn : n ≤ 1000000) (h1 : ∀ e ∈ l, e.2.oneCell' = true) (hr : Row w a (l.length * 2) (fun j => (mvs (fun x : ByteArray => (Value.string x : Value)) l).getD j undef)) :
    Calls Try.prog 122 #[.slice a n cap] w fun e w' => ∃ v, e = .returned v ∧ w'.ownsRow w.heap.size 123 2 v n (mvs (fun x : ByteArray => (Value.string x : Value)) l) ∧ Below w.heap.size w w' := by
  subst hl
  have hnil := fun W => Lib.run_eql_slice_nil (P := Try.prog) W 119 123 a l.length cap 0 0 Try.underlying119
  obtain ⟨i0, hi, hz0, hz1, hz2⟩ := info_parts info_mS
  cases a with
  | none =>
    have hn0 : l.length = 0 := by rcases hr.at_ with h | h; · omega
                                  · cases h
    have e0 : l = [] := List.eq_nil_of_length_eq_zero hn0
    subst e0
    clear hn0
    have e1 : Option.isNone (none : Option Addr) = true := rfl
    clear hr h1
    simp only [List.length_nil, mvs_nil] at hnil hn ⊢
    go_enter Try.func122, Try.ntmps122
    go_wp2
    go_ret
    exact ⟨_, rfl, World.ownsRow_nil _ _ _ _, Below.refl _ _⟩
  | some ad =>
    have hx0 := owns_empty2 w w.heap.size 123 (Nat.le_refl _)
    have hb0 : Below w.heap.size w (w.alloc (.cells #[] 123)) := (Below.refl _ w).alloc (Nat.le_refl _) _
    have hr0 := hr.kept hb0
    obtain ⟨v3, w3, hrun3, hown3, hg3, _, _⟩ := run_append_own_at (P := Try.prog) (w.alloc (.cells #[] 123)) w.heap.size 119 119 123 i0 _ 2 24 Try.underlying119 hi hz0 hz1 hz2 rfl (by omega) _ 0 [] hx0 ad l.length cap (mvs (fun x : ByteArray => (Value.string x : Value)) l) (mvs_len _ l)
      (fun j u hu => by
        have hj : j < (mvs (fun x : ByteArray => (Value.string x : Value)) l).length := (List.getElem?_eq_some_iff.1 hu).1
        rw [mvs_len] at hj
        have hc := hr0.cell j hj
        rw [List.getD_eq_getElem?_getD, hu] at hc
        have h' : ad = ⟨bOf (some ad), oOf (some ad), none⟩ := by rcases hr.at_ with h | h; · omega
                                                                  · injection h
        have e : ad.add j = ⟨bOf (some ad), oOf (some ad) + j, none⟩ := by
          conv => lhs; rw [h']
          exact Addr.add_lit _ _ _
        rw [e]
        exact hc)
      (mvs_one _ (fun _ => rfl) l h1) (by simp only [maxLen]; omega) (by omega) (by simp)
    have hB3 : Below w.heap.size w w3 := hb0.grown hg3 (by simp) (fun k hk => by simp [Value.ownBlock] at hk; omega)
    rw [Nat.zero_add, List.nil_append] at hown3
    have R3 := Lib.hid hrun3
    have HR3 := Lib.hid hown3
    have HB3 := Lib.hid hB3
    obtain ⟨a3, cap3, rfl, -⟩ := mrow_of_owns hown3 rfl
    clear hr hr0 hx0 hb0 hrun3 hown3 hg3 hB3 h1
    go_enter Try.func122, Try.ntmps122
    go_wp2_with ((with_reducible refine wpList_append_run rfl _ _ _ rfl R3.out rfl rfl ?_); clear R3)
    go_ret
    exact ⟨_, rfl, HR3.out, HB3.out⟩
set_option maxRecDepth 100000 in
set_option maxHeartbeats 2000000 in
theorem allS1S (n : Nat) (hn : 1 ≤ n) (K : Nat → Prop) (w : World) (B1 p : Nat) (v : Value) (L : List (ByteArray × Int)) (hl : L.length ≤ 1000000) (hc : w.cell? ⟨B1, 0, none⟩ = some (.pointer (some ⟨p, 0, none⟩))) (h : MapS w p v (ents vI L)) :
    SeqX Fence.wide n Try.prog 121 #[.pointer (some ⟨B1, 0, none⟩)] (fun e : ByteArray × Int => #[Value.string e.1, vI e.2]) K (fun xs => xs = L) (fun pre => pre <+: L) L.length w := by
  intro lp J Jx W hW hJ hJx hY h0
  have hwf : ∀ f, Fence.wide.fn f = True := fun _ => rfl
  refine callsIn_of_wp Try.func121 rfl trivial ?_ rfl
  simp only [Try.ntmps121, List.size_toArray, List.length_cons, List.length_nil, Nat.reduceAdd, Nat.reduceSub, Array.replicate_succ, Array.replicate_zero, List.push_toArray, List.append_toArray, List.nil_append, List.cons_append]
  have HY := Lib.hid hY
  have HJ := Lib.hid hJ
  have HJX := Lib.hid hJx
  have H0 := Lib.hid h0
  have c1 := (hW.cell (p := ⟨B1, 0, none⟩) (World.block_lt_of_cell? w _ hc)).trans hc
  obtain ⟨l, hLl⟩ : ∃ l, l = ents vI L := ⟨_, rfl⟩
  have hll : l.length = L.length := by rw [hLl, ents_len]
  rw [← hLl] at h
  have HLE := Lib.hid hLl
  have HLL := Lib.hid hll
  clear hLl hll
  have hM := h.kept hW
  have c2 := hM.box.cell
  obtain ⟨a0, cap0, rfl, hc0, hr0, -⟩ := mrow_of_owns hM.row rfl
  have HCL := Lib.hid (cloneMS W a0 l.length cap0 l rfl (by have := HLL.out; omega) h.one hr0)
  clear hY hJ hJx h0 hW hc h hM hr0
  gi_wp2_with fail
  refine (callsIn_wide.2 HCL.out).mono ?_
  rintro e W1 ⟨v1, rfl, ho1, hb⟩
  obtain ⟨a, cap, rfl, hca, hr1, hla⟩ := mrow_of_owns ho1 rfl
  obtain ⟨X1, hX1⟩ : ∃ X1 : Nat → Prop, X1 = fun b => W.heap.size ≤ b ∧ b < W1.heap.size := ⟨_, rfl⟩
  have HJ1 : Hid (J X1 [] W1) := HJ.out _ _ _ _ _ H0.out (StepX.of_below hb) (fun b hb => by rw [hX1] at hb; exact .inr hb)
  have HXK : Hid (l.length = 0 ∨ X1 (bOf a)) := by
    rcases Nat.eq_zero_or_pos l.length with h | h
    · exact .inl h
    · refine .inr ?_
      rw [hX1]
      exact ⟨hla.resolve_left (by omega), hr1.lt (by omega)⟩
  have HR1 := Lib.hid hr1
  have hix := run_ixN (P := Try.prog) 119 2 (by kernel_rfl) (fun w => by kernel_rfl) a l.length cap (hr1.at_.imp (fun e => by omega) id)
  have HIX := Lib.hid hix
  clear hr1 hb hla ho1 hX1 H0 hix HCL hca c1 c2
  gi_wp2
  gi_loopw [4, 11] (fun _ v11 wr => ∃ (k : Nat) (X : Nat → Prop), k ≤ l.length ∧ v11 = .int .i64 (k : Int) ∧ J X (L.take k) wr ∧ Row wr a (l.length * 2) (fun j => (mvs (fun x : ByteArray => (Value.string x : Value)) l).getD j undef) ∧ (l.length = 0 ∨ X (bOf a))) (fun _ v11 _ => l.length - (intOf v11).toNat)
  case atStart => exact ⟨0, X1, Nat.zero_le _, rfl, by rw [List.take_zero]; exact HJ1.out, HR1.out, HXK.out⟩
  case round =>
    obtain ⟨k, X, hk, rfl, hj, hrow, hxk⟩ := hrel
    have HJ0 := Lib.hid hj
    have HR0 := Lib.hid hrow
    have HXX := Lib.hid hxk
    clear hj hrow hxk
    by_cases hlt : k < l.length
    · obtain ⟨d0, d1⟩ := mkeyS HR0.out k hlt
      have hx := fun W => HIX.out W k hlt
      have hltL : k < L.length := by have := HLL.out; omega
      have hone : l[k].2 = vI L[k].2 := by
        have h1 : ∀ (l' : List (ByteArray × Value)) (hk : k < l'.length), l' = ents vI L → l'[k].2 = vI L[k].2 := fun l' hk e => by subst e; rw [ents_get vI L k hltL hk]
        exact h1 l hlt HLE.out
      have hkey : l[k].1 = L[k].1 := by
        have h1 : ∀ (l' : List (ByteArray × Value)) (hk : k < l'.length), l' = ents vI L → l'[k].1 = L[k].1 := fun l' hk e => by subst e; rw [ents_get vI L k hltL hk]
        exact h1 l hlt HLE.out
      have HT : Hid (L.take k ++ [L[k]] = L.take (k + 1)) := by
        show _ = _
        rw [List.take_succ_eq_append_getElem hltL]
      have ek : (keysL l).getD k (⟨#[]⟩ : ByteArray) = l[k].1 := by unfold keysL; rw [List.getD_eq_getElem?_getD, List.getElem?_map, List.getElem?_eq_getElem hlt]; rfl
      rw [ek, hkey] at d0
      rw [hone] at d1
      clear ek hone hkey
      generalize L[k] = x at *
      obtain ⟨x, z⟩ := x
      simp only at d0 d1
      have hbw : Below wr.heap.size wr (wr.alloc (.cells #[Value.string x, (.int .i64 z)] 123)) := (Below.refl _ wr).alloc (Nat.le_refl _) _
      have HBW := Lib.hid hbw
      have hJ2 : J (fun b => X b ∨ b = wr.heap.size) (L.take k) (wr.alloc (.cells #[Value.string x, (.int .i64 z)] 123)) := HJ.out _ _ _ _ _ HJ0.out (StepX.of_below hbw) (fun b hb => hb.imp id (fun e => by subst e; exact ⟨Nat.le_refl _, by simp⟩))
      obtain ⟨fn, tmps, assign, body, hy, hR⟩ := HY.out _ (L.take k) (x, z) _ hJ2 (by rw [List.length_take]; omega)
      have HYR := Lib.hid hR
      clear hR hJ2 hbw
      gi_wp2
      refine HYR.out.mono ?_
      rintro e0 W3 ⟨hkx, hkk, (⟨rfl, hJ3⟩ | ⟨rfl, hJx3⟩)⟩
      · rw [HT.out] at hJ3
        have HJ3 := Lib.hid hJ3
        have HR3 : Hid (Row W3 a (l.length * 2) (fun j => (mvs (fun x : ByteArray => (Value.string x : Value)) l).getD j undef)) := ⟨HR0.out.at_, fun j hj => by
          have h1 := (HR0.out.kept HBW.out).cell j hj
          have hlt1 := World.block_lt_of_cell? _ _ h1
          exact (World.cell?_of_block (a := ⟨bOf a, oOf a + j, none⟩) (hkx.block _ hlt1 (.inl (HXX.out.resolve_left (by omega))))).trans h1⟩
        clear hJ3 hkk hkx hy d0 d1 hx
        gi_wp2
        go_roundw
        case rel => exact ⟨k + 1, _, by omega, by go_num, HJ3.out, HR3.out, HXX.out.imp id .inl⟩
        case measure => simp [intOf]; omega
      · rw [HT.out] at hJx3
        have HJ3 := Lib.hid hJx3
        clear hJx3 hkk hkx hy d0 d1 hx
        gi_wp2
        refine bodyPost_ret (results_none rfl _ _ _) rfl ?_
        exact ⟨⟨_, rfl⟩, .inr ⟨_, _, List.take_prefix _ _, HJ3.out⟩⟩
    · obtain rfl : k = l.length := by omega
      have hd : decide ((l.length : Int) < (l.length : Int)) = false := by simp
      have HE : Hid (J X L wr) := by have := HJ0.out; rw [HLL.out, List.take_length] at this; exact this
      gi_wp2
      go_end0
      exact ⟨⟨_, rfl⟩, .inl ⟨_, _, rfl, HE.out⟩⟩
theorem egAS : ∀ args W, (callFunc 121 args).run Try.prog W = .ok (.enter 121 args) W := enters_of Try.func121 (by kernel_rfl) rfl
set_option maxRecDepth 100000 in
theorem allMS (w : World) (p : Nat) (v : Value) (L : List (ByteArray × Int)) (h : MapS w p v (ents vI L)) (hl : L.length ≤ 1000000) :
    Calls Try.prog 92 #[.pointer (some ⟨p, 0, none⟩)] w fun e w' => ∃ fv, e = .returned fv ∧ IterE (fun e : ByteArray × Int => #[Value.string e.1, vI e.2]) fv L w' ∧ Below w.heap.size w w' := by
  have HM := Lib.hid h
  clear h
  go_enter Try.func92, Try.ntmps92
  go_wp2
  go_ret
  have hb1 : Below w.heap.size w (w.alloc (.cells #[.pointer (some ⟨p, 0, none⟩)] 70)) := (Below.refl _ w).alloc (Nat.le_refl _) _
  have x1 := Boxed.new w 70 (.pointer (some ⟨p, 0, none⟩))
  exact ⟨_, rfl, ⟨_, _, rfl, egAS, fun n hn K => allS1S n hn K _ _ p v L hl x1.cell (HM.out.kept hb1)⟩, hb1⟩
theorem info_mI : (Try.prog.info? 133).map (fun i => (i.zero, i.size, i.bytes)) = some (some (.agg #[.int .i64 0, .slice none 0 0]), 2, 32) := by kernel_rfl
set_option maxRecDepth 100000 in
set_option maxHeartbeats 400000 in
theorem cloneMI (w : World) (a : Option Addr) (n cap : Nat) (l : List (Int × Value)) (hl : l.length = n) (hn : n ≤ 1000000) (h1 : ∀ e ∈ l, e.2.oneCell' = true) (hr : Row w a (l.length * 2) (fun j => (mvs (fun x : Int => (Value.int .i64 x : Value)) l).getD j undef)) :
    Calls Try.prog 128 #[.slice a n cap] w fun e w' => ∃ v, e = .returned v ∧ w'.ownsRow w.heap.size 133 2 v n (mvs (fun x : Int => (Value.int .i64 x : Value)) l) ∧ Below w.heap.size w w' := by
  subst hl
  have hnil := fun W => Lib.run_eql_slice_nil (P := Try.prog) W 129 133 a l.length cap 0 0 Try.underlying129
  obtain ⟨i0, hi, hz0, hz1, hz2⟩ := info_parts info_mI
  cases a with
  | none =>
    have hn0 : l.length = 0 := by rcases hr.at_ with h | h; · omega
                                  · cases h
    have e0 : l = [] := List.eq_nil_of_length_eq_zero hn0
    subst e0
    clear hn0
    have e1 : Option.isNone (none : Option Addr) = true := rfl
    clear hr h1
    simp only [List.length_nil, mvs_nil] at hnil hn ⊢
    go_enter Try.func128, Try.ntmps128
    go_wp2
    go_ret
    exact ⟨_, rfl, World.ownsRow_nil _ _ _ _, Below.refl _ _⟩
  | some ad =>
    have hx0 := owns_empty2 w w.heap.size 133 (Nat.le_refl _)
    have hb0 : Below w.heap.size w (w.alloc (.cells #[] 133)) := (Below.refl _ w).alloc (Nat.le_refl _) _
    have hr0 := hr.kept hb0
    obtain ⟨v3, w3, hrun3, hown3, hg3, _, _⟩ := run_append_own_at (P := Try.prog) (w.alloc (.cells #[] 133)) w.heap.size 129 129 133 i0 _ 2 32 Try.underlying129 hi hz0 hz1 hz2 rfl (by omega) _ 0 [] hx0 ad l.length cap (mvs (fun x : Int => (Value.int .i64 x : Value)) l) (mvs_len _ l)
      (fun j u hu => by
        have hj : j < (mvs (fun x : Int => (Value.int .i64 x : Value)) l).length := (List.getElem?_eq_some_iff.1 hu).1
        rw [mvs_len] at hj
        have hc := hr0.cell j hj
        rw [List.getD_eq_getElem?_getD, hu] at hc
        have h' : ad = ⟨bOf (some ad), oOf (some ad), none⟩ := by rcases hr.at_ with h | h; · omega
                                                                  · injection h
        have e : ad.add j = ⟨bOf (some ad), oOf (some ad) + j, none⟩ := by
          conv => lhs; rw [h']
          exact Addr.add_lit _ _ _
        rw [e]
        exact hc)
      (mvs_one _ (fun _ => rfl) l h1) (by simp only [maxLen]; omega) (by omega) (by simp)
    have hB3 : Below w.heap.size w w3 := hb0.grown hg3 (by simp) (fun k hk => by simp [Value.ownBlock] at hk; omega)
    rw [Nat.zero_add, List.nil_append] at hown3
    have R3 := Lib.hid hrun3
    have HR3 := Lib.hid hown3
    have HB3 := Lib.hid hB3
    obtain ⟨a3, cap3, rfl, -⟩ := mrow_of_owns hown3 rfl
    clear hr hr0 hx0 hb0 hrun3 hown3 hg3 hB3 h1
    go_enter Try.func128, Try.ntmps128
    go_wp2_with ((with_reducible refine wpList_append_run rfl _ _ _ rfl R3.out rfl rfl ?_); clear R3)
    go_ret
    exact ⟨_, rfl, HR3.out, HB3.out⟩
set_option maxRecDepth 100000 in
set_option maxHeartbeats 2000000 in
theorem allS1I (n : Nat) (hn : 1 ≤ n) (K : Nat → Prop) (w : World) (B1 p : Nat) (v : Value) (L : List (Int × (Option Addr × Nat × Nat))) (hl : L.length ≤ 1000000) (hc : w.cell? ⟨B1, 0, none⟩ = some (.pointer (some ⟨p, 0, none⟩))) (h : MapI w p v (ents vS L)) :
    SeqX Fence.wide n Try.prog 127 #[.pointer (some ⟨B1, 0, none⟩)] (fun e : Int × (Option Addr × Nat × Nat) => #[Value.int .i64 e.1, vS e.2]) K (fun xs => xs = L) (fun pre => pre <+: L) L.length w := by
  intro lp J Jx W hW hJ hJx hY h0
  have hwf : ∀ f, Fence.wide.fn f = True := fun _ => rfl
  refine callsIn_of_wp Try.func127 rfl trivial ?_ rfl
  simp only [Try.ntmps127, List.size_toArray, List.length_cons, List.length_nil, Nat.reduceAdd, Nat.reduceSub, Array.replicate_succ, Array.replicate_zero, List.push_toArray, List.append_toArray, List.nil_append, List.cons_append]
  have HY := Lib.hid hY
  have HJ := Lib.hid hJ
  have HJX := Lib.hid hJx
  have H0 := Lib.hid h0
  have c1 := (hW.cell (p := ⟨B1, 0, none⟩) (World.block_lt_of_cell? w _ hc)).trans hc
  obtain ⟨l, hLl⟩ : ∃ l, l = ents vS L := ⟨_, rfl⟩
  have hll : l.length = L.length := by rw [hLl, ents_len]
  rw [← hLl] at h
  have HLE := Lib.hid hLl
  have HLL := Lib.hid hll
  clear hLl hll
  have hM := h.kept hW
  have c2 := hM.box.cell
  obtain ⟨a0, cap0, rfl, hc0, hr0, -⟩ := mrow_of_owns hM.row rfl
  have HCL := Lib.hid (cloneMI W a0 l.length cap0 l rfl (by have := HLL.out; omega) h.one hr0)
  clear hY hJ hJx h0 hW hc h hM hr0
  gi_wp2_with fail
  refine (callsIn_wide.2 HCL.out).mono ?_
  rintro e W1 ⟨v1, rfl, ho1, hb⟩
  obtain ⟨a, cap, rfl, hca, hr1, hla⟩ := mrow_of_owns ho1 rfl
  obtain ⟨X1, hX1⟩ : ∃ X1 : Nat → Prop, X1 = fun b => W.heap.size ≤ b ∧ b < W1.heap.size := ⟨_, rfl⟩
  have HJ1 : Hid (J X1 [] W1) := HJ.out _ _ _ _ _ H0.out (StepX.of_below hb) (fun b hb => by rw [hX1] at hb; exact .inr hb)
  have HXK : Hid (l.length = 0 ∨ X1 (bOf a)) := by
    rcases Nat.eq_zero_or_pos l.length with h | h
    · exact .inl h
    · refine .inr ?_
      rw [hX1]
      exact ⟨hla.resolve_left (by omega), hr1.lt (by omega)⟩
  have HR1 := Lib.hid hr1
  have hix := run_ixN (P := Try.prog) 129 2 (by kernel_rfl) (fun w => by kernel_rfl) a l.length cap (hr1.at_.imp (fun e => by omega) id)
  have HIX := Lib.hid hix
  clear hr1 hb hla ho1 hX1 H0 hix HCL hca c1 c2
  gi_wp2
  gi_loopw [4, 11] (fun _ v11 wr => ∃ (k : Nat) (X : Nat → Prop), k ≤ l.length ∧ v11 = .int .i64 (k : Int) ∧ J X (L.take k) wr ∧ Row wr a (l.length * 2) (fun j => (mvs (fun x : Int => (Value.int .i64 x : Value)) l).getD j undef) ∧ (l.length = 0 ∨ X (bOf a))) (fun _ v11 _ => l.length - (intOf v11).toNat)
  case atStart => exact ⟨0, X1, Nat.zero_le _, rfl, by rw [List.take_zero]; exact HJ1.out, HR1.out, HXK.out⟩
  case round =>
    obtain ⟨k, X, hk, rfl, hj, hrow, hxk⟩ := hrel
    have HJ0 := Lib.hid hj
    have HR0 := Lib.hid hrow
    have HXX := Lib.hid hxk
    clear hj hrow hxk
    by_cases hlt : k < l.length
    · obtain ⟨d0, d1⟩ := mkeyI HR0.out k hlt
      have hx := fun W => HIX.out W k hlt
      have hltL : k < L.length := by have := HLL.out; omega
      have hone : l[k].2 = vS L[k].2 := by
        have h1 : ∀ (l' : List (Int × Value)) (hk : k < l'.length), l' = ents vS L → l'[k].2 = vS L[k].2 := fun l' hk e => by subst e; rw [ents_get vS L k hltL hk]
        exact h1 l hlt HLE.out
      have hkey : l[k].1 = L[k].1 := by
        have h1 : ∀ (l' : List (Int × Value)) (hk : k < l'.length), l' = ents vS L → l'[k].1 = L[k].1 := fun l' hk e => by subst e; rw [ents_get vS L k hltL hk]
        exact h1 l hlt HLE.out
      have HT : Hid (L.take k ++ [L[k]] = L.take (k + 1)) := by
        show _ = _
        rw [List.take_succ_eq_append_getElem hltL]
      have ek : (keysL l).getD k (0 : Int) = l[k].1 := by unfold keysL; rw [List.getD_eq_getElem?_getD, List.getElem?_map, List.getElem?_eq_getElem hlt]; rfl
      rw [ek, hkey] at d0
      rw [hone] at d1
      clear ek hone hkey
      generalize L[k] = x at *
      obtain ⟨x, ua, un, uc⟩ := x
      simp only at d0 d1
      have hbw : Below wr.heap.size wr (wr.alloc (.cells #[Value.int .i64 x, (.slice ua un uc)] 133)) := (Below.refl _ wr).alloc (Nat.le_refl _) _
      have HBW := Lib.hid hbw
      have hJ2 : J (fun b => X b ∨ b = wr.heap.size) (L.take k) (wr.alloc (.cells #[Value.int .i64 x, (.slice ua un uc)] 133)) := HJ.out _ _ _ _ _ HJ0.out (StepX.of_below hbw) (fun b hb => hb.imp id (fun e => by subst e; exact ⟨Nat.le_refl _, by simp⟩))
      obtain ⟨fn, tmps, assign, body, hy, hR⟩ := HY.out _ (L.take k) (x, ua, un, uc) _ hJ2 (by rw [List.length_take]; omega)
      have HYR := Lib.hid hR
      clear hR hJ2 hbw
      gi_wp2
      refine HYR.out.mono ?_
      rintro e0 W3 ⟨hkx, hkk, (⟨rfl, hJ3⟩ | ⟨rfl, hJx3⟩)⟩
      · rw [HT.out] at hJ3
        have HJ3 := Lib.hid hJ3
        have HR3 : Hid (Row W3 a (l.length * 2) (fun j => (mvs (fun x : Int => (Value.int .i64 x : Value)) l).getD j undef)) := ⟨HR0.out.at_, fun j hj => by
          have h1 := (HR0.out.kept HBW.out).cell j hj
          have hlt1 := World.block_lt_of_cell? _ _ h1
          exact (World.cell?_of_block (a := ⟨bOf a, oOf a + j, none⟩) (hkx.block _ hlt1 (.inl (HXX.out.resolve_left (by omega))))).trans h1⟩
        clear hJ3 hkk hkx hy d0 d1 hx
        gi_wp2
        go_roundw
        case rel => exact ⟨k + 1, _, by omega, by go_num, HJ3.out, HR3.out, HXX.out.imp id .inl⟩
        case measure => simp [intOf]; omega
      · rw [HT.out] at hJx3
        have HJ3 := Lib.hid hJx3
        clear hJx3 hkk hkx hy d0 d1 hx
        gi_wp2
        refine bodyPost_ret (results_none rfl _ _ _) rfl ?_
        exact ⟨⟨_, rfl⟩, .inr ⟨_, _, List.take_prefix _ _, HJ3.out⟩⟩
    · obtain rfl : k = l.length := by omega
      have hd : decide ((l.length : Int) < (l.length : Int)) = false := by simp
      have HE : Hid (J X L wr) := by have := HJ0.out; rw [HLL.out, List.take_length] at this; exact this
      gi_wp2
      go_end0
      exact ⟨⟨_, rfl⟩, .inl ⟨_, _, rfl, HE.out⟩⟩
theorem egAI : ∀ args W, (callFunc 127 args).run Try.prog W = .ok (.enter 127 args) W := enters_of Try.func127 (by kernel_rfl) rfl
set_option maxRecDepth 100000 in
theorem allMI (w : World) (p : Nat) (v : Value) (L : List (Int × (Option Addr × Nat × Nat))) (h : MapI w p v (ents vS L)) (hl : L.length ≤ 1000000) :
    Calls Try.prog 99 #[.pointer (some ⟨p, 0, none⟩)] w fun e w' => ∃ fv, e = .returned fv ∧ IterE (fun e : Int × (Option Addr × Nat × Nat) => #[Value.int .i64 e.1, vS e.2]) fv L w' ∧ Below w.heap.size w w' := by
  have HM := Lib.hid h
  clear h
  go_enter Try.func99, Try.ntmps99
  go_wp2
  go_ret
  have hb1 : Below w.heap.size w (w.alloc (.cells #[.pointer (some ⟨p, 0, none⟩)] 77)) := (Below.refl _ w).alloc (Nat.le_refl _) _
  have x1 := Boxed.new w 77 (.pointer (some ⟨p, 0, none⟩))
  exact ⟨_, rfl, ⟨_, _, rfl, egAI, fun n hn K => allS1I n hn K _ _ p v L hl x1.cell (HM.out.kept hb1)⟩, hb1⟩
end Go.Proofs.Ytoifmfdaghmleaa
