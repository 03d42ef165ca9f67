/-
  BagJoins: two rows that rise are joined to what is in either, in both, or in the first alone; left anywhere, and gone through again, it is the same.
-/
import Derived.Test.YtoifmfdaghmleaaBagStep
import Derived.Test.YtoifmfdaghmleaaBagApp
import Derived.Test.YtoifmfdaghmleaaRowOpen
set_option linter.unusedVariables false
namespace Go.Proofs.Ytoifmfdaghmleaa
open Go.RowKit Go.Lib Go.Sort Go.Shelf
theorem egPtrJ (p : Nat) (W : World) : (binOp .eql 42 (.pointer (some ⟨p, 0, none⟩)) (.pointer none)).run Try.prog W = .ok (.bool false) W := by kernel_rfl
/-- no panic: a region's end that hides nothing of the frame where there is one -/
def noPanic (Q : Exit → Act → World → Prop) : Exit → Act → World → Prop
  | .panic _, _, _ => False
  | e, a, w => Q e a w
theorem noPanic_normal {Q : Exit → Act → World → Prop} {a : Act} {w : World} (h : Q .normal a w) : noPanic Q .normal a w := h
theorem wp_noPanic {P : Program} {c : Code} {Q : Exit → Act → World → Prop} {a : Act} {w : World} (h : c.wp P (noPanic Q) a w) : c.wp P Q a w := Code.wp_mono (fun e a w hq => by
  cases e
  case panic => exact hq.elim
  all_goals exact hq) h
theorem set_app {α : Type} [DecidableEq α] {lt : α → α → Bool} (h : OrdB lt) {p q : List α} (hp : Rise lt p) (hq : Rise lt q) : setL lt (p ++ q) = unL lt p q :=
  rise_ext h (setL_is h _).1 (joinL_rise h _ _ _ hp hq) (fun z => by rw [(setL_is h _).2, un_mem h hp hq, List.mem_append])
theorem whereI_in {l : List Int} {x : Int} (h : x ∈ l) : 0 ≤ whereI l x := by unfold whereI; rw [if_pos h]; omega
theorem whereI_out {l : List Int} {x : Int} (h : x ∉ l) : whereI l x = -1 := by unfold whereI; rw [if_neg h]
theorem take_snoc2 {α : Type} (l : List α) (k : Nat) (d : α) (hk : k < l.length) : l.take (k + 1) = l.take k ++ [l.getD k d] := by
  rw [List.take_add_one, List.getElem?_eq_getElem hk, List.getD_eq_getElem?_getD, List.getElem?_eq_getElem hk]
  rfl
abbrev inB (B : List Int) : Int → Bool := fun z => decide (z ∈ B)
abbrev outB (B : List Int) : Int → Bool := fun z => !decide (z ∈ B)
theorem filt_yes {α : Type} {p : α → Bool} {l : List α} {x : α} (h : p x = true) : (l ++ [x]).filter p = l.filter p ++ [x] := by rw [List.filter_append, List.filter_cons, if_pos h, List.filter_nil]
theorem filt_no {α : Type} {p : α → Bool} {l : List α} {x : α} (h : p x = false) : (l ++ [x]).filter p = l.filter p := by rw [List.filter_append, List.filter_cons, if_neg (by rw [h]; decide), List.filter_nil, List.append_nil]
theorem inB_t {B : List Int} {x : Int} (h : x ∈ B) : inB B x = true := decide_eq_true h
theorem inB_f {B : List Int} {x : Int} (h : x ∉ B) : inB B x = false := decide_eq_false h
theorem outB_f {B : List Int} {x : Int} (h : x ∈ B) : outB B x = false := by show (!decide (x ∈ B)) = false; rw [decide_eq_true h]; rfl
theorem outB_t {B : List Int} {x : Int} (h : x ∉ B) : outB B x = true := by show (!decide (x ∈ B)) = true; rw [decide_eq_false h]; rfl
/-- the loop's two rows: those of the first k that are in the other one, and those that are not -/
structure TwoR (w3 W : World) (vb vl : Value) (P Q : List Int) : Prop where
  rb : W.ownsRow w3.heap.size 3 1 vb P.length (P.map (Value.int .i64))
  rl : W.ownsRow w3.heap.size 3 1 vl Q.length (Q.map (Value.int .i64))
  ap : Apart vb vl
  bel : Below w3.heap.size w3 W
set_option maxRecDepth 100000 in
set_option maxHeartbeats 8000000 in
theorem bagJoins_walk (w : World) (a : Option Addr) (n cap : Nat) (f : Nat → Int) (hl : n ≤ maxLen) (h : Row w a n (fun k => .int .i64 (f k)) ∧ ∀ k, k < n → (Lit.int .i64 (f k)).wf = true) (b : Option Addr) (m cab : Nat) (g : Nat → Int) (hl2 : m ≤ maxLen) (h2 : Row w b m (fun k => .int .i64 (g k)) ∧ ∀ k, k < m → (Lit.int .i64 (g k)).wf = true) (most : Int) (hmo : (Lit.int .i64 most).wf = true) :
    Calls Try.prog 6 #[.slice a n cap, .slice b m cab, .int .i64 most] w fun e w' => e = .returned (.bool true) ∧ Below w.heap.size w w' := by
  have HAW := Lib.hid (fun W => awake5_any W)
  by_cases h60 : (100 : Int) < (n : Int)
  · clear h h2
    go_enter Try.func6, Try.ntmps6
    go_wp2_with (go_at_call 23; refine (HAW.out _).mono ?_; rintro e w' ⟨rfl, hb⟩; have HB := Lib.hid hb; clear hb)
    go_ret
    exact ⟨rfl, HB.out⟩
  by_cases h61 : (100 : Int) < (m : Int)
  · clear h h2
    go_enter Try.func6, Try.ntmps6
    go_wp2_with (go_at_call 23; refine (HAW.out _).mono ?_; rintro e w' ⟨rfl, hb⟩; have HB := Lib.hid hb; clear hb)
    go_ret
    exact ⟨rfl, HB.out⟩
  clear HAW
  have hr := row_listOf h.1
  have hr2 := row_listOf h2.1
  have hn : n ≤ 100 := by omega
  have hm : m ≤ 100 := by omega
  obtain ⟨L, hL⟩ : ∃ l, l = listOf f n := ⟨_, rfl⟩
  obtain ⟨M, hM⟩ : ∃ l, l = listOf g m := ⟨_, rfl⟩
  obtain rfl : n = L.length := by rw [hL]; exact (listOf_len f n).symm
  obtain rfl : m = M.length := by rw [hM]; exact (listOf_len g m).symm
  rw [← hL] at hr
  rw [← hM] at hr2
  clear h h2 hL hM hl hl2
  have HS : Hid (LwI w w [] [(a, L), (b, M)] []) := ⟨Below.refl _ _, fun s hs => (List.not_mem_nil hs).elim, fun r hr' => by
    rcases List.mem_cons.1 hr' with rfl | h'
    · exact hr
    · rcases List.mem_cons.1 h' with rfl | h''
      · exact hr2
      · exact (List.not_mem_nil h'').elim, fun s hs => (List.not_mem_nil hs).elim⟩
  have HLN := Lib.hid hn
  have HMN := Lib.hid hm
  clear hr hr2 hn hm
  go_enter Try.func6, Try.ntmps6
  go_wp2_with fail
  refine (stSet HS.out a cap L (by simp only [List.mem_cons, eq_self, true_or, or_true]) (by have := HLN.out; omega)).mono ?_
  rintro e W ⟨ax, cx, rfl, -, -, hs⟩
  replace HS := Lib.hid hs
  clear hs
  go_wp2_with fail
  refine (stSet HS.out b cab M (by simp only [List.mem_cons, eq_self, true_or, or_true]) (by have := HMN.out; omega)).mono ?_
  rintro e w3 ⟨ay, cy, rfl, -, -, hs⟩
  have hA := setL_len (lt := ltI) L
  have hB := setL_len (lt := ltI) M
  have RA := Lib.hid (setL_is ordI L).1
  have RB := Lib.hid (setL_is ordI M).1
  have HA : Hid ((setL ltI L).length ≤ 100) := by have := HLN.out; show _ ≤ _; omega
  have HB : Hid ((setL ltI M).length ≤ 100) := by have := HMN.out; show _ ≤ _; omega
  obtain ⟨A, hA2⟩ : ∃ A, A = setL ltI L := ⟨_, rfl⟩
  obtain ⟨B, hB2⟩ : ∃ B, B = setL ltI M := ⟨_, rfl⟩
  have HEA := Lib.hid hA2
  have HEB := Lib.hid hB2
  rw [← hA2, ← hB2] at hs ⊢
  rw [← hA2] at HA RA
  rw [← hB2] at HB RB
  replace HS := Lib.hid hs
  clear hs hA hB hA2 hB2
  have HRX : Hid (Row w3 ax A.length (intsF A)) := HS.out.rows (ax, A) (by simp only [List.mem_cons, eq_self, true_or, or_true])
  have HRY : Hid (Row w3 ay B.length (intsF B)) := HS.out.rows (ay, B) (by simp only [List.mem_cons, eq_self, true_or, or_true])
  have HIX := Lib.hid (run_ix (P := Try.prog) 31 (by kernel_rfl) size_int ax A.length cx HRX.out.at_ .i64)
  have HAT := Lib.hid (fun W (hW : Below w3.heap.size w3 W) x => at_any5 W ay B.length cy B rfl (HRY.out.kept hW) (by have := HB.out; omega) RB.out x)
  obtain ⟨i0, hi, hz0, hz1, hz2⟩ := info_parts info_rI
  generalize hal : A.length = al at *
  have HAL := Lib.hid hal
  clear hal
  go_wp2
  go_loopw [9, 10, 11] (fun v9 v10 v11 wr => ∃ k : Nat, k ≤ al ∧ v11 = .int .i64 (k : Int) ∧ TwoR w3 wr v9 v10 ((A.take k).filter (inB B)) ((A.take k).filter (outB B))) (fun _ _ v11 _ => al - (intOf v11).toNat)
  case atStart => exact ⟨0, Nat.zero_le _, rfl, ⟨World.ownsRow_nil _ _ _ _, World.ownsRow_nil _ _ _ _, .inl rfl, Below.refl _ _⟩⟩
  case round =>
    obtain ⟨k, hk, rfl, ht⟩ := hrel
    by_cases hlt : k < al
    · have d := (HRX.out.kept ht.bel).cell k hlt
      have hxk := fun W => HIX.out W k hlt
      have HT := Lib.hid ht
      have HATK := Lib.hid (HAT.out _ ht.bel (A.getD k 0))
      have hsn := take_snoc2 A k 0 (by rw [HAL.out]; exact hlt)
      have HSN := Lib.hid hsn
      have hpl : ((A.take k).filter (inB B)).length ≤ 100 := Nat.le_trans (List.length_filter_le _ _) (Nat.le_trans (List.length_take_le _ _) (by have := HA.out; omega))
      have hql : ((A.take k).filter (outB B)).length ≤ 100 := Nat.le_trans (List.length_filter_le _ _) (Nat.le_trans (List.length_take_le _ _) (by have := HA.out; omega))
      simp only [intsF] at d
      have hbs := ht.bel.size
      have hk100 : (k : Int) ≤ 100 := by have := HA.out; omega
      clear ht hsn
      by_cases hin : A.getD k 0 ∈ B
      · have hwp := whereI_in hin
        have HF1 : Hid ((A.take (k + 1)).filter (inB B) = (A.take k).filter (inB B) ++ [A.getD k 0]) := by show _ = _; rw [HSN.out]; exact filt_yes (inB_t hin)
        have HF2 : Hid ((A.take (k + 1)).filter (outB B) = (A.take k).filter (outB B)) := by show _ = _; rw [HSN.out]; exact filt_no (outB_f hin)
        clear hin
        generalize A.getD k 0 = y at *
        generalize whereI B y = z at *
        generalize (A.take k).filter (inB B) = lb at *
        generalize (A.take k).filter (outB B) = lo at *
        go_wp2_with fail
        refine HATK.out.mono ?_
        rintro e w4 ⟨rfl, rfl⟩
        go_wp2_with (at_builtin; refine wpList_append_own_at _ rfl _ _ 31 rfl w3.heap.size 3 i0 (.int .i64 0) 1 8 Try.underlying31 hi hz0 hz1 hz2 rfl (by decide) _ _ _ rfl (HT.out.rb.alloc _) ⟨w4.heap.size, 0, none⟩ 1 1 [.int .i64 y] rfl rfl (cell_one_new _ _ _) (by simp [Value.oneCell']) (by simp only [maxLen]; omega) (by omega) (by simp; omega) ?_; intro v' w5 hown' hgrow _ hat)
        have hlt' := HT.out.rb.lt
        obtain ⟨hO1', hA'⟩ := owns_two HT.out.rl HT.out.ap.symm hgrow hat
        have HTN : Hid (TwoR w3 w5 v' _ (lb ++ [y]) lo) := ⟨by rw [List.length_append, List.map_append]; exact hown', hO1', hA'.symm, (HT.out.bel.alloc hbs _).grown hgrow (by simp; omega) (fun g hg => (hlt' g hg).1)⟩
        clear hown' hgrow hat hO1' hA' hlt' hbs d hxk HATK hpl hql
        go_wp2
        go_roundw
        case rel => exact ⟨k + 1, by omega, by go_num, by rw [HF1.out, HF2.out]; exact HTN.out⟩
        case measure => simp [intOf]; omega
      · have hwp := whereI_out hin
        have HF1 : Hid ((A.take (k + 1)).filter (outB B) = (A.take k).filter (outB B) ++ [A.getD k 0]) := by show _ = _; rw [HSN.out]; exact filt_yes (outB_t hin)
        have HF2 : Hid ((A.take (k + 1)).filter (inB B) = (A.take k).filter (inB B)) := by show _ = _; rw [HSN.out]; exact filt_no (inB_f hin)
        rw [hwp] at HATK
        clear hin hwp
        generalize A.getD k 0 = y at *
        generalize (A.take k).filter (inB B) = lb at *
        generalize (A.take k).filter (outB B) = lo at *
        go_wp2_with fail
        refine HATK.out.mono ?_
        rintro e w4 ⟨rfl, rfl⟩
        go_wp2_with (at_builtin; refine wpList_append_own_at _ rfl _ _ 31 rfl w3.heap.size 3 i0 (.int .i64 0) 1 8 Try.underlying31 hi hz0 hz1 hz2 rfl (by decide) _ _ _ rfl (HT.out.rl.alloc _) ⟨w4.heap.size, 0, none⟩ 1 1 [.int .i64 y] rfl rfl (cell_one_new _ _ _) (by simp [Value.oneCell']) (by simp only [maxLen]; omega) (by omega) (by simp; omega) ?_; intro v' w5 hown' hgrow _ hat)
        have hlt' := HT.out.rl.lt
        obtain ⟨hO1', hA'⟩ := owns_two HT.out.rb HT.out.ap hgrow hat
        have HTN : Hid (TwoR w3 w5 _ v' lb (lo ++ [y])) := ⟨hO1', by rw [List.length_append, List.map_append]; exact hown', hA', (HT.out.bel.alloc hbs _).grown hgrow (by simp; omega) (fun g hg => (hlt' g hg).1)⟩
        clear hown' hgrow hat hO1' hA' hlt' hbs d hxk HATK hpl hql
        go_wp2
        go_roundw
        case rel => exact ⟨k + 1, by omega, by go_num, by rw [HF1.out, HF2.out]; exact HTN.out⟩
        case measure => simp [intOf]; omega
    · obtain rfl : k = al := by omega
      have hT : A.take k = A := List.take_of_length_le (by rw [HAL.out]; exact Nat.le_refl _)
      rw [hT] at ht
      have hbo : A.filter (inB B) = boL ltI A B := (bo_filter ordI RA.out RB.out).symm
      have hle : A.filter (outB B) = leL ltI A B := (le_filter ordI RA.out RB.out).symm
      rw [hbo, hle] at ht
      obtain ⟨ab, cb, rfl, hcb, -⟩ := Row.of_owns ht.rb
      obtain ⟨ao, co, rfl, hco, -⟩ := Row.of_owns ht.rl
      have hsb := SRow.of_owns ht.rb
      have hso := SRow.of_owns ht.rl
      have hrb := row_ofI ht.rb
      have hro := row_ofI ht.rl
      -- x and y, one behind the other
      have hrx := HRX.out.kept ht.bel
      have hry := HRY.out.kept ht.bel
      have hx0 := owns_empty wr wr.heap.size 3 (Nat.le_refl _)
      have hb0 : Below wr.heap.size wr (wr.alloc (.cells #[] 3)) := (Below.refl _ wr).alloc (Nat.le_refl _) _
      obtain ⟨v4, w4, hrun4, hown4, hg4, _⟩ := run_append_row (P := Try.prog) (wr.alloc (.cells #[] 3)) wr.heap.size 31 31 3 i0 _ 8 Try.underlying31 hi hz0 hz1 hz2 rfl _ 0 [] hx0 ax k cx _ (hrx.kept hb0) (fun _ _ => rfl) (by simp only [maxLen]; have := HA.out; omega) (by have := HA.out; omega) (by simp)
      have hB4 : Below wr.heap.size wr w4 := hb0.grown hg4 (by simp) (fun g hg => by simp [Value.ownBlock] at hg; omega)
      rw [Nat.zero_add, List.nil_append] at hown4
      have hown4lt := hown4.lt
      obtain ⟨a4, c4, rfl, -⟩ := Row.of_owns hown4
      obtain ⟨v5, w5, hrun5, hown5, hg5, _⟩ := run_append_row (P := Try.prog) w4 wr.heap.size 31 31 3 i0 _ 8 Try.underlying31 hi hz0 hz1 hz2 rfl _ k _ hown4 ay B.length cy _ (hry.kept hB4) (fun _ _ => rfl) (by simp only [maxLen]; have := HA.out; have := HB.out; omega) (by have := HA.out; have := HB.out; omega) hB4.size
      have hB5 : Below wr.heap.size wr w5 := hB4.grown hg5 hB4.size (fun g hg => (hown4lt g hg).1)
      have hxs : (List.range k).map (intsF A) ++ (List.range B.length).map (intsF B) = (A ++ B).map (Value.int .i64) := by
        rw [List.map_append, ← HAL.out, range_getD A 0 (Value.int .i64), range_getD B 0 (Value.int .i64)]
      have hlen : k + B.length = (A ++ B).length := by rw [List.length_append, HAL.out]
      rw [hxs, hlen] at hown5
      obtain ⟨C, hC⟩ : ∃ C, C = A ++ B := ⟨_, rfl⟩
      rw [← hC] at hown5 hlen
      obtain ⟨a5, c5, rfl, -⟩ := Row.of_owns hown5
      have hr5 := row_ofI hown5
      have HSET := Lib.hid (set_any w5 a5 C.length c5 C rfl hr5 (by rw [← hlen]; have := HA.out; have := HB.out; omega))
      have hal2 : setL ltI C = unL ltI A B := by rw [hC]; exact set_app ordI RA.out RB.out
      rw [hal2] at HSET
      have HR4 := Lib.hid hrun4
      have HR5 := Lib.hid hrun5
      have hbo2 : ((boL ltI A B).length ≤ 200 ∧ (leL ltI A B).length ≤ 200) ∧ (unL ltI A B).length ≤ 200 := by
        have h1 : (boL ltI A B).length ≤ _ := joinL_len ltI false false true _ A B (Nat.le_refl _)
        have h2 : (leL ltI A B).length ≤ _ := joinL_len ltI true false false _ A B (Nat.le_refl _)
        have h3 : (unL ltI A B).length ≤ _ := joinL_len ltI true true true _ A B (Nat.le_refl _)
        have := HA.out; have := HB.out; have := HAL.out; exact ⟨⟨by omega, by omega⟩, by omega⟩
      have HLE := Lib.hid hbo2
      have HBW := Lib.hid (ht.bel.trans (hB5.mono ht.bel.size))
      have HRB := Lib.hid (hrb.kept hB5)
      have HRO := Lib.hid (hro.kept hB5)
      have HATB : Hid ((ab = none ∧ (boL ltI A B).length = 0 ∧ cb = 0) ∨ ∃ g o, ab = some ⟨g, o, none⟩) := by
        obtain ⟨a', c', e, h⟩ := hsb; injection e with e1 e2 e3; subst e1 e3; exact h.at_
      have HATO : Hid ((ao = none ∧ (leL ltI A B).length = 0 ∧ co = 0) ∨ ∃ g o, ao = some ⟨g, o, none⟩) := by
        obtain ⟨a', c', e, h⟩ := hso; injection e with e1 e2 e3; subst e1 e3; exact h.at_
      have HCB := Lib.hid (And.intro hcb hco)
      clear ht hbo hle hcb hco hsb hso hrb hro hrx hry hx0 hb0 hrun4 hown4 hg4 hB4 hown4lt hrun5 hown5 hg5 hB5 hxs hlen hr5 hal2 hbo2 hC hT hlt hk
      go_wp2_with (first
        | ((with_reducible refine wpList_append_run rfl _ _ _ rfl HR4.out rfl rfl ?_); clear HR4)
        | ((with_reducible refine wpList_append_run rfl _ _ _ rfl HR5.out rfl rfl ?_); clear HR5))
      refine HSET.out.mono ?_
      rintro e w6 ⟨aa, ca, rfl, hsr, hb6⟩
      have HAA := Lib.hid hsr
      have HB6 := Lib.hid (below_next HBW.out hb6 HBW.out.size)
      have HBT := Lib.hid (below_next HS.out.bel HB6.out HS.out.bel.size)
      have hs6 := HS.out.kept HB6.out
      have hs7 : LwI w6 w6 [] [(aa, unL ltI A B), (ab, boL ltI A B), (ao, leL ltI A B), (a, L), (b, M)] [] := ⟨Below.refl _ _, fun s hs => (List.not_mem_nil hs).elim, fun r hr' => by
        rcases List.mem_cons.1 hr' with rfl | h'
        · exact hsr.row
        · rcases List.mem_cons.1 h' with rfl | h'
          · exact HRB.out.kept hb6
          · rcases List.mem_cons.1 h' with rfl | h'
            · exact HRO.out.kept hb6
            · exact hs6.rows r (by
                rcases List.mem_cons.1 h' with rfl | h'
                · simp only [List.mem_cons, eq_self, true_or, or_true]
                · rcases List.mem_cons.1 h' with rfl | h'
                  · simp only [List.mem_cons, eq_self, true_or, or_true]
                  · exact (List.not_mem_nil h').elim), fun s hs => (List.not_mem_nil hs).elim⟩
      replace HS := Lib.hid hs7
      clear hs6 hs7 hsr hb6 HSET HRB HRO HBW HB6 HRX HRY HIX HAT
      go_wp2_with fail
      refine (stNewI HS.out a cap L (by simp only [List.mem_cons, eq_self, true_or, or_true]) (by have := HLN.out; omega)).mono ?_
      rintro e W ⟨p, vp, rfl, hs⟩
      replace HS := Lib.hid hs
      clear hs
      go_wp2_with fail
      refine (stNewI HS.out b cab M (by simp only [List.mem_cons, eq_self, true_or, or_true]) (by have := HMN.out; omega)).mono ?_
      rintro e W ⟨q, vq, rfl, hs⟩
      replace HS := Lib.hid hs
      clear hs
      rw [← HEA.out, ← HEB.out] at HS
      have egP := fun W => egPtrJ p W
      have egQ := fun W => egPtrJ q W
      rw [← HAL.out] at HA
      go_wp2_with fail
      refine (stAllI HS.out p vp A (by simp only [List.mem_cons, eq_self, true_or, or_true]) (by have := HA.out; omega)).mono ?_
      rintro e W ⟨f1, rfl, hs⟩
      replace HS := Lib.hid hs
      clear hs
      go_wp2_with fail
      refine (stAllI HS.out q vq B (by simp only [List.mem_cons, eq_self, true_or, or_true]) (by have := HB.out; omega)).mono ?_
      rintro e W ⟨f2, rfl, hs⟩
      replace HS := Lib.hid hs
      clear hs
      go_wp2_with fail
      refine (stUnionI HS.out f1 f2 noB noB A B (by simp only [List.mem_cons, eq_self, true_or, or_true]) (by simp only [List.mem_cons, eq_self, true_or, or_true]) (by have := HA.out; omega) (by have := HB.out; omega)).mono ?_
      rintro e W ⟨fu, Du, rfl, hs⟩
      replace HS := Lib.hid hs
      clear hs
      go_wp2_with fail
      refine (stAllI HS.out p vp A (by simp only [List.mem_cons, eq_self, true_or, or_true]) (by have := HA.out; omega)).mono ?_
      rintro e W ⟨f3, rfl, hs⟩
      replace HS := Lib.hid hs
      clear hs
      go_wp2_with fail
      refine (stAllI HS.out q vq B (by simp only [List.mem_cons, eq_self, true_or, or_true]) (by have := HB.out; omega)).mono ?_
      rintro e W ⟨f4, rfl, hs⟩
      replace HS := Lib.hid hs
      clear hs
      go_wp2_with fail
      refine (stBothI HS.out f3 f4 noB noB A B (by simp only [List.mem_cons, eq_self, true_or, or_true]) (by simp only [List.mem_cons, eq_self, true_or, or_true]) (by have := HA.out; omega) (by have := HB.out; omega)).mono ?_
      rintro e W ⟨fv, Dv, rfl, hs⟩
      replace HS := Lib.hid hs
      clear hs
      go_wp2_with fail
      refine (stAllI HS.out p vp A (by simp only [List.mem_cons, eq_self, true_or, or_true]) (by have := HA.out; omega)).mono ?_
      rintro e W ⟨f5, rfl, hs⟩
      replace HS := Lib.hid hs
      clear hs
      go_wp2_with fail
      refine (stAllI HS.out q vq B (by simp only [List.mem_cons, eq_self, true_or, or_true]) (by have := HB.out; omega)).mono ?_
      rintro e W ⟨f6, rfl, hs⟩
      replace HS := Lib.hid hs
      clear hs
      go_wp2_with fail
      refine (stLessI HS.out f5 f6 noB noB A B (by simp only [List.mem_cons, eq_self, true_or, or_true]) (by simp only [List.mem_cons, eq_self, true_or, or_true]) (by have := HA.out; omega) (by have := HB.out; omega)).mono ?_
      rintro e w9 ⟨fw, Dw, rfl, hs⟩
      have HB69 := Lib.hid hs.bel
      have hs9 : LwI w9 w9 [] [(aa, unL ltI A B), (ab, boL ltI A B), (ao, leL ltI A B)] [(fu, Du, unL ltI A B), (fv, Dv, boL ltI A B), (fw, Dw, leL ltI A B)] := ⟨Below.refl _ _, fun s hs => (List.not_mem_nil hs).elim, fun r hr' => hs.rows r (by
        simp only [List.mem_cons, List.not_mem_nil, or_false] at hr'
        rcases hr' with rfl | rfl | rfl <;> simp only [List.mem_cons, eq_self, true_or, or_true]), fun r hr' => hs.its r (by
        simp only [List.mem_cons, List.not_mem_nil, or_false] at hr'
        rcases hr' with rfl | rfl | rfl <;> simp only [List.mem_cons, eq_self, true_or, or_true])⟩
      have HSA := Lib.hid HAA.out.at_
      have HSC := Lib.hid HAA.out.le
      clear hs HS HAA
      generalize unL ltI A B = U at *
      generalize boL ltI A B = V at *
      generalize leL ltI A B = Z at *
      have em : bits .and .i64 most 15 = most % 16 := i64_mask most 4 (by omega)
      obtain ⟨mm, hmm, hmm2⟩ : ∃ mm : Nat, bits .and .i64 most 15 = (mm : Int) ∧ mm ≤ 15 := ⟨(most % 16).toNat, by rw [em]; omega, by omega⟩
      clear em
      -- what is cut
      obtain ⟨T, hT⟩ : ∃ T, T = U.take mm := ⟨_, rfl⟩
      obtain ⟨S, hS⟩ : ∃ S, S = Z.take mm := ⟨_, rfl⟩
      obtain ⟨R, hR⟩ : ∃ R, R = U.take most.toNat := ⟨_, rfl⟩
      have hTl : T.length = min mm U.length := by rw [hT, List.length_take]
      have hSl : S.length = min mm Z.length := by rw [hS, List.length_take]
      have hRl : R.length = min most.toNat U.length := by rw [hR, List.length_take]
      have rowT : Row w9 aa T.length (intsF T) := by
        have h0 : Row w9 aa U.length (intsF U) := hs9.rows (aa, U) (by simp only [List.mem_cons, eq_self, true_or, or_true])
        exact (h0.take (by omega)).congr fun j hj => by show Value.int .i64 _ = Value.int .i64 _; rw [hT, getD_take _ _ _ _ (by omega)]
      have rowR : Row w9 aa R.length (intsF R) := by
        have h0 : Row w9 aa U.length (intsF U) := hs9.rows (aa, U) (by simp only [List.mem_cons, eq_self, true_or, or_true])
        exact (h0.take (by omega)).congr fun j hj => by show Value.int .i64 _ = Value.int .i64 _; rw [hR, getD_take _ _ _ _ (by omega)]
      have rowS : Row w9 ao S.length (intsF S) := by
        have h0 : Row w9 ao Z.length (intsF Z) := hs9.rows (ao, Z) (by simp only [List.mem_cons, eq_self, true_or, or_true])
        exact (h0.take (by omega)).congr fun j hj => by show Value.int .i64 _ = Value.int .i64 _; rw [hS, getD_take _ _ _ _ (by omega)]
      have HS9 := Lib.hid (((hs9.addR rowT).addR rowR).addR rowS)
      have hu200 := HLE.out.2
      have hv200 := HLE.out.1.1
      have hz200 := HLE.out.1.2
      have hsa := HSA.out
      have hsc := HSC.out
      have hoa := HATO.out
      have hoc := HCB.out.2
      have HTE := Lib.hid hT.symm
      have HSE := Lib.hid hS.symm
      have HRE := Lib.hid hR.symm
      have HCU : Hid (∀ W, (Instr.slice 31 (.slice aa U.length ca) none (some (.int .i64 (min (mm : Int) (U.length : Int)))) none).run Try.prog W = .ok (.slice aa T.length ca) W) := fun W => by
        rw [show min (mm : Int) (U.length : Int) = ((T.length : Nat) : Int) by rw [hTl]; omega]
        exact run_cuth W 31 3 Try.underlying31 (fun w => by kernel_rfl) aa U.length ca T.length (by omega) hsa
      have HCZ : Hid (∀ W, (Instr.slice 31 (.slice ao Z.length co) none (some (.int .i64 (min (mm : Int) (Z.length : Int)))) none).run Try.prog W = .ok (.slice ao S.length co) W) := fun W => by
        rw [show min (mm : Int) (Z.length : Int) = ((S.length : Nat) : Int) by rw [hSl]; omega]
        exact run_cuth W 31 3 Try.underlying31 (fun w => by kernel_rfl) ao Z.length co S.length (by omega) hoa
      have HCR : Hid (∀ W, (Instr.slice 31 (.slice aa U.length ca) none (some (.int .i64 (min (max most 0) (U.length : Int)))) none).run Try.prog W = .ok (.slice aa R.length ca) W) := fun W => by
        rw [show min (max most 0) (U.length : Int) = ((R.length : Nat) : Int) by rw [hRl]; omega]
        exact run_cuth W 31 3 Try.underlying31 (fun w => by kernel_rfl) aa U.length ca R.length (by omega) hsa
      have HU : Hid (U.length ≤ 200) := hu200
      have HV : Hid (V.length ≤ 200) := hv200
      have HZ : Hid (Z.length ≤ 200) := hz200
      have HTL : Hid (T.length ≤ 200) := by show _ ≤ _; omega
      have HSL : Hid (S.length ≤ 200) := by show _ ≤ _; omega
      have HRL : Hid (R.length ≤ 200) := by show _ ≤ _; omega
      have HMM : Hid (mm ≤ 15) := hmm2
      clear hTl hSl hRl hsa hsc hoa hoc hu200 hv200 hz200 hT hS hR rowT rowS rowR hs9 HSA HSC HATO HATB HCB HLE HA HB HAL HEA HEB RA RB hi hz0 hz1 hz2 hmm2
      clear i0
      go_wp2
      clear hmm
      go_loopw [19] (fun v19 wr => ∃ i : Nat, i ≤ 2 ∧ v19 = .int .i64 (i : Int) ∧ Below w9.heap.size w9 wr) (fun v19 _ => 2 - (intOf v19).toNat)
      case atStart => exact ⟨0, by omega, rfl, Below.refl _ _⟩
      case round =>
        obtain ⟨i, hi, rfl, hb⟩ := hrel
        have HBI := Lib.hid hb
        have HS := Lib.hid ((HS9.out.kept hb).kept (below_drewN (Below.refl _ wr) 1))
        clear hb
        by_cases hi2 : i < 2
        · have ti : (i : Int) < 2 := by omega
          have hcu := HCU.out
          have hcz := HCZ.out
          go_wp2
          refine wp_noPanic ?_
          refine wp_region_any (by kernel_rfl) ?_
          change wpAny _ _ _ _ _ #[false, false, false, false, false, false, false, false, false, false, false, false, false, false, false, false, false, false, false, false, false, false, false, false, false, false, false, false, false, false, false, false, false, false, false, false, false, false, false, false, false, false, false, false, false] _ (World.drew _)
          refine wpAny_take (i := 0) (v := ?_) rfl (by kernel_rfl) (by kernel_rfl) (by kernel_rfl) (fun _ _ _ h => h) (Or.inl ⟨by rfl, ?_⟩) ?_
          rotate_left
          · intro w
            go_simp
            with_reducible rfl
          change wpAny _ _ _ _ _ _ (Act.put _ (some 98) _) _
          go_frame
          refine wpAny_take (i := 1) (v := ?_) rfl (by kernel_rfl) (by kernel_rfl) (by kernel_rfl) (fun _ _ _ h => h) (Or.inl ⟨by rfl, ?_⟩) ?_
          rotate_left
          · intro w
            go_simp
            with_reducible rfl
          change wpAny _ _ _ _ _ _ (Act.put _ (some 99) _) _
          go_frame
          refine wpAny_take (i := 3) (v := ?_) rfl (by kernel_rfl) (by kernel_rfl) (by kernel_rfl) (fun _ _ _ h => h) (Or.inl ⟨by rfl, ?_⟩) ?_
          rotate_left
          · intro w
            go_simp
            with_reducible rfl
          change wpAny _ _ _ _ _ _ (Act.put _ (some 101) _) _
          go_frame
          refine wpAny_take (i := 4) (v := ?_) rfl (by kernel_rfl) (by kernel_rfl) (by kernel_rfl) (fun _ _ _ h => h) (Or.inl ⟨by rfl, ?_⟩) ?_
          rotate_left
          · intro w
            go_simp
            with_reducible rfl
          change wpAny _ _ _ _ _ _ (Act.put _ (some 102) _) _
          go_frame
          refine wpAny_take (i := 5) (v := ?_) rfl (by kernel_rfl) (by kernel_rfl) (by kernel_rfl) (fun _ _ _ h => h) (Or.inl ⟨by rfl, ?_⟩) ?_
          rotate_left
          · intro w
            go_simp
            with_reducible rfl
          change wpAny _ _ _ _ _ _ (Act.put _ (some 103) _) _
          go_frame
          refine wpAny_take (i := 6) (v := ?_) rfl (by kernel_rfl) (by kernel_rfl) (by kernel_rfl) (fun _ _ _ h => h) (Or.inl ⟨by rfl, ?_⟩) ?_
          rotate_left
          · intro w
            go_simp
            with_reducible rfl
          change wpAny _ _ _ _ _ _ (Act.put _ (some 104) _) _
          go_frame
          refine wpAny_take (i := 7) (v := ?_) rfl (by kernel_rfl) (by kernel_rfl) (by kernel_rfl) (fun _ _ _ h => h) (Or.inl ⟨by rfl, ?_⟩) ?_
          rotate_left
          · intro w
            go_simp
            with_reducible rfl
          change wpAny _ _ _ _ _ _ (Act.put _ (some 105) _) _
          go_frame
          refine wpAny_take (i := 8) (v := ?_) rfl (by kernel_rfl) (by kernel_rfl) (by kernel_rfl) (fun _ _ _ h => h) (Or.inl ⟨by rfl, ?_⟩) ?_
          rotate_left
          · intro w
            go_simp
            with_reducible rfl
          change wpAny _ _ _ _ _ _ (Act.put _ (some 106) _) _
          go_frame
          refine wpAny_ready (rs := [2]) (by kernel_rfl) (by simp) ?_
          refine AllReady.cons rfl (fun K hK => ?_) AllReady.nil
          go_simp
          refine (stFirstI HS.out fu Du U T (by simp only [List.mem_cons, eq_self, true_or, or_true]) mm HTE.out (by have := HU.out; omega) (by have := HMM.out; omega)).mono ?_
          rintro e W ⟨a1, ca1, rfl, hs⟩
          replace HS := Lib.hid hs
          clear hs
          refine hK _ _ ?_
          clear hK K
          go_frame
          refine wpAny_ready (rs := [9]) (by kernel_rfl) (by simp) ?_
          refine AllReady.cons rfl (fun K hK => ?_) AllReady.nil
          go_simp
          refine (stSame HS.out a1 aa _ _ T (by simp only [List.mem_cons, eq_self, true_or, or_true]) (by simp only [List.mem_cons, eq_self, true_or, or_true]) (by have := HTL.out; omega)).mono ?_
          rintro e W ⟨rfl, hs⟩
          replace HS := Lib.hid hs
          clear hs
          refine hK _ _ ?_
          clear hK K
          go_frame
          refine wpAny_take (i := 10) (v := ?_) rfl (by kernel_rfl) (by kernel_rfl) (by kernel_rfl) (fun _ _ _ h => h) (Or.inl ⟨by rfl, ?_⟩) ?_
          rotate_left
          · intro w
            go_simp
            with_reducible rfl
          change wpAny _ _ _ _ _ _ (Act.put _ (some 108) _) _
          go_frame
          refine wpAny_take (i := 11) (v := ?_) rfl (by kernel_rfl) (by kernel_rfl) (by kernel_rfl) (fun _ _ _ h => h) (Or.inl ⟨by rfl, ?_⟩) ?_
          rotate_left
          · intro w
            go_simp
            with_reducible rfl
          change wpAny _ _ _ _ _ _ (Act.put _ (some 109) _) _
          go_frame
          refine wpAny_take (i := 12) (v := ?_) rfl (by kernel_rfl) (by kernel_rfl) (by kernel_rfl) (fun _ _ _ h => h) (Or.inl ⟨by rfl, ?_⟩) ?_
          rotate_left
          · intro w
            go_simp
            with_reducible rfl
          change wpAny _ _ _ _ _ _ (Act.put _ (some 110) _) _
          go_frame
          refine wpAny_take (i := 14) (v := ?_) rfl (by kernel_rfl) (by kernel_rfl) (by kernel_rfl) (fun _ _ _ h => h) (Or.inl ⟨by rfl, ?_⟩) ?_
          rotate_left
          · intro w
            go_simp
            with_reducible rfl
          change wpAny _ _ _ _ _ _ (Act.put _ (some 112) _) _
          go_frame
          refine wpAny_ready (rs := [13]) (by kernel_rfl) (by simp) ?_
          refine AllReady.cons rfl (fun K hK => ?_) AllReady.nil
          go_simp
          refine (stFirstI HS.out fu Du U U (by simp only [List.mem_cons, eq_self, true_or, or_true]) 1000 (List.take_of_length_le (by have := HU.out; omega)) (by have := HU.out; omega) (by have := HMM.out; omega)).mono ?_
          rintro e W ⟨a2, ca2, rfl, hs⟩
          replace HS := Lib.hid hs
          clear hs
          refine hK _ _ ?_
          clear hK K
          go_frame
          refine wpAny_ready (rs := [15]) (by kernel_rfl) (by simp) ?_
          refine AllReady.cons rfl (fun K hK => ?_) AllReady.nil
          go_simp
          refine (stSame HS.out a2 aa _ _ U (by simp only [List.mem_cons, eq_self, true_or, or_true]) (by simp only [List.mem_cons, eq_self, true_or, or_true]) (by have := HU.out; omega)).mono ?_
          rintro e W ⟨rfl, hs⟩
          replace HS := Lib.hid hs
          clear hs
          refine hK _ _ ?_
          clear hK K
          go_frame
          refine wpAny_take (i := 16) (v := ?_) rfl (by kernel_rfl) (by kernel_rfl) (by kernel_rfl) (fun _ _ _ h => h) (Or.inl ⟨by rfl, ?_⟩) ?_
          rotate_left
          · intro w
            go_simp
            with_reducible rfl
          change wpAny _ _ _ _ _ _ (Act.put _ (some 114) _) _
          go_frame
          refine wpAny_take (i := 17) (v := ?_) rfl (by kernel_rfl) (by kernel_rfl) (by kernel_rfl) (fun _ _ _ h => h) (Or.inl ⟨by rfl, ?_⟩) ?_
          rotate_left
          · intro w
            go_simp
            with_reducible rfl
          change wpAny _ _ _ _ _ _ (Act.put _ (some 115) _) _
          go_frame
          refine wpAny_take (i := 18) (v := ?_) rfl (by kernel_rfl) (by kernel_rfl) (by kernel_rfl) (fun _ _ _ h => h) (Or.inl ⟨by rfl, ?_⟩) ?_
          rotate_left
          · intro w
            go_simp
            with_reducible rfl
          change wpAny _ _ _ _ _ _ (Act.put _ (some 116) _) _
          go_frame
          refine wpAny_take (i := 19) (v := ?_) rfl (by kernel_rfl) (by kernel_rfl) (by kernel_rfl) (fun _ _ _ h => h) (Or.inl ⟨by rfl, ?_⟩) ?_
          rotate_left
          · intro w
            go_simp
            with_reducible rfl
          change wpAny _ _ _ _ _ _ (Act.put _ (some 117) _) _
          go_frame
          refine wpAny_take (i := 21) (v := ?_) rfl (by kernel_rfl) (by kernel_rfl) (by kernel_rfl) (fun _ _ _ h => h) (Or.inl ⟨by rfl, ?_⟩) ?_
          rotate_left
          · intro w
            go_simp
            with_reducible rfl
          change wpAny _ _ _ _ _ _ (Act.put _ (some 119) _) _
          go_frame
          refine wpAny_ready (rs := [20]) (by kernel_rfl) (by simp) ?_
          refine AllReady.cons rfl (fun K hK => ?_) AllReady.nil
          go_simp
          refine (stFirstI HS.out fv Dv V V (by simp only [List.mem_cons, eq_self, true_or, or_true]) 1000 (List.take_of_length_le (by have := HV.out; omega)) (by have := HV.out; omega) (by have := HMM.out; omega)).mono ?_
          rintro e W ⟨a3, ca3, rfl, hs⟩
          replace HS := Lib.hid hs
          clear hs
          refine hK _ _ ?_
          clear hK K
          go_frame
          refine wpAny_ready (rs := [22]) (by kernel_rfl) (by simp) ?_
          refine AllReady.cons rfl (fun K hK => ?_) AllReady.nil
          go_simp
          refine (stSame HS.out a3 ab _ _ V (by simp only [List.mem_cons, eq_self, true_or, or_true]) (by simp only [List.mem_cons, eq_self, true_or, or_true]) (by have := HV.out; omega)).mono ?_
          rintro e W ⟨rfl, hs⟩
          replace HS := Lib.hid hs
          clear hs
          refine hK _ _ ?_
          clear hK K
          go_frame
          refine wpAny_take (i := 23) (v := ?_) rfl (by kernel_rfl) (by kernel_rfl) (by kernel_rfl) (fun _ _ _ h => h) (Or.inl ⟨by rfl, ?_⟩) ?_
          rotate_left
          · intro w
            go_simp
            with_reducible rfl
          change wpAny _ _ _ _ _ _ (Act.put _ (some 121) _) _
          go_frame
          refine wpAny_take (i := 24) (v := ?_) rfl (by kernel_rfl) (by kernel_rfl) (by kernel_rfl) (fun _ _ _ h => h) (Or.inl ⟨by rfl, ?_⟩) ?_
          rotate_left
          · intro w
            go_simp
            with_reducible rfl
          change wpAny _ _ _ _ _ _ (Act.put _ (some 122) _) _
          go_frame
          refine wpAny_take (i := 25) (v := ?_) rfl (by kernel_rfl) (by kernel_rfl) (by kernel_rfl) (fun _ _ _ h => h) (Or.inl ⟨by rfl, ?_⟩) ?_
          rotate_left
          · intro w
            go_simp
            with_reducible rfl
          change wpAny _ _ _ _ _ _ (Act.put _ (some 123) _) _
          go_frame
          refine wpAny_take (i := 26) (v := ?_) rfl (by kernel_rfl) (by kernel_rfl) (by kernel_rfl) (fun _ _ _ h => h) (Or.inl ⟨by rfl, ?_⟩) ?_
          rotate_left
          · intro w
            go_simp
            with_reducible rfl
          change wpAny _ _ _ _ _ _ (Act.put _ (some 124) _) _
          go_frame
          refine wpAny_take (i := 28) (v := ?_) rfl (by kernel_rfl) (by kernel_rfl) (by kernel_rfl) (fun _ _ _ h => h) (Or.inl ⟨by rfl, ?_⟩) ?_
          rotate_left
          · intro w
            go_simp
            with_reducible rfl
          change wpAny _ _ _ _ _ _ (Act.put _ (some 126) _) _
          go_frame
          refine wpAny_ready (rs := [27]) (by kernel_rfl) (by simp) ?_
          refine AllReady.cons rfl (fun K hK => ?_) AllReady.nil
          go_simp
          refine (stFirstI HS.out fw Dw Z Z (by simp only [List.mem_cons, eq_self, true_or, or_true]) 1000 (List.take_of_length_le (by have := HZ.out; omega)) (by have := HZ.out; omega) (by have := HMM.out; omega)).mono ?_
          rintro e W ⟨a4, ca4, rfl, hs⟩
          replace HS := Lib.hid hs
          clear hs
          refine hK _ _ ?_
          clear hK K
          go_frame
          refine wpAny_ready (rs := [29]) (by kernel_rfl) (by simp) ?_
          refine AllReady.cons rfl (fun K hK => ?_) AllReady.nil
          go_simp
          refine (stSame HS.out a4 ao _ _ Z (by simp only [List.mem_cons, eq_self, true_or, or_true]) (by simp only [List.mem_cons, eq_self, true_or, or_true]) (by have := HZ.out; omega)).mono ?_
          rintro e W ⟨rfl, hs⟩
          replace HS := Lib.hid hs
          clear hs
          refine hK _ _ ?_
          clear hK K
          go_frame
          refine wpAny_take (i := 30) (v := ?_) rfl (by kernel_rfl) (by kernel_rfl) (by kernel_rfl) (fun _ _ _ h => h) (Or.inl ⟨by rfl, ?_⟩) ?_
          rotate_left
          · intro w
            go_simp
            with_reducible rfl
          change wpAny _ _ _ _ _ _ (Act.put _ (some 128) _) _
          go_frame
          refine wpAny_take (i := 31) (v := ?_) rfl (by kernel_rfl) (by kernel_rfl) (by kernel_rfl) (fun _ _ _ h => h) (Or.inl ⟨by rfl, ?_⟩) ?_
          rotate_left
          · intro w
            go_simp
            with_reducible rfl
          change wpAny _ _ _ _ _ _ (Act.put _ (some 129) _) _
          go_frame
          refine wpAny_take (i := 32) (v := ?_) rfl (by kernel_rfl) (by kernel_rfl) (by kernel_rfl) (fun _ _ _ h => h) (Or.inl ⟨by rfl, ?_⟩) ?_
          rotate_left
          · intro w
            go_simp
            with_reducible rfl
          change wpAny _ _ _ _ _ _ (Act.put _ (some 130) _) _
          go_frame
          refine wpAny_take (i := 33) (v := ?_) rfl (by kernel_rfl) (by kernel_rfl) (by kernel_rfl) (fun _ _ _ h => h) (Or.inl ⟨by rfl, ?_⟩) ?_
          rotate_left
          · intro w
            go_simp
            with_reducible rfl
          change wpAny _ _ _ _ _ _ (Act.put _ (some 131) _) _
          go_frame
          refine wpAny_take (i := 34) (v := ?_) rfl (by kernel_rfl) (by kernel_rfl) (by kernel_rfl) (fun _ _ _ h => h) (Or.inl ⟨by rfl, ?_⟩) ?_
          rotate_left
          · intro w
            go_simp
            with_reducible rfl
          change wpAny _ _ _ _ _ _ (Act.put _ (some 132) _) _
          go_frame
          refine wpAny_take (i := 36) (v := ?_) rfl (by kernel_rfl) (by kernel_rfl) (by kernel_rfl) (fun _ _ _ h => h) (Or.inl ⟨by rfl, ?_⟩) ?_
          rotate_left
          · intro w
            go_simp
            with_reducible rfl
          change wpAny _ _ _ _ _ _ (Act.put _ (some 134) _) _
          go_frame
          refine wpAny_take (i := 37) (v := ?_) rfl (by kernel_rfl) (by kernel_rfl) (by kernel_rfl) (fun _ _ _ h => h) (Or.inl ⟨by rfl, ?_⟩) ?_
          rotate_left
          · intro w
            go_simp
            with_reducible rfl
          change wpAny _ _ _ _ _ _ (Act.put _ (some 135) _) _
          go_frame
          refine wpAny_take (i := 38) (v := ?_) rfl (by kernel_rfl) (by kernel_rfl) (by kernel_rfl) (fun _ _ _ h => h) (Or.inl ⟨by rfl, ?_⟩) ?_
          rotate_left
          · intro w
            go_simp
            with_reducible rfl
          change wpAny _ _ _ _ _ _ (Act.put _ (some 136) _) _
          go_frame
          refine wpAny_take (i := 39) (v := ?_) rfl (by kernel_rfl) (by kernel_rfl) (by kernel_rfl) (fun _ _ _ h => h) (Or.inl ⟨by rfl, ?_⟩) ?_
          rotate_left
          · intro w
            go_simp
            with_reducible rfl
          change wpAny _ _ _ _ _ _ (Act.put _ (some 137) _) _
          go_frame
          refine wpAny_take (i := 40) (v := ?_) rfl (by kernel_rfl) (by kernel_rfl) (by kernel_rfl) (fun _ _ _ h => h) (Or.inl ⟨by rfl, ?_⟩) ?_
          rotate_left
          · intro w
            go_simp
            with_reducible rfl
          change wpAny _ _ _ _ _ _ (Act.put _ (some 138) _) _
          go_frame
          refine wpAny_take (i := 41) (v := ?_) rfl (by kernel_rfl) (by kernel_rfl) (by kernel_rfl) (fun _ _ _ h => h) (Or.inl ⟨by rfl, ?_⟩) ?_
          rotate_left
          · intro w
            go_simp
            with_reducible rfl
          change wpAny _ _ _ _ _ _ (Act.put _ (some 139) _) _
          go_frame
          refine wpAny_ready (rs := [35]) (by kernel_rfl) (by simp) ?_
          refine AllReady.cons rfl (fun K hK => ?_) AllReady.nil
          go_simp
          refine (stFirstI HS.out fw Dw Z S (by simp only [List.mem_cons, eq_self, true_or, or_true]) mm HSE.out (by have := HZ.out; omega) (by have := HMM.out; omega)).mono ?_
          rintro e W ⟨a5, ca5, rfl, hs⟩
          replace HS := Lib.hid hs
          clear hs
          refine hK _ _ ?_
          clear hK K
          go_frame
          refine wpAny_ready (rs := [42]) (by kernel_rfl) (by simp) ?_
          refine AllReady.cons rfl (fun K hK => ?_) AllReady.nil
          go_simp
          refine (stSame HS.out a5 ao _ _ S (by simp only [List.mem_cons, eq_self, true_or, or_true]) (by simp only [List.mem_cons, eq_self, true_or, or_true]) (by have := HSL.out; omega)).mono ?_
          rintro e W ⟨rfl, hs⟩
          replace HS := Lib.hid hs
          clear hs
          refine hK _ _ ?_
          clear hK K
          go_frame
          refine wpAny_take (i := 43) (v := ?_) rfl (by kernel_rfl) (by kernel_rfl) (by kernel_rfl) (fun _ _ _ h => h) (Or.inl ⟨by rfl, ?_⟩) ?_
          rotate_left
          · intro w
            go_simp
            with_reducible rfl
          change wpAny _ _ _ _ _ _ (Act.put _ (some 141) _) _
          go_frame
          refine wpAny_take (i := 44) (v := ?_) rfl (by kernel_rfl) (by kernel_rfl) (by kernel_rfl) (fun _ _ _ h => h) (Or.inl ⟨by rfl, ?_⟩) ?_
          rotate_left
          · intro w
            go_simp
            with_reducible rfl
          change wpAny _ _ _ _ _ _ (Act.put _ (some 142) _) _
          go_frame
          refine wpAny_done (by kernel_rfl) ?_ _
          have HBN := Lib.hid HS.out.bel
          refine noPanic_normal ?_
          clear HS hcu hcz
          go_wp2
          go_roundw
          case rel => exact ⟨i + 1, by omega, by go_num, HBN.out⟩
          case measure => simp [intOf]; omega
        · have ti : ¬ (i : Int) < 2 := by omega
          have hcr := HCR.out
          go_wp2
          refine wp_noPanic ?_
          refine wp_region_any (by kernel_rfl) ?_
          change wpAny _ _ _ _ _ #[false, false, false, false, false, false, false, false, false, false, false] _ (World.drew _)
          refine wpAny_take (i := 0) (v := ?_) rfl (by kernel_rfl) (by kernel_rfl) (by kernel_rfl) (fun _ _ _ h => h) (Or.inl ⟨by rfl, ?_⟩) ?_
          rotate_left
          · intro w
            go_simp
            with_reducible rfl
          change wpAny _ _ _ _ _ _ (Act.put _ (some 148) _) _
          go_frame
          refine wpAny_take (i := 1) (v := ?_) rfl (by kernel_rfl) (by kernel_rfl) (by kernel_rfl) (fun _ _ _ h => h) (Or.inl ⟨by rfl, ?_⟩) ?_
          rotate_left
          · intro w
            go_simp
            with_reducible rfl
          change wpAny _ _ _ _ _ _ (Act.put _ (some 149) _) _
          go_frame
          refine wpAny_take (i := 3) (v := ?_) rfl (by kernel_rfl) (by kernel_rfl) (by kernel_rfl) (fun _ _ _ h => h) (Or.inl ⟨by rfl, ?_⟩) ?_
          rotate_left
          · intro w
            go_simp
            with_reducible rfl
          change wpAny _ _ _ _ _ _ (Act.put _ (some 151) _) _
          go_frame
          refine wpAny_take (i := 4) (v := ?_) rfl (by kernel_rfl) (by kernel_rfl) (by kernel_rfl) (fun _ _ _ h => h) (Or.inl ⟨by rfl, ?_⟩) ?_
          rotate_left
          · intro w
            go_simp
            with_reducible rfl
          change wpAny _ _ _ _ _ _ (Act.put _ (some 152) _) _
          go_frame
          refine wpAny_take (i := 5) (v := ?_) rfl (by kernel_rfl) (by kernel_rfl) (by kernel_rfl) (fun _ _ _ h => h) (Or.inl ⟨by rfl, ?_⟩) ?_
          rotate_left
          · intro w
            go_simp
            with_reducible rfl
          change wpAny _ _ _ _ _ _ (Act.put _ (some 153) _) _
          go_frame
          refine wpAny_ready (rs := [2]) (by kernel_rfl) (by simp) ?_
          refine AllReady.cons rfl (fun K hK => ?_) AllReady.nil
          go_simp
          refine (stList HS.out fu Du U R (by simp only [List.mem_cons, eq_self, true_or, or_true]) most HRE.out (by have := HU.out; omega)).mono ?_
          rintro e W ⟨a1, c1, rfl, hs⟩
          replace HS := Lib.hid hs
          clear hs
          refine hK _ _ ?_
          clear hK K
          go_frame
          refine wpAny_ready (rs := [6]) (by kernel_rfl) (by simp) ?_
          refine AllReady.cons rfl (fun K hK => ?_) AllReady.nil
          go_simp
          refine (stSame HS.out a1 aa _ _ R (by simp only [List.mem_cons, eq_self, true_or, or_true]) (by simp only [List.mem_cons, eq_self, true_or, or_true]) (by have := HRL.out; omega)).mono ?_
          rintro e W ⟨rfl, hs⟩
          replace HS := Lib.hid hs
          clear hs
          refine hK _ _ ?_
          clear hK K
          go_frame
          refine wpAny_take (i := 7) (v := ?_) rfl (by kernel_rfl) (by kernel_rfl) (by kernel_rfl) (fun _ _ _ h => h) (Or.inl ⟨by rfl, ?_⟩) ?_
          rotate_left
          · intro w
            go_simp
            with_reducible rfl
          change wpAny _ _ _ _ _ _ (Act.put _ (some 155) _) _
          go_frame
          refine wpAny_ready (rs := [8]) (by kernel_rfl) (by simp) ?_
          refine AllReady.cons rfl (fun K hK => ?_) AllReady.nil
          go_simp
          refine (stAwake HS.out).mono ?_
          rintro e W ⟨rfl, hs⟩
          replace HS := Lib.hid hs
          clear hs
          refine hK _ _ ?_
          clear hK K
          go_frame
          refine wpAny_take (i := 9) (v := ?_) rfl (by kernel_rfl) (by kernel_rfl) (by kernel_rfl) (fun _ _ _ h => h) (Or.inl ⟨by rfl, ?_⟩) ?_
          rotate_left
          · intro w
            go_simp
            with_reducible rfl
          change wpAny _ _ _ _ _ _ (Act.put _ (some 157) _) _
          go_frame
          refine wpAny_take (i := 10) (v := ?_) rfl (by kernel_rfl) (by kernel_rfl) (by kernel_rfl) (fun _ _ _ h => h) (Or.inl ⟨by rfl, ?_⟩) ?_
          rotate_left
          · intro w
            go_simp
            with_reducible rfl
          change wpAny _ _ _ _ _ _ (Act.put _ (some 6) _) _
          go_frame
          refine wpAny_done (by kernel_rfl) ?_ _
          have HS9 := Lib.hid HS.out.bel
          refine noPanic_normal ?_
          clear HS hcr
          go_wp2
          go_ret
          exact ⟨rfl, below_next HBT.out (below_next HB69.out HS9.out HB69.out.size) HBT.out.size⟩
end Go.Proofs.Ytoifmfdaghmleaa
