/-
  The contracts of package wave that make memory: New, and what it calls of package slices.
-/
import Derived.Test.YtjpoebmjfedecaaBitsNew
import Derived.Test.YtjpoebmjfedecaaWaveWalk
import Derived.Test.YtjpoebmjfedecaaPlainFmTells
namespace Go.Proofs.Ytjpoebmjfedecaa.Wv
open Go.RowKit

theorem info_u16 : (Try.prog.info? 110).map (fun i => (i.zero, i.size, i.bytes)) = some (some (.int .u16 0), 1, 2) := by kernel_rfl

set_option maxRecDepth 100000 in
set_option maxHeartbeats 400000 in
theorem indexFunc_no (w : World) (a : Option Addr) (n cap : Nat) (f : Nat → Nat) (hn : n ≤ 1000000) (hr : Row w a n (fun k => .int .u16 ((f k : Nat) : Int))) (hf : ∀ k, k < n → f k ≤ 256) :
    Calls Try.prog 94 #[.slice a n cap, .func (.func 96) #[] #[]] w fun e w' => e = .returned (.int .i64 (-1)) ∧ w' = w := by
  have hix := run_ix (P := Try.prog) 70 (by kernel_rfl) size_u16 a n cap hr.at_ .i64
  have HR := Lib.hid hr
  have HF := Lib.hid hf
  clear hr hf
  go_enter Try.func94, Try.ntmps94
  go_wp2
  go_loop [8] (fun i => ∃ k : Nat, k ≤ n ∧ i = .int .i64 k) (fun i => n - (intOf i).toNat)
  case atStart => exact ⟨0, Nat.zero_le _, rfl⟩
  case round =>
    obtain ⟨k, hk, rfl⟩ := hrel
    by_cases hlt : k < n
    · have d := HR.out.cell k hlt
      have hb := HF.out k hlt
      generalize f k = x at *
      have hx : ¬ ((256 : Int) < (x : Int)) := by omega
      go_wp2
      go_round
      case rel => exact ⟨k + 1, by omega, by go_num⟩
      case measure => simp [intOf]; omega
    · go_wp2
      go_ret
      exact ⟨rfl, rfl⟩

theorem containsFunc_no (w : World) (a : Option Addr) (n cap : Nat) (f : Nat → Nat) (hn : n ≤ 1000000) (hr : Row w a n (fun k => .int .u16 ((f k : Nat) : Int))) (hf : ∀ k, k < n → f k ≤ 256) :
    Calls Try.prog 77 #[.slice a n cap, .func (.func 96) #[] #[]] w fun e w' => e = .returned (.bool false) ∧ w' = w := by
  have HI := Lib.hid (indexFunc_no w a n cap f hn hr hf)
  clear hr hf
  go_enter Try.func77, Try.ntmps77
  go_wp2_with (go_at_call 94; refine HI.out.mono ?_; rintro e w' ⟨rfl, rfl⟩)
  go_ret
  exact ⟨rfl, rfl⟩

set_option maxRecDepth 100000 in
set_option maxHeartbeats 400000 in
theorem clone_any (w : World) (a : Option Addr) (n cap : Nat) (f : Nat → Nat) (hn : n ≤ 1000000) (hr : Row w a n (fun k => .int .u16 ((f k : Nat) : Int))) :
    Calls Try.prog 76 #[.slice a n cap] w fun e w' => ∃ a' cap', e = .returned (.slice a' n cap') ∧ Row w' a' n (fun k => .int .u16 ((f k : Nat) : Int)) ∧ Below w.heap.size w w' ∧ (n = 0 ∨ w.heap.size ≤ bOf a') := by
  have hnil := fun W => Lib.run_eql_slice_nil (P := Try.prog) W 70 110 a n cap 0 0 Try.underlying70
  obtain ⟨i0, hi, hz0, hz1, hz2⟩ := info_parts info_u16
  cases a with
  | none =>
    have hn0 : n = 0 := by rcases hr.at_ with h | h; · exact h
                           · cases h
    subst hn0
    have e1 : Option.isNone (none : Option Addr) = true := rfl
    clear hr
    go_enter Try.func76, Try.ntmps76
    go_wp2
    go_ret
    exact ⟨none, 0, rfl, Row.nil _ _ _, Below.refl _ _, by simp⟩
  | some ad =>
    have hx0 := owns_empty w w.heap.size 110 (Nat.le_refl _)
    have hb0 : Below w.heap.size w (w.alloc (.cells #[] 110)) := (Below.refl _ w).alloc (Nat.le_refl _) _
    obtain ⟨v3, w3, hrun3, hown3, hg3, _⟩ := run_append_row (P := Try.prog) (w.alloc (.cells #[] 110)) w.heap.size 70 70 110 i0 _ 2 Try.underlying70 hi hz0 hz1 hz2 rfl _ 0 [] hx0 (some ad) n cap _ (hr.kept hb0) (fun _ _ => rfl) (by simp only [maxLen]; omega) (by omega) (by simp)
    have hB3 : Below w.heap.size w w3 := hb0.grown hg3 (by simp) (fun k hk => by simp [Value.ownBlock] at hk; omega)
    rw [Nat.zero_add, List.nil_append] at hown3
    obtain ⟨a3, cap3, rfl, hc3, hr3, hlow3, _⟩ := Row.of_owns hown3
    have hr3' : Row w3 a3 n (fun k => .int .u16 ((f k : Nat) : Int)) := hr3.congr fun k hk => by simp [List.getD_eq_getElem?_getD, hk]
    have R3 := Lib.hid hrun3
    have HR3 := Lib.hid hr3'
    have HB3 := Lib.hid hB3
    clear hr hx0 hb0 hrun3 hown3 hg3 hB3 hr3 hr3'
    go_enter Try.func76, Try.ntmps76
    go_wp2_with ((with_reducible refine wpList_append_run rfl _ _ _ rfl R3.out rfl rfl ?_); clear R3)
    go_ret
    exact ⟨a3, cap3, rfl, HR3.out, HB3.out, hlow3⟩

theorem make_bools (N : Nat) (h : N ≤ 1000000) : ∀ W : World, (Instr.makeSlice 32 (.int .i64 (N : Int)) (.int .i64 (N : Int))).run Try.prog W = .ok (.slice (some ⟨W.heap.size, 0, none⟩) N N) (W.alloc (.cells (madeCells #[.bool false] N) 4)) := by
  intro W
  obtain ⟨i0, hi, hz0, hz1, hz2⟩ := info_parts info_bool
  have := run_make (P := Try.prog) W 32 4 i0 _ Try.underlying32 hi hz0 .i64 .i64 N N (by omega) (by omega) (by rw [hz2]; omega) (by omega)
  rw [hz1] at this
  simpa [Value.cells] using this

/-- the cells of a Matrix behind k levels -/
def matCells (al : Option Addr) (n cap : Nat) (bv : Nat → Nat) (l : List Nat) (k : Nat) : Nat → Value := fun j =>
  if j = 0 then .slice al n cap else if j < 10 then (if j - 1 < k then .pointer (some ⟨bv (j - 1), 0, none⟩) else .pointer none) else (if j - 10 < k then .int .i64 (zk l (j - 10)) else .int .i64 0)

theorem u16_parts (R : List Nat) (i : Nat) (hi : i < R.length) (b : Nat → Bool) :
    (b (R.getD i 0) = true → (R.take (i + 1)).filter b = (R.take i).filter b ++ [R.getD i 0]) ∧ (b (R.getD i 0) = false → (R.take (i + 1)).filter b = (R.take i).filter b) := by
  have e : R.take (i + 1) = R.take i ++ [R.getD i 0] := by
    rw [List.take_add_one, List.getD_eq_getElem?_getD, List.getElem?_eq_getElem hi]; rfl
  rw [e, List.filter_append]
  generalize R.getD i 0 = y
  constructor
  · intro h; simp [h]
  · intro h; simp [h]
theorem pk_cut (l : List Nat) (k : Nat) : cut l.length (fun j => bitk ((rows l k).getD j 0) k) = pk l k := by
  funext j; unfold cut pk; rfl

/-- what New leaves: symbols in new memory -/
def WNewPost (w : World) (l : List Nat) (e : Ending) (w' : World) : Prop :=
  ∃ bm al cap' bv bw ba, e = .returned (.tuple #[.pointer (some ⟨bm, 0, none⟩), .int .i64 0]) ∧ MatAt w' bm al cap' bv bw ba l ∧ Below w.heap.size w w'

set_option maxRecDepth 100000 in
set_option maxHeartbeats 1000000 in
theorem wnew_any (w : World) (a : Option Addr) (cap : Nat) (l : List Nat) (hn : l.length ≤ 100000) (hr : Row w a l.length (fun k => .int .u16 ((l.getD k 0 : Nat) : Int))) (hl : ∀ x ∈ l, x ≤ 256) :
    Calls Try.prog 82 #[.slice a l.length cap] w (WNewPost w l) := by
  have HC := Lib.hid (containsFunc_no w a l.length cap (fun k => l.getD k 0) (by omega) hr (fun k _ => getD_le l 256 hl k))
  have HK := fun W hW => Lib.hid (clone_any W a l.length cap (fun k => l.getD k 0) (by omega) hW)
  have HR := Lib.hid hr
  have HL := Lib.hid hl
  have h1 : ¬ ((100000 : Int) < (l.length : Int)) := by omega
  clear hr hl
  go_enter Try.func82, Try.ntmps82
  go_wp2_with fail
  refine HC.out.mono ?_
  rintro e w' ⟨rfl, he⟩
  obtain rfl : w = w' := he.symm
  go_wp2_with fail
  refine (HK _ HR.out).out.mono ?_
  rintro e w1 ⟨al, capl, rfl, hr1, hb1, _⟩
  have HR1 := Lib.hid hr1
  have HB1 := Lib.hid hb1
  clear hr1 hb1
  go_wp2_with fail
  have hb1a : Below w1.heap.size w1 (w1.alloc (.cells #[.slice al l.length capl, .pointer none, .pointer none, .pointer none, .pointer none, .pointer none, .pointer none, .pointer none, .pointer none, .pointer none, .int .i64 0, .int .i64 0, .int .i64 0, .int .i64 0, .int .i64 0, .int .i64 0, .int .i64 0, .int .i64 0, .int .i64 0] 119)) := (Below.refl _ _).alloc (Nat.le_refl _) _
  refine (HK _ (HR.out.kept (below_next HB1.out hb1a HB1.out.size))).out.mono ?_
  rintro e w2 ⟨a2, cap2, rfl, hr2, hb2, hlow2⟩
  have hm0 : w2.rowIs w1.heap.size 119 19 (matCells al l.length capl (fun _ => 0) l 0) := by
    have h := World.rowIs_alloc w1 #[.slice al l.length capl, .pointer none, .pointer none, .pointer none, .pointer none, .pointer none, .pointer none, .pointer none, .pointer none, .pointer none, .int .i64 0, .int .i64 0, .int .i64 0, .int .i64 0, .int .i64 0, .int .i64 0, .int .i64 0, .int .i64 0, .int .i64 0] 119 (matCells al l.length capl (fun _ => 0) l 0) (by
      intro i hi
      simp at hi
      match i with
      | 0 | 1 | 2 | 3 | 4 | 5 | 6 | 7 | 8 | 9 | 10 | 11 | 12 | 13 | 14 | 15 | 16 | 17 | 18 => rfl
      | n + 19 => exact absurd hi (by omega))
    exact row_below h hb2 (by simp)
  have hrl2 := (HR1.out.kept hb1a).kept hb2
  have hs2 : w1.heap.size < w2.heap.size := hm0.lt
  have hbw : Below w.heap.size w w2 := below_next (below_next HB1.out hb1a HB1.out.size) hb2 (by have := HB1.out.size; simp; omega)
  have hs1 := HB1.out.size
  have HR2 := Lib.hid hr2
  have HM0 := Lib.hid hm0
  have HRL2 := Lib.hid hrl2
  have HBW := Lib.hid hbw
  clear hr2 hb2 hm0 hrl2 hbw
  have hal : 0 < l.length → bOf al < w1.heap.size := HR1.out.lt
  have har : l.length = 0 ∨ w1.heap.size < bOf a2 := by
    rcases hlow2 with h | h
    · exact .inl h
    · simp at h; exact .inr (by omega)
  clear hlow2 HB1 HR1 HK HC hb1a HR
  generalize w1.heap.size = bm at *
  obtain ⟨i0, hi, hz0, hz1, hz2⟩ := info_parts info_u16
  have hmk := make_bools l.length (by omega)
  go_wp2_with fail
  go_loopw [5, 25] (fun row kk wr => ∃ (k : Nat) (ar : Option Addr) (capr : Nat) (bv bw ba : Nat → Nat), k ≤ 9 ∧ kk = .int .i64 k ∧ row = .slice ar l.length capr ∧ Row wr ar l.length (fun j => .int .u16 (((rows l k).getD j 0 : Nat) : Int)) ∧
      wr.rowIs bm 119 19 (matCells al l.length capl bv l k) ∧ (∀ j, j < k → VecAt wr (bv j) (bw j) (ba j) l.length (pk l j) ∧ bm ≠ bv j ∧ bm ≠ bw j ∧ bm ≠ ba j) ∧ Row wr al l.length (fun j => .int .u16 ((l.getD j 0 : Nat) : Int)) ∧ (l.length = 0 ∨ bm < bOf ar) ∧ Below w.heap.size w wr) (fun _ kk _ => 9 - (intOf kk).toNat)
  case atStart => exact ⟨0, a2, cap2, fun _ => 0, fun _ => 0, fun _ => 0, by omega, rfl, rfl, by rw [rows_zero]; exact HR2.out, HM0.out, fun j hj => by omega, HRL2.out, har, HBW.out⟩
  case round =>
    obtain ⟨k, ar, capr, bv, bw, ba, hk, rfl, rfl, hrow, hmat, hvec, hrl, har2, hbw⟩ := hrel
    obtain ⟨wo, rfl⟩ : ∃ wo : World, wo = wr := ⟨_, rfl⟩
    have hix := run_ix (P := Try.prog) 70 (by kernel_rfl) size_u16 ar l.length capr hrow.at_ .i64
    have hsz := hmat.lt
    have HROW := Lib.hid hrow
    have HMAT := Lib.hid hmat
    have HVEC := Lib.hid hvec
    have HRL := Lib.hid hrl
    have HBWo := Lib.hid hbw
    have hlenR := rows_length l k
    have hRb := getD_le (rows l k) 256 (rows_mem l k 256 HL.out)
    have HLR := Lib.hid hlenR
    have HRB := Lib.hid hRb
    clear hrow hmat hvec hrl hbw hlenR hRb
    by_cases hlt : (k : Int) < 9
    · have hset0 := World.rowIs_made wo (.bool false) l.length 4
      have hbs : Below wo.heap.size wo (wo.alloc (.cells (madeCells #[.bool false] l.length) 4)) := (Below.refl _ _).alloc (Nat.le_refl _) _
      have hsz1 : (wo.alloc (.cells (madeCells #[.bool false] l.length) 4)).heap.size = wo.heap.size + 1 := by simp
      go_wp2_with fail
      have HSET0 := Lib.hid hset0
      have HBS := Lib.hid hbs
      have HSZ1 := Lib.hid hsz1
      clear hset0 hbs hsz1
      go_loopw [8, 9, 33] (fun low high idx wi => ∃ i : Nat, i ≤ l.length ∧ idx = .int .i64 i ∧
          wi.ownsRow (wo.heap.size + 1) 110 1 low (((rows l k).take i).filter (fun c => !bitk c k)).length ((((rows l k).take i).filter (fun c => !bitk c k)).map fun c : Nat => Value.int .u16 (c : Int)) ∧
          wi.ownsRow (wo.heap.size + 1) 110 1 high (((rows l k).take i).filter (fun c => bitk c k)).length ((((rows l k).take i).filter (fun c => bitk c k)).map fun c : Nat => Value.int .u16 (c : Int)) ∧
          Apart low high ∧ wi.rowIs wo.heap.size 4 l.length (fun j => if j < i then .bool (bitk ((rows l k).getD j 0) k) else .bool false) ∧ Below wo.heap.size wo wi ∧ wo.heap.size + 1 ≤ wi.heap.size) (fun _ _ idx _ => l.length - (intOf idx).toNat)
      case atStart => exact ⟨0, Nat.zero_le _, rfl, World.ownsRow_nil _ _ _ _, World.ownsRow_nil _ _ _ _, .inl rfl, HSET0.out.congr fun j _ => by simp, HBS.out, by rw [HSZ1.out]; omega⟩
      case round =>
        rename_i lowv highv
        obtain ⟨i, hi2, rfl, hlow, hhigh, hap, hset, hbi, hsi⟩ := hrel
        by_cases hlt2 : i < l.length
        · have d0 : wr.cell? ⟨bOf ar, oOf ar + i, none⟩ = some (.int .u16 (((rows l k).getD i 0 : Nat) : Int)) := (HROW.out.kept hbi).cell i hlt2
          have hparts1 := u16_parts (rows l k) i (by rw [HLR.out]; exact hlt2) (fun c => bitk c k)
          have hparts0 := u16_parts (rows l k) i (by rw [HLR.out]; exact hlt2) (fun c => !bitk c k)
          have hnb := HRB.out i
          have d1 := hset.cell (i := i) hlt2
          have d2 := hset.frozen i
          rw [if_neg (by omega)] at d1
          have hset2 := hset.set i (.bool (bitk ((rows l k).getD i 0) k))
          have hset3 : (wr.setCell ⟨wo.heap.size, i, none⟩ (.bool (bitk ((rows l k).getD i 0) k))).rowIs wo.heap.size 4 l.length (fun j => if j < i + 1 then .bool (bitk ((rows l k).getD j 0) k) else .bool false) := hset2.congr fun j hj => by
            by_cases e1 : j = i
            · subst e1; simp
            · by_cases e2 : j < i
              · simp [e1, e2, show j < i + 1 by omega]
              · simp [e1, e2, show ¬ j < i + 1 by omega]
          have hbi2 : Below wo.heap.size wo (wr.setCell ⟨wo.heap.size, i, none⟩ (.bool (bitk ((rows l k).getD i 0) k))) := hbi.setCell (p := ⟨wo.heap.size, i, none⟩) (Nat.le_refl _) _
          have hlow2 := ownsRow_setCell_below hlow (a := ⟨wo.heap.size, i, none⟩) (by show wo.heap.size < _; omega) (.bool (bitk ((rows l k).getD i 0) k))
          have hhigh2 := ownsRow_setCell_below hhigh (a := ⟨wo.heap.size, i, none⟩) (by show wo.heap.size < _; omega) (.bool (bitk ((rows l k).getD i 0) k))
          have hl1 : (((rows l k).take i).filter (fun c => !bitk c k)).length ≤ i := Nat.le_trans (List.length_filter_le _ _) (List.length_take_le _ _)
          have hl2 : (((rows l k).take i).filter (fun c => bitk c k)).length ≤ i := Nat.le_trans (List.length_filter_le _ _) (List.length_take_le _ _)
          have hcn := fun (x : Value) => cell_one_new (wr.setCell ⟨wo.heap.size, i, none⟩ (.bool (bitk ((rows l k).getD i 0) k))) x 110
          have hsw : (wr.setCell ⟨wo.heap.size, i, none⟩ (.bool (bitk ((rows l k).getD i 0) k))).heap.size = wr.heap.size := by simp [World.setCell]
          rw [hsw] at hcn
          generalize ((rows l k).take i).filter (fun c => !bitk c k) = L0 at *
          generalize ((rows l k).take i).filter (fun c => bitk c k) = L1 at *
          generalize hL0' : ((rows l k).take (i + 1)).filter (fun c => !bitk c k) = L0' at *
          generalize hL1' : ((rows l k).take (i + 1)).filter (fun c => bitk c k) = L1' at *
          have HL0' := Lib.hid hL0'
          have HL1' := Lib.hid hL1'
          have HSET3 := Lib.hid hset3
          clear hset hset2 hset3 hlow hhigh hbi hL0' hL1'
          generalize (rows l k).getD i 0 = x at *
          have ex : IntKind.i64.wrap (x : Int) = (x : Int) := IntWalk.i64_in _ (by omega)
          cases hb : bitk x k
          · rw [hb] at hbi2 hlow2 hhigh2 hcn HSET3 hparts0 hparts1 hsw
            have HP1 := Lib.hid (hparts1.2 rfl)
            have HP0 := Lib.hid (hparts0.1 rfl)
            have HLOW := Lib.hid hlow2
            have HHIGH := Lib.hid hhigh2
            have HBI := Lib.hid hbi2
            have HCN := Lib.hid hcn
            have HAP := Lib.hid hap
            have HSW := Lib.hid hsw
            clear hbi2 hlow2 hhigh2 hcn hparts0 hparts1 hap hsw
            go_wp2_with (first
              | (go_at_call 97; refine (bit_any _ _ _ (by omega) (by omega) (by omega)).mono ?_; rintro e w2 ⟨rfl, rfl⟩)
              | (at_builtin; refine wpList_append_own_at _ rfl _ _ 70 rfl (wo.heap.size + 1) 110 i0 (.int .u16 0) 1 2 Try.underlying70 hi hz0 hz1 hz2 rfl (by decide) _ _ _ rfl (HLOW.out.alloc _) ⟨wr.heap.size, 0, none⟩ 1 1 [.int .u16 (x : Int)] rfl rfl (HCN.out _) (by simp [Value.oneCell']) (by simp only [maxLen]; omega) (by omega) (by rw [World.size_alloc, HSW.out]; omega) ?_; intro v' w4 hown' hgrow _ hat))
            have hlt' := HLOW.out.lt
            obtain ⟨hH', hA'⟩ := owns_two HHIGH.out HAP.out.symm hgrow hat
            have HLn := Lib.hid hown'
            have HHn := Lib.hid hH'
            have HAn := Lib.hid hA'
            have hbn : Below wo.heap.size wo w4 := (HBI.out.alloc (by rw [HSW.out]; omega) _).grown hgrow (by rw [World.size_alloc, HSW.out]; omega) (fun g hg => by have := (hlt' g hg).1; omega)
            have hsn : wo.heap.size + 1 ≤ w4.heap.size := by have := hgrow.size; rw [World.size_alloc, HSW.out] at this; omega
            have hsetn : w4.rowIs wo.heap.size 4 l.length (fun j => if j < i + 1 then .bool (bitk ((rows l k).getD j 0) k) else .bool false) := row_gb (HSET3.out.alloc _) hgrow (fun h => by have := (hlt' _ h.symm).1; omega)
            have HBn := Lib.hid hbn
            have HSn := Lib.hid hsetn
            clear hown' hgrow hlt' hat hH' hA' hbn hsetn
            go_wp2
            go_roundw
            case rel => exact ⟨i + 1, by omega, by go_num, by rw [HL0'.out, HP0.out, List.length_append, List.map_append]; exact HLn.out, by rw [HL1'.out, HP1.out]; exact HHn.out, HAn.out.symm, HSn.out, HBn.out, hsn⟩
            case measure => simp [intOf]; omega
          · rw [hb] at hbi2 hlow2 hhigh2 hcn HSET3 hparts0 hparts1 hsw
            have HP1 := Lib.hid (hparts1.1 rfl)
            have HP0 := Lib.hid (hparts0.2 rfl)
            have HLOW := Lib.hid hlow2
            have HHIGH := Lib.hid hhigh2
            have HBI := Lib.hid hbi2
            have HCN := Lib.hid hcn
            have HAP := Lib.hid hap
            have HSW := Lib.hid hsw
            clear hbi2 hlow2 hhigh2 hcn hparts0 hparts1 hap hsw
            go_wp2_with (first
              | (go_at_call 97; refine (bit_any _ _ _ (by omega) (by omega) (by omega)).mono ?_; rintro e w2 ⟨rfl, rfl⟩)
              | (at_builtin; refine wpList_append_own_at _ rfl _ _ 70 rfl (wo.heap.size + 1) 110 i0 (.int .u16 0) 1 2 Try.underlying70 hi hz0 hz1 hz2 rfl (by decide) _ _ _ rfl (HHIGH.out.alloc _) ⟨wr.heap.size, 0, none⟩ 1 1 [.int .u16 (x : Int)] rfl rfl (HCN.out _) (by simp [Value.oneCell']) (by simp only [maxLen]; omega) (by omega) (by rw [World.size_alloc, HSW.out]; omega) ?_; intro v' w4 hown' hgrow _ hat))
            have hlt' := HHIGH.out.lt
            obtain ⟨hH', hA'⟩ := owns_two HLOW.out HAP.out hgrow hat
            have HLn := Lib.hid hown'
            have HHn := Lib.hid hH'
            have HAn := Lib.hid hA'
            have hbn : Below wo.heap.size wo w4 := (HBI.out.alloc (by rw [HSW.out]; omega) _).grown hgrow (by rw [World.size_alloc, HSW.out]; omega) (fun g hg => by have := (hlt' g hg).1; omega)
            have hsn : wo.heap.size + 1 ≤ w4.heap.size := by have := hgrow.size; rw [World.size_alloc, HSW.out] at this; omega
            have hsetn : w4.rowIs wo.heap.size 4 l.length (fun j => if j < i + 1 then .bool (bitk ((rows l k).getD j 0) k) else .bool false) := row_gb (HSET3.out.alloc _) hgrow (fun h => by have := (hlt' _ h.symm).1; omega)
            have HBn := Lib.hid hbn
            have HSn := Lib.hid hsetn
            clear hown' hgrow hlt' hat hH' hA' hbn hsetn
            go_wp2
            go_roundw
            case rel => exact ⟨i + 1, by omega, by go_num, by rw [HL0'.out, HP0.out]; exact HHn.out, by rw [HL1'.out, HP1.out, List.length_append, List.map_append]; exact HLn.out, HAn.out, HSn.out, HBn.out, hsn⟩
            case measure => simp [intOf]; omega
        · have hiN : i = l.length := by omega
          have hset2 : Row wr (some ⟨wo.heap.size, 0, none⟩) l.length (fun j => .bool (bitk ((rows l k).getD j 0) k)) := (Row.of_row hset (Nat.le_refl _)).congr fun j hj => by rw [if_pos (by omega)]
          have htk : (rows l k).take i = rows l k := List.take_of_length_le (by rw [HLR.out]; omega)
          rw [htk] at hlow hhigh
          have hzl : ((rows l k).filter (fun c => !bitk c k)).length = zk l k := by unfold zk; rfl
          rw [hzl] at hlow
          obtain ⟨alow, caplow, rfl, hclow, hrlow, _⟩ := Row.of_owns hlow
          obtain ⟨ahigh, caphigh, rfl, hchigh, hrhigh, hlhigh, _⟩ := Row.of_owns hhigh
          have HSR := Lib.hid hset2
          have HLO := Lib.hid hlow
          have HHI := Lib.hid hhigh
          have HBI := Lib.hid hbi
          have hmr := row_below HMAT.out hbi hsz
          have HMR := Lib.hid hmr
          have hd : decide ((i : Int) < l.length) = false := by simp; omega
          clear hset hset2 hlow hhigh hbi hmr hrlow hrhigh htk hzl
          have hcm1 : matCells al l.length capl bv l k (1 + k) = .pointer none := by
            unfold matCells
            rw [if_neg (by omega), if_pos (by omega), if_neg (by omega)]
          have hcm2 : matCells al l.length capl bv l k (10 + k) = .int .i64 0 := by
            unfold matCells
            rw [if_neg (by omega), if_neg (by omega), if_neg (by omega)]
          have HCM1 := Lib.hid hcm1
          have HCM2 := Lib.hid hcm2
          clear hcm1 hcm2
          have hL1l : ((rows l k).filter (fun c => bitk c k)).length ≤ l.length := by rw [← HLR.out]; exact List.length_filter_le _ _
          have hrows := rows_succ l k
          have hzl2 := zk_le l k
          have hsum : zk l k + ((rows l k).filter (fun c => bitk c k)).length = l.length := by
            have h := rows_length l (k + 1)
            rw [hrows, List.length_append] at h
            unfold zk
            exact h
          have HROWS := Lib.hid hrows
          have HSUM := Lib.hid hsum
          generalize hF1 : (rows l k).filter (fun c => bitk c k) = F1 at *
          have HF1 := Lib.hid hF1
          clear hF1 hrows hsum
          go_wp2_with fail
          go_region_with ((go_at_call 98; refine (new_low wr.drew (some ⟨wo.heap.size, 0, none⟩) l.length _ (fun j => bitk ((rows l k).getD j 0) k) (by omega) ⟨HSR.out.at_, HSR.out.cell⟩).mono ?_; rintro e w3 ⟨bv', bw', ba', rfl, hv3, hb3, hgv, hgw, hga⟩; have hm3 := row_below HMR.out.drew hb3 HMR.out.lt; have hc3 := hm3.cell (i := 1 + k) (by omega); rw [HCM1.out] at hc3; have hf3 := hm3.frozen (1 + k); have HM3 := Lib.hid hm3; have HV3 := Lib.hid hv3; have HB3 := Lib.hid hb3; clear hm3 hv3 hb3))
          have hc4 := HM3.out.cell (i := 10 + k) (by omega)
          rw [HCM2.out] at hc4
          have hf4 := HM3.out.frozen (10 + k)
          -- the world behind the two stores
          have hszw : wo.heap.size + 1 ≤ w3.heap.size := Nat.le_trans hsi HB3.out.size
          have hLO3 := owns_below HLO.out (show Below wr.heap.size wr w3 from ⟨HB3.out.os, HB3.out.tape, HB3.out.output, HB3.out.size, HB3.out.block⟩)
          have hHI3 := owns_below HHI.out (show Below wr.heap.size wr w3 from ⟨HB3.out.os, HB3.out.tape, HB3.out.output, HB3.out.size, HB3.out.block⟩)
          have hLO5 := ownsRow_setCell_below (ownsRow_setCell_below hLO3 (a := ⟨bm, 1 + k, none⟩) (by show bm < _; omega) (.pointer (some ⟨bv', 0, none⟩))) (a := ⟨bm, 10 + k, none⟩) (by show bm < _; omega) (.int .i64 (zk l k))
          have hHI5 := ownsRow_setCell_below (ownsRow_setCell_below hHI3 (a := ⟨bm, 1 + k, none⟩) (by show bm < _; omega) (.pointer (some ⟨bv', 0, none⟩))) (a := ⟨bm, 10 + k, none⟩) (by show bm < _; omega) (.int .i64 (zk l k))
          have hm5 := (HM3.out.set (1 + k) (.pointer (some ⟨bv', 0, none⟩))).set (10 + k) (.int .i64 (zk l k))
          have hs5 : ((w3.setCell ⟨bm, 1 + k, none⟩ (.pointer (some ⟨bv', 0, none⟩))).setCell ⟨bm, 10 + k, none⟩ (.int .i64 (zk l k))).heap.size = w3.heap.size := by simp [World.setCell]
          have hblk5 : ∀ b, b ≠ bm → ((w3.setCell ⟨bm, 1 + k, none⟩ (.pointer (some ⟨bv', 0, none⟩))).setCell ⟨bm, 10 + k, none⟩ (.int .i64 (zk l k))).heap[b]? = w3.heap[b]? := fun b hb => by
            rw [Below.heap_setCell _ _ _ _ (by simpa using hb), Below.heap_setCell _ _ _ _ (by simpa using hb)]
          have hb5 : Below w.heap.size w ((w3.setCell ⟨bm, 1 + k, none⟩ (.pointer (some ⟨bv', 0, none⟩))).setCell ⟨bm, 10 + k, none⟩ (.int .i64 (zk l k))) := by
            have h1 : Below w.heap.size w wr := below_next HBWo.out HBI.out HBWo.out.size
            have h2 : Below w.heap.size w w3 := below_next (h1.drew) HB3.out h1.size
            exact (h2.setCell (p := ⟨bm, 1 + k, none⟩) hs1 _).setCell (p := ⟨bm, 10 + k, none⟩) hs1 _
          generalize hW5 : ((w3.setCell ⟨bm, 1 + k, none⟩ (.pointer (some ⟨bv', 0, none⟩))).setCell ⟨bm, 10 + k, none⟩ (.int .i64 (zk l k))) = w5 at *
          obtain ⟨v6, w6, hrun6, hown6, hg6, _⟩ := run_append_row (P := Try.prog) w5 _ 70 70 110 i0 _ 2 Try.underlying70 hi hz0 hz1 hz2 rfl _ _ _ hLO5 ahigh F1.length caphigh _ (owns_row hHI5).1 (fun j hj => by simp [List.getD_eq_getElem?_getD, hj, Value.oneCell']) (by simp only [maxLen]; omega) (by omega) (by rw [hs5]; omega)
          have hlist : (List.map (fun c : Nat => Value.int .u16 (c : Int)) ((rows l k).filter (fun c => !bitk c k))) ++ (List.range F1.length).map (fun j => (F1.map fun c : Nat => Value.int .u16 (c : Int)).getD j undef) = (rows l (k + 1)).map (fun c : Nat => Value.int .u16 (c : Int)) := by
            rw [HROWS.out, List.map_append]
            congr 1
            apply List.ext_getElem
            · simp
            · intro j h1 h2
              simp at h1
              simp [List.getD_eq_getElem?_getD, h1]
          rw [hlist, HSUM.out] at hown6
          obtain ⟨a6, cap6, rfl, hc6, hr6, hlow6, _⟩ := Row.of_owns hown6
          have hr6' : Row w6 a6 l.length (fun j => .int .u16 (((rows l (k + 1)).getD j 0 : Nat) : Int)) := hr6.congr fun j hj => by
            have h3 : j < (rows l (k + 1)).length := by rw [rows_length]; exact hj
            simp [List.getD_eq_getElem?_getD, h3]
          have hlolt := hLO5.lt
          have hlolt2 := HLO.out.lt
          have hblk6 : ∀ b, b ≠ bm → b < w3.heap.size → (∀ g, (Value.slice alow (zk l k) caplow).ownBlock = some g → b ≠ g) → w6.heap[b]? = w3.heap[b]? := fun b hb hb3 hg => by
            rw [hg6.block b (by rw [hs5]; exact hb3) (fun h => hg b h.symm rfl), hblk5 b hb]
          have hold : ∀ b, b < wo.heap.size → b ≠ bm → w6.heap[b]? = wo.heap[b]? := fun b hb hbm => by
            have e3 : w3.heap[b]? = wr.heap[b]? := HB3.out.block b (Nat.lt_of_lt_of_le hb HBI.out.size)
            rw [hblk6 b hbm (by omega) (fun g hg => by have := (hlolt g hg).1; omega), e3, HBI.out.block b hb]
          have hm6 : w6.rowIs bm 119 19 (matCells al l.length capl (fun j => if j = k then bv' else bv j) l (k + 1)) := by
            refine (row_gb hm5 hg6 (fun h => by have := (hlolt bm h.symm).1; omega)).congr fun j hj => ?_
            unfold matCells
            by_cases e0 : j = 0
            · subst e0; simp [show ¬ (0 = 10 + k) by omega, show ¬ (0 = 1 + k) by omega]
            · by_cases e1 : j < 10
              · by_cases e2 : j = 1 + k
                · subst e2
                  simp [e1]
                · by_cases e3 : j - 1 < k
                  · simp [e0, e1, e2, e3, show ¬ (j = 10 + k) by omega, show j - 1 < k + 1 by omega, show ¬ (j - 1 = k) by omega]
                  · simp [e0, e1, e2, e3, show ¬ (j = 10 + k) by omega, show ¬ (j - 1 < k + 1) by omega]
              · by_cases e2 : j = 10 + k
                · subst e2
                  simp [show ¬ (10 + k < 10) by omega]
                · by_cases e3 : j - 10 < k
                  · simp [e0, e1, e2, e3, show ¬ (j = 1 + k) by omega, show j - 10 < k + 1 by omega]
                  · simp [e0, e1, e2, e3, show ¬ (j = 1 + k) by omega, show ¬ (j - 10 < k + 1) by omega]
          have hv6 : VecAt w6 bv' bw' ba' l.length (pk l k) := by
            have h3 := HV3.out
            rw [pk_cut] at h3
            have q1 : bv' < w3.heap.size := World.block_lt_of_cell? w3 _ h3.cn
            have q2 : ba' < w3.heap.size := World.block_lt_of_cell? w3 _ (h3.wa 0 (by omega))
            have hwr : wr.drew.heap.size = wr.heap.size := rfl
            have hbmw : bm < wr.heap.size := by omega
            refine h3.of_blocks (hblk6 _ (by omega) q1 (fun g hg => ?_)) (hblk6 _ (by omega) h3.lw (fun g hg => ?_)) (hblk6 _ (by omega) q2 (fun g hg => ?_))
            all_goals (have := (hlolt2 g hg).2; omega)
          have hvec6 : ∀ j, j < k + 1 → VecAt w6 ((fun j => if j = k then bv' else bv j) j) ((fun j => if j = k then bw' else bw j) j) ((fun j => if j = k then ba' else ba j) j) l.length (pk l j) ∧ bm ≠ (fun j => if j = k then bv' else bv j) j ∧ bm ≠ (fun j => if j = k then bw' else bw j) j ∧ bm ≠ (fun j => if j = k then ba' else ba j) j := fun j hj => by
            by_cases e : j = k
            · subst e
              simp only [if_true]
              have hwr : wr.drew.heap.size = wr.heap.size := rfl
              exact ⟨hv6, by omega, by omega, by omega⟩
            · simp only [e, if_false]
              obtain ⟨g0, g1, g2, g3⟩ := HVEC.out j (by omega)
              have q1 : bv j < wo.heap.size := World.block_lt_of_cell? wo _ g0.cn
              have q2 : ba j < wo.heap.size := World.block_lt_of_cell? wo _ (g0.wa 0 (by omega))
              exact ⟨g0.of_blocks (hold _ q1 (Ne.symm g1)) (hold _ g0.lw (Ne.symm g2)) (hold _ q2 (Ne.symm g3)), g1, g2, g3⟩
          have hrl6 : Row w6 al l.length (fun j => .int .u16 ((l.getD j 0 : Nat) : Int)) := by
            refine ⟨HRL.out.at_, fun j hj => ?_⟩
            have hlt3 := hal (by omega)
            rw [World.cell?_of_block (w := wo) (a := ⟨bOf al, oOf al + j, none⟩) (hold (bOf al) (by omega) (by omega))]
            exact HRL.out.cell j hj
          have hb6 : Below w.heap.size w w6 := hb5.grown hg6 hb5.size (fun g hg => by have := (hlolt g hg).1; omega)
          have hlw6 : l.length = 0 ∨ bm < bOf a6 := by
            rcases hlow6 with h | h
            · exact .inl h
            · exact .inr (by omega)
          rw [← hW5] at hrun6
          have R6 := Lib.hid hrun6
          have HR6 := Lib.hid hr6'
          have HM6 := Lib.hid hm6
          have HV6 := Lib.hid hvec6
          have HRL6 := Lib.hid hrl6
          have HB6 := Lib.hid hb6
          clear hrun6 hr6' hm6 hv6 hvec6 hrl6 hb6 hold hblk6 hlolt hlolt2 hr6 hlist hown6 hg6 hb5 hblk5 hs5 hm5 hHI5 hLO5 hHI3 hLO3 hW5
          go_wp2_with (at_builtin; (with_reducible refine wpList_append_run rfl _ _ _ rfl R6.out rfl rfl ?_); clear R6)
          go_roundw
          case rel => exact ⟨k + 1, a6, cap6, _, _, _, by omega, by go_num, rfl, HR6.out, HM6.out, HV6.out, HRL6.out, hlw6, HB6.out⟩
          case measure => simp [intOf]; omega
    · have hk9 : k = 9 := by omega
      have hm9 := HMAT.out
      have hfin : MatAt wo bm al capl bv bw ba l := by
        refine ⟨hm9.cell (i := 0) (by omega), HRL.out, fun j hj => ?_, fun j hj => ?_, fun j hj => (HVEC.out j (by omega)).1, HL.out, hn⟩
        · rw [hm9.cell (i := 1 + j) (by omega)]
          unfold matCells
          rw [if_neg (by omega), if_pos (by omega), if_pos (by omega), show 1 + j - 1 = j by omega]
        · rw [hm9.cell (i := 10 + j) (by omega)]
          unfold matCells
          rw [if_neg (by omega), if_neg (by omega), if_pos (by omega), show 10 + j - 10 = j by omega]
      have HFIN := Lib.hid hfin
      clear hm9 hfin hk9
      go_wp2_with fail
      go_ret2
      unfold WNewPost
      exact ⟨bm, al, capl, bv, bw, ba, rfl, HFIN.out, HBWo.out⟩

/-- a symbol that is none is refused -/
theorem wnew_bad (w : World) (b cap : Nat) (x : Int) (h1 : 256 < x) (d : w.cell? ⟨b, 0, none⟩ = some (.int .u16 x)) :
    Calls Try.prog 82 #[.slice (some ⟨b, 0, none⟩) 1 cap] w fun e w' => e = .returned (.tuple #[.pointer none, .int .i64 1]) ∧ w = w' := by
  go_enter Try.func82, Try.ntmps82
  go_wp2
  refine wp_loop_rounds 1 ?_
  rw [rounds_succ]
  go_wp2
  go_ret2
  exact ⟨rfl, rfl⟩
end Go.Proofs.Ytjpoebmjfedecaa.Wv
