/-
  BagLaws: what is in both and what is in the first alone are together the first; joined the other way round it is the same.
-/
import Derived.Test.YtoifmfdaghmleaaBagStep
import Derived.Test.YtoifmfdaghmleaaRowOpen
set_option linter.unusedVariables false
namespace Go.Proofs.Ytoifmfdaghmleaa
open Go.RowKit Go.Lib Go.Sort Go.Shelf
theorem take_all {α : Type} {l l' : List α} {n : Nat} (e : l = l') (h : l'.length ≤ n) : l.take n = l' := by rw [List.take_of_length_le (by rw [e]; exact h), e]
theorem join_len {p q : List Int} (k0 k1 k2 : Bool) : (joinL ltI k0 k1 k2 p q).length ≤ p.length + q.length := joinL_len ltI k0 k1 k2 _ p q (Nat.le_refl _)
theorem egPtrI (p : Nat) (W : World) : (binOp .eql 42 (.pointer (some ⟨p, 0, none⟩)) (.pointer none)).run Try.prog W = .ok (.bool false) W := by kernel_rfl
set_option maxRecDepth 100000 in
set_option maxHeartbeats 4000000 in
theorem bagLaws_walk (w : World) (a : Option Addr) (n cap : Nat) (f : Nat → Int) (hl : n ≤ maxLen) (h : Row w a n (fun k => .int .i64 (f k)) ∧ ∀ k, k < n → (Lit.int .i64 (f k)).wf = true) (b : Option Addr) (m cab : Nat) (g : Nat → Int) (hl2 : m ≤ maxLen) (h2 : Row w b m (fun k => .int .i64 (g k)) ∧ ∀ k, k < m → (Lit.int .i64 (g k)).wf = true) :
    Calls Try.prog 5 #[.slice a n cap, .slice b m cab] w fun e w' => e = .returned (.bool true) ∧ Below w.heap.size w w' := by
  have HAW := Lib.hid (fun W => awake5_any W)
  by_cases h60 : (60 : Int) < (n : Int)
  · clear h h2
    go_enter Try.func5, Try.ntmps5
    go_wp2_with (go_at_call 23; refine (HAW.out _).mono ?_; rintro e w' ⟨rfl, hb⟩; have HB := Lib.hid hb; clear hb)
    go_ret
    exact ⟨rfl, HB.out⟩
  by_cases h61 : (60 : Int) < (m : Int)
  · clear h h2
    go_enter Try.func5, Try.ntmps5
    go_wp2_with (go_at_call 23; refine (HAW.out _).mono ?_; rintro e w' ⟨rfl, hb⟩; have HB := Lib.hid hb; clear hb)
    go_ret
    exact ⟨rfl, HB.out⟩
  clear HAW
  have hr := row_listOf h.1
  have hr2 := row_listOf h2.1
  have hn : n ≤ 60 := by omega
  have hm : m ≤ 60 := by omega
  obtain ⟨L, hL⟩ : ∃ l, l = listOf f n := ⟨_, rfl⟩
  obtain ⟨M, hM⟩ : ∃ l, l = listOf g m := ⟨_, rfl⟩
  obtain rfl : n = L.length := by rw [hL]; exact (listOf_len f n).symm
  obtain rfl : m = M.length := by rw [hM]; exact (listOf_len g m).symm
  rw [← hL] at hr
  rw [← hM] at hr2
  clear h h2 hL hM hl hl2
  have hx : ∀ j, intsF L j = Value.int .i64 (L.getD j 0) := fun _ => rfl
  have HS : Hid (LwI w w [] [(a, L), (b, M)] []) := ⟨Below.refl _ _, fun s hs => (List.not_mem_nil hs).elim, fun r hr' => by
    rcases List.mem_cons.1 hr' with rfl | h'
    · exact hr
    · rcases List.mem_cons.1 h' with rfl | h''
      · exact hr2
      · exact (List.not_mem_nil h'').elim, fun s hs => (List.not_mem_nil hs).elim⟩
  have HLN := Lib.hid hn
  have HMN := Lib.hid hm
  clear hr hr2 hn hm
  go_enter Try.func5, Try.ntmps5
  go_wp2_with fail
  refine (stNewI HS.out a cap L (by simp only [List.mem_cons, eq_self, true_or, or_true]) (by have := HLN.out; omega)).mono ?_
  rintro e W ⟨p, vp, rfl, hs⟩
  replace HS := Lib.hid hs
  clear hs
  go_wp2_with fail
  refine (stNewI HS.out b cab M (by simp only [List.mem_cons, eq_self, true_or, or_true]) (by have := HMN.out; omega)).mono ?_
  rintro e W ⟨q, vq, rfl, hs⟩
  replace HS := Lib.hid hs
  clear hs
  have hA := setL_len (lt := ltI) L
  have hB := setL_len (lt := ltI) M
  have RA := Lib.hid (setL_is ordI L).1
  have RB := Lib.hid (setL_is ordI M).1
  have HA : Hid ((setL ltI L).length ≤ 60) := by have := HLN.out; show _ ≤ _; omega
  have HB : Hid ((setL ltI M).length ≤ 60) := by have := HMN.out; show _ ≤ _; omega
  obtain ⟨A, hA2⟩ : ∃ A, A = setL ltI L := ⟨_, rfl⟩
  obtain ⟨B, hB2⟩ : ∃ B, B = setL ltI M := ⟨_, rfl⟩
  have HEA := Lib.hid hA2
  rw [← hA2, ← hB2] at HS
  rw [← hA2] at HA RA
  rw [← hB2] at HB RB
  clear hA hB hA2 hB2
  have egP := fun W => egPtrI p W
  have egQ := fun W => egPtrI q W
  have HJU : Hid ((unL ltI A B).length ≤ 120 ∧ (unL ltI B A).length ≤ 120) := by have h1 : (unL ltI A B).length ≤ _ := @join_len A B true true true; have h2 : (unL ltI B A).length ≤ _ := @join_len B A true true true; have := HA.out; have := HB.out; exact ⟨by omega, by omega⟩
  have HJB : Hid ((boL ltI A B).length ≤ 120 ∧ (boL ltI B A).length ≤ 120) := by have h1 : (boL ltI A B).length ≤ _ := @join_len A B false false true; have h2 : (boL ltI B A).length ≤ _ := @join_len B A false false true; have := HA.out; have := HB.out; exact ⟨by omega, by omega⟩
  have HJL : Hid ((leL ltI A B).length ≤ 120) := by have h1 : (leL ltI A B).length ≤ _ := @join_len A B true false false; have := HA.out; have := HB.out; show _ ≤ _; omega
  -- x
  go_wp2_with fail
  refine (stAllI HS.out p vp A (by simp only [List.mem_cons, eq_self, true_or, or_true]) (by have := HA.out; omega)).mono ?_
  rintro e W ⟨f1, rfl, hs⟩
  replace HS := Lib.hid hs
  clear hs
  go_wp2_with fail
  refine (stAllI HS.out q vq B (by simp only [List.mem_cons, eq_self, true_or, or_true]) (by have := HB.out; omega)).mono ?_
  rintro e W ⟨f2, rfl, hs⟩
  replace HS := Lib.hid hs
  clear hs
  go_wp2_with fail
  refine (stBothI HS.out f1 f2 noB noB A B (by simp only [List.mem_cons, eq_self, true_or, or_true]) (by simp only [List.mem_cons, eq_self, true_or, or_true]) (by have := HA.out; omega) (by have := HB.out; omega)).mono ?_
  rintro e W ⟨f3, D3, rfl, hs⟩
  replace HS := Lib.hid hs
  clear hs
  go_wp2_with fail
  refine (stAllI HS.out p vp A (by simp only [List.mem_cons, eq_self, true_or, or_true]) (by have := HA.out; omega)).mono ?_
  rintro e W ⟨f4, rfl, hs⟩
  replace HS := Lib.hid hs
  clear hs
  go_wp2_with fail
  refine (stAllI HS.out q vq B (by simp only [List.mem_cons, eq_self, true_or, or_true]) (by have := HB.out; omega)).mono ?_
  rintro e W ⟨f5, rfl, hs⟩
  replace HS := Lib.hid hs
  clear hs
  go_wp2_with fail
  refine (stLessI HS.out f4 f5 noB noB A B (by simp only [List.mem_cons, eq_self, true_or, or_true]) (by simp only [List.mem_cons, eq_self, true_or, or_true]) (by have := HA.out; omega) (by have := HB.out; omega)).mono ?_
  rintro e W ⟨f6, D6, rfl, hs⟩
  replace HS := Lib.hid hs
  clear hs
  go_wp2_with fail
  refine (stUnionI HS.out f3 f6 D3 D6 (boL ltI A B) (leL ltI A B) (by simp only [List.mem_cons, eq_self, true_or, or_true]) (by simp only [List.mem_cons, eq_self, true_or, or_true]) (by have := HJB.out; omega) (by have := HJL.out; omega)).mono ?_
  rintro e W ⟨f7, D7, rfl, hs⟩
  replace HS := Lib.hid hs
  clear hs
  go_wp2_with fail
  refine (stFirstI HS.out f7 D7 (unL ltI (boL ltI A B) (leL ltI A B)) A (by simp only [List.mem_cons, eq_self, true_or, or_true]) 1000 (take_all (un_bo_le ordI RA.out RB.out) (by have := HA.out; omega)) (by rw [un_bo_le ordI RA.out RB.out]; have := HA.out; omega) (by omega)).mono ?_
  rintro e W ⟨ax, cf, rfl, hs⟩
  replace HS := Lib.hid (hs.setI (Is' := []) (fun i hi => (List.not_mem_nil hi).elim))
  clear hs
  -- y
  go_wp2_with fail
  refine (stAllI HS.out q vq B (by simp only [List.mem_cons, eq_self, true_or, or_true]) (by have := HB.out; omega)).mono ?_
  rintro e W ⟨f1, rfl, hs⟩
  replace HS := Lib.hid hs
  clear hs
  go_wp2_with fail
  refine (stAllI HS.out p vp A (by simp only [List.mem_cons, eq_self, true_or, or_true]) (by have := HA.out; omega)).mono ?_
  rintro e W ⟨f2, rfl, hs⟩
  replace HS := Lib.hid hs
  clear hs
  go_wp2_with fail
  refine (stUnionI HS.out f1 f2 noB noB B A (by simp only [List.mem_cons, eq_self, true_or, or_true]) (by simp only [List.mem_cons, eq_self, true_or, or_true]) (by have := HB.out; omega) (by have := HA.out; omega)).mono ?_
  rintro e W ⟨f3, D3, rfl, hs⟩
  replace HS := Lib.hid hs
  clear hs
  go_wp2_with fail
  refine (stFirstI HS.out f3 D3 (unL ltI B A) (unL ltI A B) (by simp only [List.mem_cons, eq_self, true_or, or_true]) 1000 (take_all (un_comm ordI RA.out RB.out) (by have := HJU.out; omega)) (by have := HJU.out; omega) (by omega)).mono ?_
  rintro e W ⟨ay, cf, rfl, hs⟩
  replace HS := Lib.hid (hs.setI (Is' := []) (fun i hi => (List.not_mem_nil hi).elim))
  clear hs
  -- z
  go_wp2_with fail
  refine (stAllI HS.out p vp A (by simp only [List.mem_cons, eq_self, true_or, or_true]) (by have := HA.out; omega)).mono ?_
  rintro e W ⟨f1, rfl, hs⟩
  replace HS := Lib.hid hs
  clear hs
  go_wp2_with fail
  refine (stAllI HS.out q vq B (by simp only [List.mem_cons, eq_self, true_or, or_true]) (by have := HB.out; omega)).mono ?_
  rintro e W ⟨f2, rfl, hs⟩
  replace HS := Lib.hid hs
  clear hs
  go_wp2_with fail
  refine (stUnionI HS.out f1 f2 noB noB A B (by simp only [List.mem_cons, eq_self, true_or, or_true]) (by simp only [List.mem_cons, eq_self, true_or, or_true]) (by have := HA.out; omega) (by have := HB.out; omega)).mono ?_
  rintro e W ⟨f3, D3, rfl, hs⟩
  replace HS := Lib.hid hs
  clear hs
  go_wp2_with fail
  refine (stFirstI HS.out f3 D3 (unL ltI A B) (unL ltI A B) (by simp only [List.mem_cons, eq_self, true_or, or_true]) 1000 (take_all rfl (by have := HJU.out; omega)) (by have := HJU.out; omega) (by omega)).mono ?_
  rintro e W ⟨az, cf, rfl, hs⟩
  replace HS := Lib.hid (hs.setI (Is' := []) (fun i hi => (List.not_mem_nil hi).elim))
  clear hs
  -- u
  go_wp2_with fail
  refine (stAllI HS.out q vq B (by simp only [List.mem_cons, eq_self, true_or, or_true]) (by have := HB.out; omega)).mono ?_
  rintro e W ⟨f1, rfl, hs⟩
  replace HS := Lib.hid hs
  clear hs
  go_wp2_with fail
  refine (stAllI HS.out p vp A (by simp only [List.mem_cons, eq_self, true_or, or_true]) (by have := HA.out; omega)).mono ?_
  rintro e W ⟨f2, rfl, hs⟩
  replace HS := Lib.hid hs
  clear hs
  go_wp2_with fail
  refine (stBothI HS.out f1 f2 noB noB B A (by simp only [List.mem_cons, eq_self, true_or, or_true]) (by simp only [List.mem_cons, eq_self, true_or, or_true]) (by have := HB.out; omega) (by have := HA.out; omega)).mono ?_
  rintro e W ⟨f3, D3, rfl, hs⟩
  replace HS := Lib.hid hs
  clear hs
  go_wp2_with fail
  refine (stFirstI HS.out f3 D3 (boL ltI B A) (boL ltI A B) (by simp only [List.mem_cons, eq_self, true_or, or_true]) 1000 (take_all (bo_comm ordI RA.out RB.out) (by have := HJB.out; omega)) (by have := HJB.out; omega) (by omega)).mono ?_
  rintro e W ⟨au, cf, rfl, hs⟩
  replace HS := Lib.hid (hs.setI (Is' := []) (fun i hi => (List.not_mem_nil hi).elim))
  clear hs
  -- v
  go_wp2_with fail
  refine (stAllI HS.out p vp A (by simp only [List.mem_cons, eq_self, true_or, or_true]) (by have := HA.out; omega)).mono ?_
  rintro e W ⟨f1, rfl, hs⟩
  replace HS := Lib.hid hs
  clear hs
  go_wp2_with fail
  refine (stAllI HS.out q vq B (by simp only [List.mem_cons, eq_self, true_or, or_true]) (by have := HB.out; omega)).mono ?_
  rintro e W ⟨f2, rfl, hs⟩
  replace HS := Lib.hid hs
  clear hs
  go_wp2_with fail
  refine (stBothI HS.out f1 f2 noB noB A B (by simp only [List.mem_cons, eq_self, true_or, or_true]) (by simp only [List.mem_cons, eq_self, true_or, or_true]) (by have := HA.out; omega) (by have := HB.out; omega)).mono ?_
  rintro e W ⟨f3, D3, rfl, hs⟩
  replace HS := Lib.hid hs
  clear hs
  go_wp2_with fail
  refine (stFirstI HS.out f3 D3 (boL ltI A B) (boL ltI A B) (by simp only [List.mem_cons, eq_self, true_or, or_true]) 1000 (take_all rfl (by have := HJB.out; omega)) (by have := HJB.out; omega) (by omega)).mono ?_
  rintro e W ⟨av, cf, rfl, hs⟩
  replace HS := Lib.hid (hs.setI (Is' := []) (fun i hi => (List.not_mem_nil hi).elim))
  clear hs
  -- what is returned
  go_wp2_with fail
  refine (stSet HS.out a cap L (by simp only [List.mem_cons, eq_self, true_or, or_true]) (by have := HLN.out; omega)).mono ?_
  rintro e W ⟨asx, cf, rfl, -, -, hs⟩
  replace HS := Lib.hid hs
  clear hs
  rw [← HEA.out] at HS ⊢
  go_wp2_with fail
  refine (stSame HS.out ax asx _ _ A (by simp only [List.mem_cons, eq_self, true_or, or_true]) (by simp only [List.mem_cons, eq_self, true_or, or_true]) (by have := HA.out; omega)).mono ?_
  rintro e W ⟨rfl, hs⟩
  replace HS := Lib.hid hs
  clear hs
  go_wp2_with fail
  refine (stSame HS.out ay az _ _ (unL ltI A B) (by simp only [List.mem_cons, eq_self, true_or, or_true]) (by simp only [List.mem_cons, eq_self, true_or, or_true]) (by have := HJU.out; omega)).mono ?_
  rintro e W ⟨rfl, hs⟩
  replace HS := Lib.hid hs
  clear hs
  go_wp2_with fail
  refine (stSame HS.out au av _ _ (boL ltI A B) (by simp only [List.mem_cons, eq_self, true_or, or_true]) (by simp only [List.mem_cons, eq_self, true_or, or_true]) (by have := HJB.out; omega)).mono ?_
  rintro e W ⟨rfl, hs⟩
  replace HS := Lib.hid hs
  clear hs
  go_wp2_with fail
  refine (stAllI HS.out p vp A (by simp only [List.mem_cons, eq_self, true_or, or_true]) (by have := HA.out; omega)).mono ?_
  rintro e W ⟨f1, rfl, hs⟩
  replace HS := Lib.hid hs
  clear hs
  go_wp2_with fail
  refine (stAllI HS.out p vp A (by simp only [List.mem_cons, eq_self, true_or, or_true]) (by have := HA.out; omega)).mono ?_
  rintro e W ⟨f2, rfl, hs⟩
  replace HS := Lib.hid hs
  clear hs
  go_wp2_with fail
  refine (stLessI HS.out f1 f2 noB noB A A (by simp only [List.mem_cons, eq_self, true_or, or_true]) (by simp only [List.mem_cons, eq_self, true_or, or_true]) (by have := HA.out; omega) (by have := HA.out; omega)).mono ?_
  rintro e W ⟨f3, D3, rfl, hs⟩
  replace HS := Lib.hid hs
  clear hs
  go_wp2_with fail
  refine (stFirstI HS.out f3 D3 (leL ltI A A) ([] : List Int) (by simp only [List.mem_cons, eq_self, true_or, or_true]) 9 (take_all (le_self ordI RA.out) (by simp)) (by rw [le_self ordI RA.out]; simp) (by omega)).mono ?_
  rintro e W ⟨aw, cf, rfl, hs⟩
  replace HS := Lib.hid (hs.setI (Is' := []) (fun i hi => (List.not_mem_nil hi).elim))
  clear hs
  simp only [List.length_nil]
  go_wp2_with fail
  refine (stAllI HS.out p vp A (by simp only [List.mem_cons, eq_self, true_or, or_true]) (by have := HA.out; omega)).mono ?_
  rintro e W ⟨f1, rfl, hs⟩
  replace HS := Lib.hid hs
  clear hs
  go_wp2_with fail
  refine (stAllI HS.out p vp A (by simp only [List.mem_cons, eq_self, true_or, or_true]) (by have := HA.out; omega)).mono ?_
  rintro e W ⟨f2, rfl, hs⟩
  replace HS := Lib.hid hs
  clear hs
  go_wp2_with fail
  refine (stUnionI HS.out f1 f2 noB noB A A (by simp only [List.mem_cons, eq_self, true_or, or_true]) (by simp only [List.mem_cons, eq_self, true_or, or_true]) (by have := HA.out; omega) (by have := HA.out; omega)).mono ?_
  rintro e W ⟨f3, D3, rfl, hs⟩
  replace HS := Lib.hid hs
  clear hs
  go_wp2_with fail
  refine (stFirstI HS.out f3 D3 (unL ltI A A) A (by simp only [List.mem_cons, eq_self, true_or, or_true]) 1000 (take_all (un_self ordI RA.out) (by have := HA.out; omega)) (by rw [un_self ordI RA.out]; have := HA.out; omega) (by omega)).mono ?_
  rintro e W ⟨a1, cf, rfl, hs⟩
  replace HS := Lib.hid (hs.setI (Is' := []) (fun i hi => (List.not_mem_nil hi).elim))
  clear hs
  go_wp2_with fail
  refine (stSet HS.out a cap L (by simp only [List.mem_cons, eq_self, true_or, or_true]) (by have := HLN.out; omega)).mono ?_
  rintro e W ⟨a2, cf, rfl, -, -, hs⟩
  replace HS := Lib.hid hs
  clear hs
  rw [← HEA.out] at HS ⊢
  go_wp2_with fail
  refine (stSame HS.out a1 a2 _ _ A (by simp only [List.mem_cons, eq_self, true_or, or_true]) (by simp only [List.mem_cons, eq_self, true_or, or_true]) (by have := HA.out; omega)).mono ?_
  rintro e W ⟨rfl, hs⟩
  replace HS := Lib.hid hs
  clear hs
  go_wp2_with fail
  refine (stAllI HS.out p vp A (by simp only [List.mem_cons, eq_self, true_or, or_true]) (by have := HA.out; omega)).mono ?_
  rintro e W ⟨f1, rfl, hs⟩
  replace HS := Lib.hid hs
  clear hs
  replace HS := Lib.hid (HS.out.addI (fv := .nilFunc) (D := noB) (l := []) (.inl ⟨rfl, rfl⟩))
  go_wp2_with fail
  refine (stUnionI HS.out f1 .nilFunc noB noB A [] (by simp only [List.mem_cons, eq_self, true_or, or_true]) (by simp only [List.mem_cons, eq_self, true_or, or_true]) (by have := HA.out; omega) (by simp)).mono ?_
  rintro e W ⟨f3, D3, rfl, hs⟩
  replace HS := Lib.hid hs
  clear hs
  go_wp2_with fail
  refine (stFirstI HS.out f3 D3 (unL ltI A []) A (by simp only [List.mem_cons, eq_self, true_or, or_true]) 1000 (take_all (un_nil ordI RA.out) (by have := HA.out; omega)) (by rw [un_nil ordI RA.out]; have := HA.out; omega) (by omega)).mono ?_
  rintro e W ⟨a3, cf, rfl, hs⟩
  replace HS := Lib.hid (hs.setI (Is' := []) (fun i hi => (List.not_mem_nil hi).elim))
  clear hs
  go_wp2_with fail
  refine (stSet HS.out a cap L (by simp only [List.mem_cons, eq_self, true_or, or_true]) (by have := HLN.out; omega)).mono ?_
  rintro e W ⟨a4, cf, rfl, -, -, hs⟩
  replace HS := Lib.hid hs
  clear hs
  rw [← HEA.out] at HS ⊢
  go_wp2_with fail
  refine (stSame HS.out a3 a4 _ _ A (by simp only [List.mem_cons, eq_self, true_or, or_true]) (by simp only [List.mem_cons, eq_self, true_or, or_true]) (by have := HA.out; omega)).mono ?_
  rintro e W ⟨rfl, hs⟩
  replace HS := Lib.hid hs
  clear hs
  go_wp2_with fail
  refine (stAllI HS.out q vq B (by simp only [List.mem_cons, eq_self, true_or, or_true]) (by have := HB.out; omega)).mono ?_
  rintro e W ⟨f1, rfl, hs⟩
  replace HS := Lib.hid hs
  clear hs
  replace HS := Lib.hid (HS.out.addI (fv := .nilFunc) (D := noB) (l := []) (.inl ⟨rfl, rfl⟩))
  go_wp2_with fail
  refine (stBothI HS.out .nilFunc f1 noB noB [] B (by simp only [List.mem_cons, eq_self, true_or, or_true]) (by simp only [List.mem_cons, eq_self, true_or, or_true]) (by simp) (by have := HB.out; omega)).mono ?_
  rintro e W ⟨f3, D3, rfl, hs⟩
  replace HS := Lib.hid hs
  clear hs
  go_wp2_with fail
  refine (stFirstI HS.out f3 D3 (boL ltI [] B) ([] : List Int) (by simp only [List.mem_cons, eq_self, true_or, or_true]) 9 (take_all (bo_nil ordI RB.out) (by simp)) (by rw [bo_nil ordI RB.out]; simp) (by omega)).mono ?_
  rintro e W ⟨a5, cf, rfl, hs⟩
  replace HS := Lib.hid (hs.setI (Is' := []) (fun i hi => (List.not_mem_nil hi).elim))
  clear hs
  simp only [List.length_nil]
  go_wp2_with (go_at_call 23; refine (stAwake HS.out).mono ?_; rintro e W ⟨rfl, hs⟩; have HS9 := Lib.hid hs; clear hs)
  go_ret
  exact ⟨rfl, HS9.out.bel⟩
end Go.Proofs.Ytoifmfdaghmleaa
