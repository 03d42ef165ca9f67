/-
  query.Parse: at any text.
-/
import Derived.Test.YtdcobmoeligdkaaGreatDoorCmQList
namespace Go.Proofs.YtdcobmoeligdkaaGreatDoor
open Go.RowKit Go.Shelf

/-- the query of a text that is not too long -/
def qpS (s : List UInt8) : Option QT := if 2000 < s.length then none else qparseL s
theorem results_q2 {fn : Func} {p u : Tmp} {ty : TypeId} (h : fn.results = #[.cell p ty, .tmp u]) (tmps : Array Value) (P : Program) (w : World) :
    (results fn tmps).run P w =
      ((asAddr (tmps.getD p undef)).run P w).andThen fun a w₁ => ((loadVar ty a).run P w₁).andThen fun x w₂ => .ok (.tuple #[x, tmps.getD u undef]) w₂ := by
  simp only [results, h]
  simp [Sem.run_bind, Result.andThen]
theorem results_qparse {tmps : Array Value} {W : World} {rB : Nat} {cs : Array Value} (hr : W.heap[rB]? = some (.cells cs 25 (0, 0))) (hsz : cs.size = 3)
    (hp : tmps.getD 2 undef = .pointer (some ⟨rB, 0, none⟩)) : (results Tryz.f47 tmps).run Tryz.prog W = .ok (.tuple #[.agg cs, tmps.getD 3 undef]) W := by
  rw [results_q2 (p := 2) (u := 3) (ty := 25) (by kernel_rfl), hp]
  have h1 : (loadVar 25 ⟨rB, 0, none⟩).run Tryz.prog W = .ok (.agg cs) W := run_loadVar_row W rB _ _ cs _ _ hr Tryz.underlying25 rfl (by rw [hsz]; kernel_rfl)
  simp only [asAddr, Sem.run_pure, Result.andThen_ok, h1]
/-- what query.Parse answers -/
def QPP (w : World) (s : List UInt8) (e : Ending) (w' : World) : Prop :=
  Below w.heap.size w w' ∧ ((qpS s = none ∧ e = .returned (.tuple #[.agg #[.int .i64 0, .slice none 0 0, .slice none 0 0], .int .i64 (if 2000 < s.length then 2 else 3)])) ∨
    ∃ q v0 v1 v2, qpS s = some q ∧ e = .returned (.tuple #[.agg #[v0, v1, v2], .int .i64 0]) ∧ QAt w' (fun b => w.heap.size ≤ b) q v0 v1 v2)
theorem qparseL_eq {s : List UInt8} : qparseL s = match readF 8 s with
  | some (q, []) => if okQ q then some q else none
  | _ => none := rfl
set_option maxRecDepth 100000 in
set_option maxHeartbeats 2000000 in
theorem qparse_any (w : World) (s : List UInt8) (hs : s.length ≤ 100000) : Calls Tryz.prog 47 #[.string (uS s)] w (QPP w s) := by
  have hsz := uS_size s
  by_cases hlong : 2000 < s.length
  · have HE : Hid (∀ W, Below w.heap.size w W → QPP w s (.returned (.tuple #[.agg #[.int .i64 0, .slice none 0 0, .slice none 0 0], .int .i64 2])) W) := fun W hb => ⟨hb, .inl ⟨by unfold qpS; rw [if_pos hlong], by rw [if_pos hlong]⟩⟩
    have hd : decide ((2000 : Int) < ((s.length : Nat) : Int)) = true := decide_eq_true (by omega)
    go_enter Tryz.func47, Tryz.ntmps47
    go_wp2
    refine bodyPost_ret (results_qparse (World.alloc_heap_new _ _) rfl rfl) rfl ?_
    exact HE.out _ ((Below.refl _ _).alloc (Nat.le_refl _) _)
  have hd : decide ((2000 : Int) < ((s.length : Nat) : Int)) = false := decide_eq_false (by omega)
  have HNO : Hid (qparseL s = none → ∀ W, Below w.heap.size w W → QPP w s (.returned (.tuple #[.agg #[.int .i64 0, .slice none 0 0, .slice none 0 0], .int .i64 3])) W) := fun h W hb => ⟨hb, .inl ⟨by unfold qpS; rw [if_neg hlong, h], by rw [if_neg hlong]⟩⟩
  have HYES : Hid (∀ q v0 v1 v2 W, qparseL s = some q → Below w.heap.size w W → QAt W (fun b => w.heap.size ≤ b) q v0 v1 v2 → QPP w s (.returned (.tuple #[.agg #[v0, v1, v2], .int .i64 0])) W) := fun q v0 v1 v2 W h hb hq => ⟨hb, .inr ⟨q, v0, v1, v2, by unfold qpS; rw [if_neg hlong, h], rfl, hq⟩⟩
  have HRD : Hid (∀ W, Calls Tryz.prog 63 #[.string (uS s), .int .i64 1] W (RP W (readF 8 s))) := fun W => read_any 8 (by omega) W s hs
  have HPL := Lib.hid (qparseL_eq (s := s))
  clear hlong
  go_enter Tryz.func47, Tryz.ntmps47
  go_wp2_with fail
  refine (HRD.out _).mono ?_
  rintro e w1 ⟨hb1, hcase⟩
  have hz1 : (w.alloc (.cells #[.int .i64 0, .slice none 0 0, .slice none 0 0] 25)).heap.size = w.heap.size + 1 := by rw [World.size_alloc]
  have hn1 : (w.alloc (.cells #[.int .i64 0, .slice none 0 0, .slice none 0 0] 25)).heap[w.heap.size]? = some (.cells #[.int .i64 0, .slice none 0 0, .slice none 0 0] 25 (0, 0)) := World.alloc_heap_new _ _
  have hb0 : Below w.heap.size w (w.alloc (.cells #[.int .i64 0, .slice none 0 0, .slice none 0 0] 25)) := (Below.refl _ _).alloc (Nat.le_refl _) _
  generalize (w.alloc (.cells #[.int .i64 0, .slice none 0 0, .slice none 0 0] 25)) = w0 at *
  have HB : Hid (Below w.heap.size w w1) := below_next hb0 hb1 (by omega)
  have hn2 : w1.heap[w.heap.size]? = some (.cells #[.int .i64 0, .slice none 0 0, .slice none 0 0] 25 (0, 0)) := (hb1.block _ (by omega)).trans hn1
  have hs1 : w.heap.size + 1 ≤ w1.heap.size := by have := hb1.size; omega
  have HZ0 : Hid (w0.heap.size = w.heap.size + 1) := hz1
  have HN2 := Lib.hid hn2
  clear hn1 hb0 hb1 hz1
  have HN3 : Hid (∀ o, (w1.alloc o).heap[w.heap.size]? = some (.cells #[.int .i64 0, .slice none 0 0, .slice none 0 0] 25 (0, 0))) := fun o => (Below.heap_alloc _ _ _ (by omega)).trans hn2
  have HB3 : Hid (∀ o, Below w.heap.size w (w1.alloc o)) := fun o => HB.out.alloc (by omega) o
  clear hn2
  rcases hcase with ⟨hno, k1, a1, n1, c1, b1, m1, d1, sr, rfl⟩ | ⟨x, r, u0, u1, u2, hyes, rfl, hx⟩
  · have HE := Lib.hid (HNO.out (by rw [HPL.out, hno]))
    clear hno HYES HNO HPL
    go_wp2_with (refine wpList_store_rowTo rfl 25 _ _ rfl rfl w.heap.size #[.int .i64 0, .slice none 0 0, .slice none 0 0] (by as_aux_lemma => kernel_rfl) (by as_aux_lemma => kernel_rfl) 25 #[.int .i64 0, .slice none 0 0, .slice none 0 0] (HN3.out _) (by as_aux_lemma => kernel_rfl) rfl (by as_aux_lemma => kernel_rfl) ?_)
    refine bodyPost_ret (results_qparse (setRow_heap _ _ _ _ _ _ (HN3.out _)) rfl rfl) rfl ?_
    exact HE.out _ (below_setRowS (HB3.out _) (Nat.le_refl _) _)
  · obtain ⟨p1, n1, c1, p2, n2, c2, rfl, rfl, rfl⟩ := hx.form
    have HX := Lib.hid hx
    clear hx
    by_cases hr : r = []
    · subst hr
      have HOK : Hid (∀ W, Below w1.heap.size w1 W → Calls Tryz.prog 30 #[.agg #[.int .i64 x.k, .slice p1 n1 c1, .slice p2 n2 c2]] W fun e w' => e = .returned (.bool (okQ x)) ∧ Below W.heap.size W w') := fun W hW => ok_any W _ x _ _ _ (HX.out.kept hW)
      have e0 : uS [] = ⟨#[]⟩ := rfl
      rw [e0]
      clear e0
      have HPL2 : Hid (qparseL s = if okQ x then some x else none) := by show _ = _; rw [HPL.out, hyes]
      clear hyes HPL
      generalize x.k = xk at *
      have HA : Hid (∀ o, Below w1.heap.size w1 (w1.alloc o)) := fun o => (Below.refl _ _).alloc (Nat.le_refl _) _
      have hnew := World.alloc_heap_new w1 (.cells #[.int .i64 xk, .slice p1 n1 c1, .slice p2 n2 c2] 25)
      have hszn := World.size_alloc w1 (.cells #[.int .i64 xk, .slice p1 n1 c1, .slice p2 n2 c2] 25)
      have HNEW := Lib.hid hnew
      have HSZN := Lib.hid hszn
      clear hnew hszn
      cases hok : okQ x with
      | false =>
        have HE := Lib.hid (HNO.out (by rw [HPL2.out, hok]; rfl))
        rw [hok] at HOK
        clear HYES HNO HPL2 hok
        go_wp2_with (first
          | (go_at_call 30; refine (HOK.out _ (HA.out _)).mono ?_; rintro e w4 ⟨rfl, hb4⟩; have HN4 : Hid (w4.heap[w.heap.size]? = some (.cells #[.int .i64 0, .slice none 0 0, .slice none 0 0] 25 (0, 0))) := (hb4.block _ (by have := HSZN.out; omega)).trans (HN3.out _); have HB4 : Hid (Below w.heap.size w w4) := below_next (HB3.out _) hb4 (HB3.out _).size; clear hb4)
          | (refine wpList_store_rowTo rfl 25 _ _ rfl rfl w.heap.size #[.int .i64 0, .slice none 0 0, .slice none 0 0] (by as_aux_lemma => kernel_rfl) (by as_aux_lemma => kernel_rfl) 25 #[.int .i64 0, .slice none 0 0, .slice none 0 0] HN4.out (by as_aux_lemma => kernel_rfl) rfl (by as_aux_lemma => kernel_rfl) ?_))
        refine bodyPost_ret (results_qparse (setRow_heap _ _ _ _ _ _ HN4.out) rfl rfl) rfl ?_
        exact HE.out _ (below_setRowS HB4.out (Nat.le_refl _) _)
      | true =>
        have HE := Lib.hid (fun v0 v1 v2 W => HYES.out x v0 v1 v2 W (by rw [HPL2.out, hok]; rfl))
        rw [hok] at HOK
        clear HYES HNO HPL2 hok
        go_wp2_with (first
          | (go_at_call 30; refine (HOK.out _ (HA.out _)).mono ?_; rintro e w4 ⟨rfl, hb4⟩; have HN4 : Hid (w4.heap[w.heap.size]? = some (.cells #[.int .i64 0, .slice none 0 0, .slice none 0 0] 25 (0, 0))) := (hb4.block _ (by have := HSZN.out; omega)).trans (HN3.out _); have HB4 : Hid (Below w.heap.size w w4) := below_next (HB3.out _) hb4 (HB3.out _).size; have HX4 := Lib.hid ((HX.out.kept (HA.out (.cells #[.int .i64 xk, .slice p1 n1 c1, .slice p2 n2 c2] 25))).kept hb4); have g4 := (hb4.block w1.heap.size (by have := HSZN.out; omega)).trans HNEW.out; have d0 := cell_of_row w4 _ 0 _ _ _ g4; have d1 := cell_of_row w4 _ 1 _ _ _ g4; have d2 := cell_of_row w4 _ 2 _ _ _ g4; simp only [List.getElem?_toArray, List.getElem?_cons_succ, List.getElem?_cons_zero] at d0 d1 d2; clear hb4 g4)
          | (refine wpList_store_rowTo rfl 25 _ _ rfl rfl w.heap.size #[.int .i64 xk, .slice p1 n1 c1, .slice p2 n2 c2] (by as_aux_lemma => kernel_rfl) (by as_aux_lemma => kernel_rfl) 25 #[.int .i64 0, .slice none 0 0, .slice none 0 0] HN4.out (by as_aux_lemma => kernel_rfl) rfl (by as_aux_lemma => kernel_rfl) ?_))
        refine bodyPost_ret (results_qparse (setRow_heap _ _ _ _ _ _ HN4.out) rfl rfl) rfl ?_
        refine HE.out _ _ _ _ (below_setRowS HB4.out (Nat.le_refl _) _) (HX4.out.move (fun b _ hg => setRow_other _ _ _ _ ?_) (fun b _ hg => ?_))
        · have := HZ0.out; omega
        · have := HZ0.out; omega
    · have HE := Lib.hid (HNO.out (by rw [HPL.out, hyes]; cases r with
        | nil => exact absurd rfl hr
        | cons c r => rfl))
      have heq : ((uS r).toList != ([] : List UInt8)) = true := by rw [uS_toList, bne_iff_ne]; exact hr
      have heq2 : ((uS r).toList == ([] : List UInt8)) = false := by rw [uS_toList, beq_eq_false_iff_ne]; exact hr
      clear hyes HYES HNO HPL hr
      generalize x.k = xk at *
      go_wp2_with (refine wpList_store_rowTo rfl 25 _ _ rfl rfl w.heap.size #[.int .i64 0, .slice none 0 0, .slice none 0 0] (by as_aux_lemma => kernel_rfl) (by as_aux_lemma => kernel_rfl) 25 #[.int .i64 0, .slice none 0 0, .slice none 0 0] (HN3.out _) (by as_aux_lemma => kernel_rfl) rfl (by as_aux_lemma => kernel_rfl) ?_)
      refine bodyPost_ret (results_qparse (setRow_heap _ _ _ _ _ _ (HN3.out _)) rfl rfl) rfl ?_
      exact HE.out _ (below_setRowS (HB3.out _) (Nat.le_refl _) _)
end Go.Proofs.YtdcobmoeligdkaaGreatDoor
