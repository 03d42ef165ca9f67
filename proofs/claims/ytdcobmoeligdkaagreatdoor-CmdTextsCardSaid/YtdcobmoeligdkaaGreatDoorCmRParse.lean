/-
  concordanceref23.Parse: at any text.
-/
import Derived.Test.YtdcobmoeligdkaaGreatDoorCmRList
import Derived.Test.YtdcobmoeligdkaaGreatDoorCmRCnt
import Derived.Test.YtdcobmoeligdkaaGreatDoorCmQParse
namespace Go.Proofs.YtdcobmoeligdkaaGreatDoor
open Go.RowKit Go.Shelf

def rqpL (s : List UInt8) : Option QT := match rreadF 8 s with
  | some (q, n) => if n = s.length ∧ okQ q = true then some q else none
  | none => none
theorem results_rqparse {tmps : Array Value} {W : World} {rB : Nat} {cs : Array Value} (hr : W.heap[rB]? = some (.cells cs 25 (0, 0))) (hsz : cs.size = 3)
    (hp : tmps.getD 2 undef = .pointer (some ⟨rB, 0, none⟩)) : (results Tryz.f56 tmps).run Tryz.prog W = .ok (.tuple #[.agg cs, tmps.getD 3 undef]) W := by
  rw [results_q2 (p := 2) (u := 3) (ty := 25) (by kernel_rfl), hp]
  have h1 : (loadVar 25 ⟨rB, 0, none⟩).run Tryz.prog W = .ok (.agg cs) W := run_loadVar_row W rB _ _ cs _ _ hr Tryz.underlying25 rfl (by rw [hsz]; kernel_rfl)
  simp only [asAddr, Sem.run_pure, Result.andThen_ok, h1]
set_option maxRecDepth 100000 in
set_option maxHeartbeats 2000000 in
theorem rqparse_any (w : World) (s : List UInt8) (hs : s.length ≤ 100000) : Calls Tryz.prog 56 #[.string (uS s)] w (QPP w s) := by
  have hsz := uS_size s
  by_cases hlong : 2000 < s.length
  · have HE : Hid (∀ W, Below w.heap.size w W → QPP w s (.returned (.tuple #[.agg #[.int .i64 0, .slice none 0 0, .slice none 0 0], .int .i64 2])) W) := fun W hb => ⟨hb, .inl ⟨by unfold qpS; rw [if_pos hlong], by rw [if_pos hlong]⟩⟩
    have hd : decide ((2000 : Int) < ((s.length : Nat) : Int)) = true := decide_eq_true (by omega)
    go_enter Tryz.func56, Tryz.ntmps56
    have HN2 := Lib.hid (World.alloc_heap_new w (.cells #[.int .i64 0, .slice none 0 0, .slice none 0 0] 25))
    have HB : Hid (Below w.heap.size w (w.alloc (.cells #[.int .i64 0, .slice none 0 0, .slice none 0 0] 25))) := (Below.refl _ _).alloc (Nat.le_refl _) _
    go_upto_region 2 with fail
    generalize (w.alloc (.cells #[.int .i64 0, .slice none 0 0, .slice none 0 0] 25)) = w0 at *
    go_wp2_with (refine wpList_store_rowTo rfl 25 _ _ rfl rfl w.heap.size #[.int .i64 0, .slice none 0 0, .slice none 0 0] (by as_aux_lemma => kernel_rfl) (by as_aux_lemma => kernel_rfl) 25 #[.int .i64 0, .slice none 0 0, .slice none 0 0] HN2.out (by as_aux_lemma => kernel_rfl) rfl (by as_aux_lemma => kernel_rfl) ?_)
    refine bodyPost_ret (results_rqparse (setRow_heap _ _ _ _ _ _ HN2.out) rfl rfl) rfl ?_
    exact HE.out _ (below_setRowS HB.out (Nat.le_refl _) _)
  have hd : decide ((2000 : Int) < ((s.length : Nat) : Int)) = false := decide_eq_false (by omega)
  have HNO : Hid (rqpL s = none → ∀ W, Below w.heap.size w W → QPP w s (.returned (.tuple #[.agg #[.int .i64 0, .slice none 0 0, .slice none 0 0], .int .i64 3])) W) := fun h W hb => ⟨hb, .inl ⟨by rw [← rqpS_eq]; unfold rqpS; rw [if_neg hlong]; exact h, by rw [if_neg hlong]⟩⟩
  have HYES : Hid (∀ q v0 v1 v2 W, rqpL s = some q → Below w.heap.size w W → QAt W (fun b => w.heap.size ≤ b) q v0 v1 v2 → QPP w s (.returned (.tuple #[.agg #[v0, v1, v2], .int .i64 0])) W) := fun q v0 v1 v2 W h hb hq => ⟨hb, .inr ⟨q, v0, v1, v2, by rw [← rqpS_eq]; unfold rqpS; rw [if_neg hlong]; exact h, rfl, hq⟩⟩
  have HRD : Hid (∀ W, Calls Tryz.prog 71 #[.string (uS s), .int .i64 8] W (RRP 8 W (rreadF 8 s))) := fun W => rread_any 8 (by omega) W s hs
  have HPL : Hid (rqpL s = match rreadF 8 s with | some (q, n) => if n = s.length ∧ okQ q = true then some q else none | none => none) := rfl
  clear hlong
  go_enter Tryz.func56, Tryz.ntmps56
  go_wp2_with fail
  refine (HRD.out _).mono ?_
  rintro e w1 ⟨hb1, hcase⟩
  have hz1 : (w.alloc (.cells #[.int .i64 0, .slice none 0 0, .slice none 0 0] 25)).heap.size = w.heap.size + 1 := by rw [World.size_alloc]
  have hn1 : (w.alloc (.cells #[.int .i64 0, .slice none 0 0, .slice none 0 0] 25)).heap[w.heap.size]? = some (.cells #[.int .i64 0, .slice none 0 0, .slice none 0 0] 25 (0, 0)) := World.alloc_heap_new _ _
  have hb0 : Below w.heap.size w (w.alloc (.cells #[.int .i64 0, .slice none 0 0, .slice none 0 0] 25)) := (Below.refl _ _).alloc (Nat.le_refl _) _
  generalize (w.alloc (.cells #[.int .i64 0, .slice none 0 0, .slice none 0 0] 25)) = w0 at *
  have HB : Hid (Below w.heap.size w w1) := below_next hb0 hb1 (by omega)
  have hn2 : w1.heap[w.heap.size]? = some (.cells #[.int .i64 0, .slice none 0 0, .slice none 0 0] 25 (0, 0)) := (hb1.block _ (by omega)).trans hn1
  have hs1 : w.heap.size + 1 ≤ w1.heap.size := by have := hb1.size; omega
  have HZ0 : Hid (w0.heap.size = w.heap.size + 1) := hz1
  have HN2 := Lib.hid hn2
  clear hn1 hb0 hb1 hz1
  have HN3 : Hid (∀ o, (w1.alloc o).heap[w.heap.size]? = some (.cells #[.int .i64 0, .slice none 0 0, .slice none 0 0] 25 (0, 0))) := fun o => (Below.heap_alloc _ _ _ (by omega)).trans hn2
  have HB3 : Hid (∀ o, Below w.heap.size w (w1.alloc o)) := fun o => HB.out.alloc (by omega) o
  clear hn2
  rcases hcase with ⟨hno, k1, a1, n1, c1, b1, m1, d1, sr, hx1, hx2, rfl⟩ | ⟨x, r, u0, u1, u2, hyes, rfl, hx⟩
  · have HE := Lib.hid (HNO.out (by rw [HPL.out, hno]))
    clear hno HYES HNO HPL
    go_wp2_with (refine wpList_store_rowTo rfl 25 _ _ rfl rfl w.heap.size #[.int .i64 0, .slice none 0 0, .slice none 0 0] (by as_aux_lemma => kernel_rfl) (by as_aux_lemma => kernel_rfl) 25 #[.int .i64 0, .slice none 0 0, .slice none 0 0] (HN3.out _) (by as_aux_lemma => kernel_rfl) rfl (by as_aux_lemma => kernel_rfl) ?_)
    refine bodyPost_ret (results_rqparse (setRow_heap _ _ _ _ _ _ (HN3.out _)) rfl rfl) rfl ?_
    exact HE.out _ (below_setRowS (HB3.out _) (Nat.le_refl _) _)
  · obtain ⟨p1, n1, c1, p2, n2, c2, rfl, rfl, rfl⟩ := hx.form
    have HX := Lib.hid hx
    clear hx
    by_cases hr : r = s.length
    · have HOK : Hid (∀ W, Below w1.heap.size w1 W → Calls Tryz.prog 37 #[.agg #[.int .i64 x.k, .slice p1 n1 c1, .slice p2 n2 c2]] W fun e w' => e = .returned (.bool (okQ x)) ∧ Below W.heap.size W w') := fun W hW => rok_any W _ x _ _ _ (HX.out.kept hW)
      have HPL2 : Hid (rqpL s = if okQ x then some x else none) := by
        show _ = _
        rw [HPL.out, hyes]
        simp only [hr, true_and]
      have hne : ((r : Int) != ((s.length : Nat) : Int)) = false := by rw [hr]; simp
      clear hyes HPL hr
      generalize x.k = xk at *
      have HA : Hid (∀ o, Below w1.heap.size w1 (w1.alloc o)) := fun o => (Below.refl _ _).alloc (Nat.le_refl _) _
      have hnew := World.alloc_heap_new w1 (.cells #[.int .i64 xk, .slice p1 n1 c1, .slice p2 n2 c2] 25)
      have hszn := World.size_alloc w1 (.cells #[.int .i64 xk, .slice p1 n1 c1, .slice p2 n2 c2] 25)
      have HNEW := Lib.hid hnew
      have HSZN := Lib.hid hszn
      clear hnew hszn
      cases hok : okQ x with
      | false =>
        have HE := Lib.hid (HNO.out (by rw [HPL2.out, hok]; rfl))
        rw [hok] at HOK
        clear HYES HNO HPL2 hok
        go_wp2_with (first
          | (go_at_call 37; refine (HOK.out _ (HA.out _)).mono ?_; rintro e w4 ⟨rfl, hb4⟩; have HN4 : Hid (w4.heap[w.heap.size]? = some (.cells #[.int .i64 0, .slice none 0 0, .slice none 0 0] 25 (0, 0))) := (hb4.block _ (by have := HSZN.out; omega)).trans (HN3.out _); have HB4 : Hid (Below w.heap.size w w4) := below_next (HB3.out _) hb4 (HB3.out _).size; clear hb4)
          | (refine wpList_store_rowTo rfl 25 _ _ rfl rfl w.heap.size #[.int .i64 0, .slice none 0 0, .slice none 0 0] (by as_aux_lemma => kernel_rfl) (by as_aux_lemma => kernel_rfl) 25 #[.int .i64 0, .slice none 0 0, .slice none 0 0] HN4.out (by as_aux_lemma => kernel_rfl) rfl (by as_aux_lemma => kernel_rfl) ?_))
        refine bodyPost_ret (results_rqparse (setRow_heap _ _ _ _ _ _ HN4.out) rfl rfl) rfl ?_
        exact HE.out _ (below_setRowS HB4.out (Nat.le_refl _) _)
      | true =>
        have HE := Lib.hid (fun v0 v1 v2 W => HYES.out x v0 v1 v2 W (by rw [HPL2.out, hok]; rfl))
        rw [hok] at HOK
        clear HYES HNO HPL2 hok
        go_wp2_with (first
          | (go_at_call 37; refine (HOK.out _ (HA.out _)).mono ?_; rintro e w4 ⟨rfl, hb4⟩; have HN4 : Hid (w4.heap[w.heap.size]? = some (.cells #[.int .i64 0, .slice none 0 0, .slice none 0 0] 25 (0, 0))) := (hb4.block _ (by have := HSZN.out; omega)).trans (HN3.out _); have HB4 : Hid (Below w.heap.size w w4) := below_next (HB3.out _) hb4 (HB3.out _).size; have HX4 := Lib.hid ((HX.out.kept (HA.out (.cells #[.int .i64 xk, .slice p1 n1 c1, .slice p2 n2 c2] 25))).kept hb4); have g4 := (hb4.block w1.heap.size (by have := HSZN.out; omega)).trans HNEW.out; have d0 := cell_of_row w4 _ 0 _ _ _ g4; have d1 := cell_of_row w4 _ 1 _ _ _ g4; have d2 := cell_of_row w4 _ 2 _ _ _ g4; simp only [List.getElem?_toArray, List.getElem?_cons_succ, List.getElem?_cons_zero] at d0 d1 d2; clear hb4 g4)
          | (refine wpList_store_rowTo rfl 25 _ _ rfl rfl w.heap.size #[.int .i64 xk, .slice p1 n1 c1, .slice p2 n2 c2] (by as_aux_lemma => kernel_rfl) (by as_aux_lemma => kernel_rfl) 25 #[.int .i64 0, .slice none 0 0, .slice none 0 0] HN4.out (by as_aux_lemma => kernel_rfl) rfl (by as_aux_lemma => kernel_rfl) ?_))
        refine bodyPost_ret (results_rqparse (setRow_heap _ _ _ _ _ _ HN4.out) rfl rfl) rfl ?_
        refine HE.out _ _ _ _ (below_setRowS HB4.out (Nat.le_refl _) _) (HX4.out.move (fun b _ hg => setRow_other _ _ _ _ ?_) (fun b _ hg => ?_))
        · have := HZ0.out; omega
        · have := HZ0.out; omega
    · have HE := Lib.hid (HNO.out (by rw [HPL.out, hyes]; simp only [hr, false_and, if_false]))
      have hne : ((r : Int) != ((s.length : Nat) : Int)) = true := by rw [bne_iff_ne]; omega
      clear hyes HYES HNO HPL hr
      generalize x.k = xk at *
      go_wp2_with (refine wpList_store_rowTo rfl 25 _ _ rfl rfl w.heap.size #[.int .i64 0, .slice none 0 0, .slice none 0 0] (by as_aux_lemma => kernel_rfl) (by as_aux_lemma => kernel_rfl) 25 #[.int .i64 0, .slice none 0 0, .slice none 0 0] (HN3.out _) (by as_aux_lemma => kernel_rfl) rfl (by as_aux_lemma => kernel_rfl) ?_)
      refine bodyPost_ret (results_rqparse (setRow_heap _ _ _ _ _ _ (HN3.out _)) rfl rfl) rfl ?_
      exact HE.out _ (below_setRowS (HB3.out _) (Nat.le_refl _) _)
end Go.Proofs.YtdcobmoeligdkaaGreatDoor
