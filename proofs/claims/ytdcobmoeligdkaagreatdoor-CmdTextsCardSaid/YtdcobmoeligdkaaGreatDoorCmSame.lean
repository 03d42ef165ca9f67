/-
  cmd.same: of any two commands.
-/
import Derived.Test.YtdcobmoeligdkaaGreatDoorCmParse
import Derived.Test.YtdcobmoeligdkaaGreatDoorCmQSame
namespace Go.Proofs.YtdcobmoeligdkaaGreatDoor
open Go.RowKit Go.Shelf

theorem u8_eq {L M : List UInt8} (hl : L.length = M.length) (h : ∀ k, k < L.length → L.getD k 0 = M.getD k 0) : L = M := by
  apply List.ext_getElem hl
  intro i h1 h2
  have := h i h1
  rw [List.getD_eq_getElem?_getD, List.getD_eq_getElem?_getD, List.getElem?_eq_getElem h1, List.getElem?_eq_getElem h2] at this
  exact this
set_option maxRecDepth 100000 in
set_option maxHeartbeats 1000000 in
theorem equal8_any (w : World) (a b : Option Addr) (ca cb : Nat) (L M : List UInt8) (hn : L.length ≤ 1000000) (hn2 : M.length ≤ 100000000000) (ha : Row w a L.length (bV L)) (hb : Row w b M.length (bV M)) :
    Calls Tryz.prog 33 #[.slice a L.length ca, .slice b M.length cb] w fun e w' => e = .returned (.bool (decide (L = M))) ∧ ∃ k, w' = w.drewN k := by
  have hix := run_ix (P := Tryz.prog) 22 (by kernel_rfl) size_u8c a L.length ca ha.at_ .i64
  have hiy := run_ix (P := Tryz.prog) 22 (by kernel_rfl) size_u8c b M.length cb hb.at_ .i64
  have HA := Lib.hid ha
  have HB := Lib.hid hb
  clear ha hb
  by_cases hl : L.length = M.length
  · have t0 : (L.length : Int) = (M.length : Int) := by omega
    have HL := Lib.hid hl
    have HX := Lib.hid (@u8_eq L M hl)
    generalize hbb : decide (L = M) = bb
    have HBB := Lib.hid hbb
    clear hbb
    rw [← hl] at hiy HB hn2 ⊢
    clear hl t0
    go_enter Tryz.func33, Tryz.ntmps33
    go_wp2
    go_loopw [13] (fun i wr => ∃ k : Nat, k ≤ L.length ∧ i = .int .i64 k ∧ (∀ q, q < k → L.getD q 0 = M.getD q 0) ∧ ∃ j, wr = w.drewN j) (fun i _ => L.length - (intOf i).toNat)
    case atStart => exact ⟨0, Nat.zero_le _, rfl, fun q hq => by omega, 0, rfl⟩
    case round =>
      obtain ⟨k, hk, rfl, hall, j, rfl⟩ := hrel
      have HALL := Lib.hid hall
      clear hall
      by_cases hlt : k < L.length
      · have d1 : w.cell? ⟨bOf a, oOf a + k, none⟩ = some (.int .u8 ((L.getD k 0).toNat : Int)) := HA.out.cell k hlt
        have d2 : w.cell? ⟨bOf b, oOf b + k, none⟩ = some (.int .u8 ((M.getD k 0).toNat : Int)) := HB.out.cell k hlt
        by_cases he : L.getD k 0 = M.getD k 0
        · rw [he] at d1
          have HE := Lib.hid he
          clear he
          obtain ⟨x, hx⟩ : ∃ x, x = (M.getD k 0).toNat := ⟨_, rfl⟩
          rw [← hx] at d1 d2
          clear hx
          go_wp2
          go_quiet (fail)
          go_wp2
          go_roundw
          case rel => exact ⟨k + 1, by omega, by go_num, fun q hq => by
            by_cases e : q < k
            · exact HALL.out q e
            · obtain rfl : q = k := by omega
              exact HE.out, _, rfl⟩
          case measure => simp [intOf]; omega
        · have hne : (((L.getD k 0).toNat : Int) != ((M.getD k 0).toNat : Int)) = true := by
            rw [bne_iff_ne]; intro e
            exact he (UInt8.toNat_inj.1 (by omega))
          have HNE := Lib.hid he
          have hfin : bb = false := by
            rw [← HBB.out, decide_eq_false_iff_not]
            intro e
            exact HNE.out (by rw [e])
          subst hfin
          clear he
          generalize (L.getD k 0).toNat = x at *
          generalize (M.getD k 0).toNat = y at *
          go_wp2
          go_quiet (fail)
          go_wp2
          go_ret
          exact ⟨rfl, _, World.drewN_drewN _ _ _⟩
      · obtain rfl : k = L.length := by omega
        have hd : decide ((L.length : Int) < L.length) = false := by simp
        have hfin : bb = true := by
          rw [← HBB.out, decide_eq_true_eq]
          exact HX.out HALL.out
        subst hfin
        go_wp2
        go_ret
        exact ⟨rfl, _, rfl⟩
  · have h1 : ((L.length : Int) != (M.length : Int)) = true := by rw [bne_iff_ne]; omega
    have hf : decide (L = M) = false := by rw [decide_eq_false_iff_not]; intro e; rw [e] at hl; exact hl rfl
    rw [hf]
    clear hl hf
    go_enter Tryz.func33, Tryz.ntmps33
    go_wp2
    go_ret
    exact ⟨rfl, 0, rfl⟩
/-- whether two commands are -/
def SameP (w : World) (p : Prop) (e : Ending) (w' : World) : Prop := ∃ b : Bool, e = .returned (.bool b) ∧ (b = true ↔ p) ∧ Below w.heap.size w w'
/-- a command, as a value -/
def cmdI (k n m c : Int) (v q1 q2 q3 : Value) : Value := .agg #[.int .i64 k, v, .int .i64 n, .int .i64 m, .int .i64 c, q1, q2, q3]
theorem cmdV_I (st : PCmd) (v q1 q2 q3 : Value) : cmdV st v q1 q2 q3 = cmdI (st.kind : Int) (st.n : Int) (st.m : Int) (st.k : Int) v q1 q2 q3 := rfl
set_option maxRecDepth 100000 in
set_option maxHeartbeats 4000000 in
theorem same_any (w : World) (k1 n1 m1 c1 k2 n2 m2 c2 : Int) (a b : Option Addr) (ca cb : Nat) (L M : List UInt8) (hn : L.length ≤ 1000000) (hn2 : M.length ≤ 1000000) (ha : Row w a L.length (bV L)) (hb : Row w b M.length (bV M))
    (G G' : Nat → Prop) (qa qb : QT) (u0 u1 u2 v0 v1 v2 : Value) (hqa : QAt w G qa u0 u1 u2) (hqb : QAt w G' qb v0 v1 v2) :
    Calls Tryz.prog 16 #[cmdI k1 n1 m1 c1 (.slice a L.length ca) u0 u1 u2, cmdI k2 n2 m2 c2 (.slice b M.length cb) v0 v1 v2] w (SameP w (k1 = k2 ∧ L = M ∧ n1 = n2 ∧ m1 = m2 ∧ c1 = c2 ∧ qa = qb)) := by
  have HQS : Hid (∀ W, Below w.heap.size w W → Calls Tryz.prog 34 #[.agg #[u0, u1, u2], .agg #[v0, v1, v2]] W (SP W qa qb)) := fun W hW => qsame_any qa W G G' qb _ _ _ _ _ _ (hqa.kept hW) (hqb.kept hW)
  obtain ⟨x1, x2, x3, x4, x5, x6, rfl, rfl, rfl⟩ := hqa.form
  obtain ⟨y1, y2, y3, y4, y5, y6, rfl, rfl, rfl⟩ := hqb.form
  clear hqa hqb
  have hqe : (qa = qb) = (qa = qb) := rfl
  generalize hx0 : qa.k = x0 at *
  generalize hy0 : qb.k = y0 at *
  clear hx0 hy0 hqe
  have hbb : Below w.heap.size w ((w.alloc (.cells #[.int .i64 k1, .slice a L.length ca, .int .i64 n1, .int .i64 m1, .int .i64 c1, .int .i64 x0, .slice x1 x2 x3, .slice x4 x5 x6] 27)).alloc (.cells #[.int .i64 k2, .slice b M.length cb, .int .i64 n2, .int .i64 m2, .int .i64 c2, .int .i64 y0, .slice y1 y2 y3, .slice y4 y5 y6] 27)) := ((Below.refl _ _).alloc (Nat.le_refl _) _).alloc (by simp) _
  have HEQ := Lib.hid (fun (W : World) (h : Below w.heap.size w W) => (equal8_any W a b ca cb L M hn (by omega) (ha.kept h) (hb.kept h)).mono (fun e w' (q : e = .returned (.bool (decide (L = M))) ∧ ∃ k, w' = W.drewN k) => (show e = .returned (.bool (decide (L = M))) ∧ Below W.heap.size W w' from ⟨q.1, by obtain ⟨k, hk⟩ := q.2; rw [hk]; exact below_drewN (Below.refl _ _) k⟩)))
  have h1 : ((w.alloc (.cells #[.int .i64 k1, .slice a L.length ca, .int .i64 n1, .int .i64 m1, .int .i64 c1, .int .i64 x0, .slice x1 x2 x3, .slice x4 x5 x6] 27)).alloc (.cells #[.int .i64 k2, .slice b M.length cb, .int .i64 n2, .int .i64 m2, .int .i64 c2, .int .i64 y0, .slice y1 y2 y3, .slice y4 y5 y6] 27)).heap[w.heap.size]? = some (.cells #[.int .i64 k1, .slice a L.length ca, .int .i64 n1, .int .i64 m1, .int .i64 c1, .int .i64 x0, .slice x1 x2 x3, .slice x4 x5 x6] 27 (0, 0)) := (Below.heap_alloc _ _ _ (by rw [World.size_alloc]; omega)).trans (World.alloc_heap_new w _)
  have h2 : ((w.alloc (.cells #[.int .i64 k1, .slice a L.length ca, .int .i64 n1, .int .i64 m1, .int .i64 c1, .int .i64 x0, .slice x1 x2 x3, .slice x4 x5 x6] 27)).alloc (.cells #[.int .i64 k2, .slice b M.length cb, .int .i64 n2, .int .i64 m2, .int .i64 c2, .int .i64 y0, .slice y1 y2 y3, .slice y4 y5 y6] 27)).heap[w.heap.size + 1]? = some (.cells #[.int .i64 k2, .slice b M.length cb, .int .i64 n2, .int .i64 m2, .int .i64 c2, .int .i64 y0, .slice y1 y2 y3, .slice y4 y5 y6] 27 (0, 0)) := by
    have := World.alloc_heap_new (w.alloc (.cells #[.int .i64 k1, .slice a L.length ca, .int .i64 n1, .int .i64 m1, .int .i64 c1, .int .i64 x0, .slice x1 x2 x3, .slice x4 x5 x6] 27)) (.cells #[.int .i64 k2, .slice b M.length cb, .int .i64 n2, .int .i64 m2, .int .i64 c2, .int .i64 y0, .slice y1 y2 y3, .slice y4 y5 y6] 27)
    rwa [World.size_alloc] at this
  have H1 := Lib.hid h1
  have H2 := Lib.hid h2
  clear h1 h2
  have HB := Lib.hid hbb
  have HY : Hid (∀ (x : Bool) W, (x = true ↔ (k1 = k2 ∧ L = M ∧ n1 = n2 ∧ m1 = m2 ∧ c1 = c2 ∧ qa = qb)) → Below w.heap.size w W → SameP w (k1 = k2 ∧ L = M ∧ n1 = n2 ∧ m1 = m2 ∧ c1 = c2 ∧ qa = qb) (.returned (.bool x)) W) := fun x W hx hW => ⟨x, rfl, hx, hW⟩
  have hfa : ∀ (p : Prop), ¬ p → ((false = true) ↔ p) := fun p hp => ⟨fun h => Bool.noConfusion h, fun h => absurd h hp⟩
  clear ha hb hbb
  unfold cmdI
  by_cases hk : k1 = k2
  rotate_left
  · have he : (k1 == k2) = false := by rw [beq_eq_false_iff_ne]; exact hk
    have HF : Hid (∀ W, Below w.heap.size w W → SameP w (k1 = k2 ∧ L = M ∧ n1 = n2 ∧ m1 = m2 ∧ c1 = c2 ∧ qa = qb) (.returned (.bool false)) W) := fun W hW => HY.out false W (hfa _ (fun h => hk h.1)) hW
    clear HY hk hfa HQS
    go_enter Tryz.func16, Tryz.ntmps16
    go_wp2_with (first
      | (go_at_call 33; refine (HEQ.out _ HB.out).mono ?_; rintro e w3 ⟨rfl, hb3⟩; have HB3 := Lib.hid hb3; have r1 := (hb3.block _ (Array.getElem?_eq_some_iff.1 H1.out).1).trans H1.out; have r2 := (hb3.block _ (Array.getElem?_eq_some_iff.1 H2.out).1).trans H2.out; have a2 := cell_of_row w3 _ 2 _ _ _ r1; have b2 := cell_of_row w3 _ 2 _ _ _ r2; have a3 := cell_of_row w3 _ 3 _ _ _ r1; have b3 := cell_of_row w3 _ 3 _ _ _ r2; have a4 := cell_of_row w3 _ 4 _ _ _ r1; have b4 := cell_of_row w3 _ 4 _ _ _ r2; have a5 := cell_of_row w3 _ 5 _ _ _ r1; have b5 := cell_of_row w3 _ 5 _ _ _ r2; have a6 := cell_of_row w3 _ 6 _ _ _ r1; have b6 := cell_of_row w3 _ 6 _ _ _ r2; have a7 := cell_of_row w3 _ 7 _ _ _ r1; have b7 := cell_of_row w3 _ 7 _ _ _ r2; simp only [List.getElem?_toArray, List.getElem?_cons_succ, List.getElem?_cons_zero] at a2 b2 a3 b3 a4 b4 a5 b5 a6 b6 a7 b7; clear r1 r2 hb3))
    go_ret
    exact HF.out _ HB.out
  subst hk
  by_cases hk : L = M
  rotate_left
  · rw [decide_eq_false hk] at HEQ
    have HF : Hid (∀ W, Below w.heap.size w W → SameP w (k1 = k1 ∧ L = M ∧ n1 = n2 ∧ m1 = m2 ∧ c1 = c2 ∧ qa = qb) (.returned (.bool false)) W) := fun W hW => HY.out false W (hfa _ (fun h => hk h.2.1)) hW
    clear HY hk hfa HQS
    go_enter Tryz.func16, Tryz.ntmps16
    go_wp2_with (first
      | (go_at_call 33; refine (HEQ.out _ HB.out).mono ?_; rintro e w3 ⟨rfl, hb3⟩; have HB3 := Lib.hid hb3; have r1 := (hb3.block _ (Array.getElem?_eq_some_iff.1 H1.out).1).trans H1.out; have r2 := (hb3.block _ (Array.getElem?_eq_some_iff.1 H2.out).1).trans H2.out; have a2 := cell_of_row w3 _ 2 _ _ _ r1; have b2 := cell_of_row w3 _ 2 _ _ _ r2; have a3 := cell_of_row w3 _ 3 _ _ _ r1; have b3 := cell_of_row w3 _ 3 _ _ _ r2; have a4 := cell_of_row w3 _ 4 _ _ _ r1; have b4 := cell_of_row w3 _ 4 _ _ _ r2; have a5 := cell_of_row w3 _ 5 _ _ _ r1; have b5 := cell_of_row w3 _ 5 _ _ _ r2; have a6 := cell_of_row w3 _ 6 _ _ _ r1; have b6 := cell_of_row w3 _ 6 _ _ _ r2; have a7 := cell_of_row w3 _ 7 _ _ _ r1; have b7 := cell_of_row w3 _ 7 _ _ _ r2; simp only [List.getElem?_toArray, List.getElem?_cons_succ, List.getElem?_cons_zero] at a2 b2 a3 b3 a4 b4 a5 b5 a6 b6 a7 b7; clear r1 r2 hb3))
    go_ret
    exact HF.out _ (below_next HB.out HB3.out HB.out.size)
  rw [decide_eq_true hk] at HEQ
  have HL := Lib.hid hk
  clear hk
  by_cases hk : n1 = n2
  rotate_left
  · have he : (n1 == n2) = false := by rw [beq_eq_false_iff_ne]; exact hk
    have HF : Hid (∀ W, Below w.heap.size w W → SameP w (k1 = k1 ∧ L = M ∧ n1 = n2 ∧ m1 = m2 ∧ c1 = c2 ∧ qa = qb) (.returned (.bool false)) W) := fun W hW => HY.out false W (hfa _ (fun h => hk h.2.2.1)) hW
    clear HY hk hfa HQS
    go_enter Tryz.func16, Tryz.ntmps16
    go_wp2_with (first
      | (go_at_call 33; refine (HEQ.out _ HB.out).mono ?_; rintro e w3 ⟨rfl, hb3⟩; have HB3 := Lib.hid hb3; have r1 := (hb3.block _ (Array.getElem?_eq_some_iff.1 H1.out).1).trans H1.out; have r2 := (hb3.block _ (Array.getElem?_eq_some_iff.1 H2.out).1).trans H2.out; have a2 := cell_of_row w3 _ 2 _ _ _ r1; have b2 := cell_of_row w3 _ 2 _ _ _ r2; have a3 := cell_of_row w3 _ 3 _ _ _ r1; have b3 := cell_of_row w3 _ 3 _ _ _ r2; have a4 := cell_of_row w3 _ 4 _ _ _ r1; have b4 := cell_of_row w3 _ 4 _ _ _ r2; have a5 := cell_of_row w3 _ 5 _ _ _ r1; have b5 := cell_of_row w3 _ 5 _ _ _ r2; have a6 := cell_of_row w3 _ 6 _ _ _ r1; have b6 := cell_of_row w3 _ 6 _ _ _ r2; have a7 := cell_of_row w3 _ 7 _ _ _ r1; have b7 := cell_of_row w3 _ 7 _ _ _ r2; simp only [List.getElem?_toArray, List.getElem?_cons_succ, List.getElem?_cons_zero] at a2 b2 a3 b3 a4 b4 a5 b5 a6 b6 a7 b7; clear r1 r2 hb3))
    go_ret
    exact HF.out _ (below_next HB.out HB3.out HB.out.size)
  subst hk
  by_cases hk : m1 = m2
  rotate_left
  · have he : (m1 == m2) = false := by rw [beq_eq_false_iff_ne]; exact hk
    have HF : Hid (∀ W, Below w.heap.size w W → SameP w (k1 = k1 ∧ L = M ∧ n1 = n1 ∧ m1 = m2 ∧ c1 = c2 ∧ qa = qb) (.returned (.bool false)) W) := fun W hW => HY.out false W (hfa _ (fun h => hk h.2.2.2.1)) hW
    clear HY hk hfa HQS
    go_enter Tryz.func16, Tryz.ntmps16
    go_wp2_with (first
      | (go_at_call 33; refine (HEQ.out _ HB.out).mono ?_; rintro e w3 ⟨rfl, hb3⟩; have HB3 := Lib.hid hb3; have r1 := (hb3.block _ (Array.getElem?_eq_some_iff.1 H1.out).1).trans H1.out; have r2 := (hb3.block _ (Array.getElem?_eq_some_iff.1 H2.out).1).trans H2.out; have a2 := cell_of_row w3 _ 2 _ _ _ r1; have b2 := cell_of_row w3 _ 2 _ _ _ r2; have a3 := cell_of_row w3 _ 3 _ _ _ r1; have b3 := cell_of_row w3 _ 3 _ _ _ r2; have a4 := cell_of_row w3 _ 4 _ _ _ r1; have b4 := cell_of_row w3 _ 4 _ _ _ r2; have a5 := cell_of_row w3 _ 5 _ _ _ r1; have b5 := cell_of_row w3 _ 5 _ _ _ r2; have a6 := cell_of_row w3 _ 6 _ _ _ r1; have b6 := cell_of_row w3 _ 6 _ _ _ r2; have a7 := cell_of_row w3 _ 7 _ _ _ r1; have b7 := cell_of_row w3 _ 7 _ _ _ r2; simp only [List.getElem?_toArray, List.getElem?_cons_succ, List.getElem?_cons_zero] at a2 b2 a3 b3 a4 b4 a5 b5 a6 b6 a7 b7; clear r1 r2 hb3))
    go_ret
    exact HF.out _ (below_next HB.out HB3.out HB.out.size)
  subst hk
  by_cases hk : c1 = c2
  rotate_left
  · have he : (c1 == c2) = false := by rw [beq_eq_false_iff_ne]; exact hk
    have HF : Hid (∀ W, Below w.heap.size w W → SameP w (k1 = k1 ∧ L = M ∧ n1 = n1 ∧ m1 = m1 ∧ c1 = c2 ∧ qa = qb) (.returned (.bool false)) W) := fun W hW => HY.out false W (hfa _ (fun h => hk h.2.2.2.2.1)) hW
    clear HY hk hfa HQS
    go_enter Tryz.func16, Tryz.ntmps16
    go_wp2_with (first
      | (go_at_call 33; refine (HEQ.out _ HB.out).mono ?_; rintro e w3 ⟨rfl, hb3⟩; have HB3 := Lib.hid hb3; have r1 := (hb3.block _ (Array.getElem?_eq_some_iff.1 H1.out).1).trans H1.out; have r2 := (hb3.block _ (Array.getElem?_eq_some_iff.1 H2.out).1).trans H2.out; have a2 := cell_of_row w3 _ 2 _ _ _ r1; have b2 := cell_of_row w3 _ 2 _ _ _ r2; have a3 := cell_of_row w3 _ 3 _ _ _ r1; have b3 := cell_of_row w3 _ 3 _ _ _ r2; have a4 := cell_of_row w3 _ 4 _ _ _ r1; have b4 := cell_of_row w3 _ 4 _ _ _ r2; have a5 := cell_of_row w3 _ 5 _ _ _ r1; have b5 := cell_of_row w3 _ 5 _ _ _ r2; have a6 := cell_of_row w3 _ 6 _ _ _ r1; have b6 := cell_of_row w3 _ 6 _ _ _ r2; have a7 := cell_of_row w3 _ 7 _ _ _ r1; have b7 := cell_of_row w3 _ 7 _ _ _ r2; simp only [List.getElem?_toArray, List.getElem?_cons_succ, List.getElem?_cons_zero] at a2 b2 a3 b3 a4 b4 a5 b5 a6 b6 a7 b7; clear r1 r2 hb3))
    go_ret
    exact HF.out _ (below_next HB.out HB3.out HB.out.size)
  subst hk
  have HF : Hid (∀ (x : Bool) W, (x = true ↔ qa = qb) → Below w.heap.size w W → SameP w (k1 = k1 ∧ L = M ∧ n1 = n1 ∧ m1 = m1 ∧ c1 = c1 ∧ qa = qb) (.returned (.bool x)) W) := fun x W hx hW => HY.out x W (hx.trans ⟨fun h => ⟨rfl, HL.out, rfl, rfl, rfl, h⟩, fun h => h.2.2.2.2.2⟩) hW
  clear HY HL hfa
  go_enter Tryz.func16, Tryz.ntmps16
  go_wp2_with (first
      | (go_at_call 33; refine (HEQ.out _ HB.out).mono ?_; rintro e w3 ⟨rfl, hb3⟩; have HB3 := Lib.hid hb3; have r1 := (hb3.block _ (Array.getElem?_eq_some_iff.1 H1.out).1).trans H1.out; have r2 := (hb3.block _ (Array.getElem?_eq_some_iff.1 H2.out).1).trans H2.out; have a2 := cell_of_row w3 _ 2 _ _ _ r1; have b2 := cell_of_row w3 _ 2 _ _ _ r2; have a3 := cell_of_row w3 _ 3 _ _ _ r1; have b3 := cell_of_row w3 _ 3 _ _ _ r2; have a4 := cell_of_row w3 _ 4 _ _ _ r1; have b4 := cell_of_row w3 _ 4 _ _ _ r2; have a5 := cell_of_row w3 _ 5 _ _ _ r1; have b5 := cell_of_row w3 _ 5 _ _ _ r2; have a6 := cell_of_row w3 _ 6 _ _ _ r1; have b6 := cell_of_row w3 _ 6 _ _ _ r2; have a7 := cell_of_row w3 _ 7 _ _ _ r1; have b7 := cell_of_row w3 _ 7 _ _ _ r2; simp only [List.getElem?_toArray, List.getElem?_cons_succ, List.getElem?_cons_zero] at a2 b2 a3 b3 a4 b4 a5 b5 a6 b6 a7 b7; clear r1 r2 hb3)
      | (go_at_call 34; refine (HQS.out _ (below_next HB.out HB3.out HB.out.size)).mono ?_; rintro e w4 ⟨bq, rfl, hbq, hb4⟩; have HBQ := Lib.hid hbq; have HB4 := Lib.hid hb4; clear hbq hb4))
  go_ret
  exact HF.out _ _ HBQ.out (below_next (below_next HB.out HB3.out HB.out.size) HB4.out (below_next HB.out HB3.out HB.out.size).size)
end Go.Proofs.YtdcobmoeligdkaaGreatDoor
