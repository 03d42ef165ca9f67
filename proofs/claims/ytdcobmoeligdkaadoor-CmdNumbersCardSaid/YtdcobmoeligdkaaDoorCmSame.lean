/-
  cmd.same: of commands without queries.
-/
import Derived.Test.YtdcobmoeligdkaaDoorCmParse
namespace Go.Proofs.YtdcobmoeligdkaaDoor
open Go.RowKit Go.Shelf

theorem size_u8c (w : World) : (sizeOf (Tryd.prog.elem 22)).run Tryd.prog w = .ok 1 w := by kernel_rfl
theorem u8_eq {L M : List UInt8} (hl : L.length = M.length) (h : ∀ k, k < L.length → L.getD k 0 = M.getD k 0) : L = M := by
  apply List.ext_getElem hl
  intro i h1 h2
  have := h i h1
  rw [List.getD_eq_getElem?_getD, List.getD_eq_getElem?_getD, List.getElem?_eq_getElem h1, List.getElem?_eq_getElem h2] at this
  exact this
set_option maxRecDepth 100000 in
set_option maxHeartbeats 1000000 in
theorem equal8_any (w : World) (a b : Option Addr) (ca cb : Nat) (L M : List UInt8) (hn : L.length ≤ 1000000) (hn2 : M.length ≤ 100000000000) (ha : Row w a L.length (bV L)) (hb : Row w b M.length (bV M)) :
    Calls Tryd.prog 42 #[.slice a L.length ca, .slice b M.length cb] w fun e w' => e = .returned (.bool (decide (L = M))) ∧ ∃ k, w' = w.drewN k := by
  have hix := run_ix (P := Tryd.prog) 22 (by kernel_rfl) size_u8c a L.length ca ha.at_ .i64
  have hiy := run_ix (P := Tryd.prog) 22 (by kernel_rfl) size_u8c b M.length cb hb.at_ .i64
  have HA := Lib.hid ha
  have HB := Lib.hid hb
  clear ha hb
  by_cases hl : L.length = M.length
  · have t0 : (L.length : Int) = (M.length : Int) := by omega
    have HL := Lib.hid hl
    have HX := Lib.hid (@u8_eq L M hl)
    generalize hbb : decide (L = M) = bb
    have HBB := Lib.hid hbb
    clear hbb
    rw [← hl] at hiy HB hn2 ⊢
    clear hl t0
    go_enter Tryd.func42, Tryd.ntmps42
    go_wp2
    go_loopw [13] (fun i wr => ∃ k : Nat, k ≤ L.length ∧ i = .int .i64 k ∧ (∀ q, q < k → L.getD q 0 = M.getD q 0) ∧ ∃ j, wr = w.drewN j) (fun i _ => L.length - (intOf i).toNat)
    case atStart => exact ⟨0, Nat.zero_le _, rfl, fun q hq => by omega, 0, rfl⟩
    case round =>
      obtain ⟨k, hk, rfl, hall, j, rfl⟩ := hrel
      have HALL := Lib.hid hall
      clear hall
      by_cases hlt : k < L.length
      · have d1 : w.cell? ⟨bOf a, oOf a + k, none⟩ = some (.int .u8 ((L.getD k 0).toNat : Int)) := HA.out.cell k hlt
        have d2 : w.cell? ⟨bOf b, oOf b + k, none⟩ = some (.int .u8 ((M.getD k 0).toNat : Int)) := HB.out.cell k hlt
        by_cases he : L.getD k 0 = M.getD k 0
        · rw [he] at d1
          have HE := Lib.hid he
          clear he
          obtain ⟨x, hx⟩ : ∃ x, x = (M.getD k 0).toNat := ⟨_, rfl⟩
          rw [← hx] at d1 d2
          clear hx
          go_wp2
          go_quiet (fail)
          go_wp2
          go_roundw
          case rel => exact ⟨k + 1, by omega, by go_num, fun q hq => by
            by_cases e : q < k
            · exact HALL.out q e
            · obtain rfl : q = k := by omega
              exact HE.out, _, rfl⟩
          case measure => simp [intOf]; omega
        · have hne : (((L.getD k 0).toNat : Int) != ((M.getD k 0).toNat : Int)) = true := by
            rw [bne_iff_ne]; intro e
            exact he (UInt8.toNat_inj.1 (by omega))
          have HNE := Lib.hid he
          have hfin : bb = false := by
            rw [← HBB.out, decide_eq_false_iff_not]
            intro e
            exact HNE.out (by rw [e])
          subst hfin
          clear he
          generalize (L.getD k 0).toNat = x at *
          generalize (M.getD k 0).toNat = y at *
          go_wp2
          go_quiet (fail)
          go_wp2
          go_ret
          exact ⟨rfl, _, World.drewN_drewN _ _ _⟩
      · obtain rfl : k = L.length := by omega
        have hd : decide ((L.length : Int) < L.length) = false := by simp
        have hfin : bb = true := by
          rw [← HBB.out, decide_eq_true_eq]
          exact HX.out HALL.out
        subst hfin
        go_wp2
        go_ret
        exact ⟨rfl, _, rfl⟩
  · have h1 : ((L.length : Int) != (M.length : Int)) = true := by rw [bne_iff_ne]; omega
    have hf : decide (L = M) = false := by rw [decide_eq_false_iff_not]; intro e; rw [e] at hl; exact hl rfl
    rw [hf]
    clear hl hf
    go_enter Tryd.func42, Tryd.ntmps42
    go_wp2
    go_ret
    exact ⟨rfl, 0, rfl⟩
def qZ : Value := .agg #[.int .i64 0, .slice none 0 0, .slice none 0 0]
set_option maxRecDepth 100000 in
set_option maxHeartbeats 1000000 in
theorem qsame0 (w : World) : Calls Tryd.prog 43 #[.agg #[.int .i64 0, .slice none 0 0, .slice none 0 0], .agg #[.int .i64 0, .slice none 0 0, .slice none 0 0]] w fun e w' => e = .returned (.bool true) ∧ Below w.heap.size w w' := by
  have HE : Hid (∀ W : World, Calls Tryd.prog 57 #[.slice none 0 0, .slice none 0 0] W fun e w' => e = .returned (.bool true) ∧ W = w') := fun W => by
    refine (Tryd.bytes_Equal_all none none 0 0 0 0 [] [] W rfl rfl ?_ ?_).mono ?_
    · exact Lib.BytesIn.nil _ _ _
    · exact Lib.BytesIn.nil _ _ _
    · rintro e w' ⟨rfl, hw⟩
      exact ⟨rfl, hw.symm⟩
  have HB : Hid (Below w.heap.size w ((w.alloc (.cells #[.int .i64 0, .slice none 0 0, .slice none 0 0] 29)).alloc (.cells #[.int .i64 0, .slice none 0 0, .slice none 0 0] 29))) := ((Below.refl _ _).alloc (Nat.le_refl _) _).alloc (by simp) _
  go_enter Tryd.func43, Tryd.ntmps43
  go_wp2_with (go_at_call 57; refine (HE.out _).mono ?_; rintro e w4 ⟨rfl, rfl⟩)
  generalize ((w.alloc (.cells #[.int .i64 0, .slice none 0 0, .slice none 0 0] 29)).alloc (.cells #[.int .i64 0, .slice none 0 0, .slice none 0 0] 29)) = w2 at *
  go_loopw [31] (fun i wr => i = .int .i64 0 ∧ wr = w2) (fun _ _ => 0)
  case atStart => exact ⟨rfl, rfl⟩
  case round =>
    obtain ⟨rfl, rfl⟩ := hrel
    go_wp2
    go_ret
    exact ⟨rfl, HB.out⟩
/-- a command without a query, as a value -/
def cmdI (k n m c : Int) (v : Value) : Value := .agg #[.int .i64 k, v, .int .i64 n, .int .i64 m, .int .i64 c, .int .i64 0, .slice none 0 0, .slice none 0 0]
theorem cmdV_I (st : PCmd) (v : Value) : cmdV st v = cmdI (st.kind : Int) (st.n : Int) (st.m : Int) (st.k : Int) v := rfl
set_option maxRecDepth 100000 in
set_option maxHeartbeats 2000000 in
theorem same_any (w : World) (k1 n1 m1 c1 k2 n2 m2 c2 : Int) (a b : Option Addr) (ca cb : Nat) (L M : List UInt8) (hn : L.length ≤ 1000000) (hn2 : M.length ≤ 1000000) (ha : Row w a L.length (bV L)) (hb : Row w b M.length (bV M)) :
    Calls Tryd.prog 23 #[cmdI k1 n1 m1 c1 (.slice a L.length ca), cmdI k2 n2 m2 c2 (.slice b M.length cb)] w fun e w' => e = .returned (.bool (decide (k1 = k2 ∧ L = M ∧ n1 = n2 ∧ m1 = m2 ∧ c1 = c2))) ∧ Below w.heap.size w w' := by
  have hbb : Below w.heap.size w ((w.alloc (.cells #[.int .i64 k1, .slice a L.length ca, .int .i64 n1, .int .i64 m1, .int .i64 c1, .int .i64 0, .slice none 0 0, .slice none 0 0] 31)).alloc (.cells #[.int .i64 k2, .slice b M.length cb, .int .i64 n2, .int .i64 m2, .int .i64 c2, .int .i64 0, .slice none 0 0, .slice none 0 0] 31)) := ((Below.refl _ _).alloc (Nat.le_refl _) _).alloc (by simp) _
  have HEQ := Lib.hid (fun (W : World) (h : Below w.heap.size w W) => (equal8_any W a b ca cb L M hn (by omega) (ha.kept h) (hb.kept h)).mono (fun e w' (q : e = .returned (.bool (decide (L = M))) ∧ ∃ k, w' = W.drewN k) => (show e = .returned (.bool (decide (L = M))) ∧ Below W.heap.size W w' from ⟨q.1, by obtain ⟨k, hk⟩ := q.2; rw [hk]; exact below_drewN (Below.refl _ _) k⟩)))
  have h1 : ((w.alloc (.cells #[.int .i64 k1, .slice a L.length ca, .int .i64 n1, .int .i64 m1, .int .i64 c1, .int .i64 0, .slice none 0 0, .slice none 0 0] 31)).alloc (.cells #[.int .i64 k2, .slice b M.length cb, .int .i64 n2, .int .i64 m2, .int .i64 c2, .int .i64 0, .slice none 0 0, .slice none 0 0] 31)).heap[w.heap.size]? = some (.cells #[.int .i64 k1, .slice a L.length ca, .int .i64 n1, .int .i64 m1, .int .i64 c1, .int .i64 0, .slice none 0 0, .slice none 0 0] 31 (0, 0)) := (Below.heap_alloc _ _ _ (by rw [World.size_alloc]; omega)).trans (World.alloc_heap_new w _)
  have h2 : ((w.alloc (.cells #[.int .i64 k1, .slice a L.length ca, .int .i64 n1, .int .i64 m1, .int .i64 c1, .int .i64 0, .slice none 0 0, .slice none 0 0] 31)).alloc (.cells #[.int .i64 k2, .slice b M.length cb, .int .i64 n2, .int .i64 m2, .int .i64 c2, .int .i64 0, .slice none 0 0, .slice none 0 0] 31)).heap[w.heap.size + 1]? = some (.cells #[.int .i64 k2, .slice b M.length cb, .int .i64 n2, .int .i64 m2, .int .i64 c2, .int .i64 0, .slice none 0 0, .slice none 0 0] 31 (0, 0)) := by
    have := World.alloc_heap_new (w.alloc (.cells #[.int .i64 k1, .slice a L.length ca, .int .i64 n1, .int .i64 m1, .int .i64 c1, .int .i64 0, .slice none 0 0, .slice none 0 0] 31)) (.cells #[.int .i64 k2, .slice b M.length cb, .int .i64 n2, .int .i64 m2, .int .i64 c2, .int .i64 0, .slice none 0 0, .slice none 0 0] 31)
    rwa [World.size_alloc] at this
  have H1 := Lib.hid h1
  have H2 := Lib.hid h2
  clear h1 h2
  have HB := Lib.hid hbb
  have HY : Hid (∀ (x : Bool) W, x = decide (k1 = k2 ∧ L = M ∧ n1 = n2 ∧ m1 = m2 ∧ c1 = c2) → Below w.heap.size w W → Ending.returned (.bool x) = .returned (.bool (decide (k1 = k2 ∧ L = M ∧ n1 = n2 ∧ m1 = m2 ∧ c1 = c2))) ∧ Below w.heap.size w W) := fun x W hx hW => ⟨by rw [hx], hW⟩
  clear ha hb hbb
  unfold cmdI
  by_cases hk1 : k1 = k2
  rotate_left
  · have he : (k1 == k2) = false := by rw [beq_eq_false_iff_ne]; exact hk1
    have HF : Hid (∀ W, Below w.heap.size w W → Ending.returned (.bool false) = .returned (.bool (decide (k1 = k2 ∧ L = M ∧ n1 = n2 ∧ m1 = m2 ∧ c1 = c2))) ∧ Below w.heap.size w W) := fun W hW => HY.out false W (by simp [hk1]) hW
    clear HY
    go_enter Tryd.func23, Tryd.ntmps23
    go_wp2_with (first
      | (go_at_call 42; refine (HEQ.out _ HB.out).mono ?_; rintro e w3 ⟨rfl, hb3⟩; have HB3 := Lib.hid hb3; have q1 := (hb3.block _ (Array.getElem?_eq_some_iff.1 H1.out).1).trans H1.out; have q2 := (hb3.block _ (Array.getElem?_eq_some_iff.1 H2.out).1).trans H2.out; have a2 := cell_of_row w3 _ 2 _ _ _ q1; have b2 := cell_of_row w3 _ 2 _ _ _ q2; have a3 := cell_of_row w3 _ 3 _ _ _ q1; have b3 := cell_of_row w3 _ 3 _ _ _ q2; have a4 := cell_of_row w3 _ 4 _ _ _ q1; have b4 := cell_of_row w3 _ 4 _ _ _ q2; have a5 := cell_of_row w3 _ 5 _ _ _ q1; have b5 := cell_of_row w3 _ 5 _ _ _ q2; have a6 := cell_of_row w3 _ 6 _ _ _ q1; have b6 := cell_of_row w3 _ 6 _ _ _ q2; have a7 := cell_of_row w3 _ 7 _ _ _ q1; have b7 := cell_of_row w3 _ 7 _ _ _ q2; clear q1 q2 hb3)
      | (go_at_call 43; refine (qsame0 _).mono ?_; rintro e w4 ⟨rfl, hb4⟩))
    go_ret
    exact HF.out _ HB.out
  subst hk1
  by_cases hL : L = M
  rotate_left
  · have hd : decide (L = M) = false := decide_eq_false hL
    rw [hd] at HEQ
    have HF : Hid (∀ W, Below w.heap.size w W → Ending.returned (.bool false) = .returned (.bool (decide (k1 = k1 ∧ L = M ∧ n1 = n2 ∧ m1 = m2 ∧ c1 = c2))) ∧ Below w.heap.size w W) := fun W hW => HY.out false W (by simp [hL]) hW
    clear HY hL hd
    go_enter Tryd.func23, Tryd.ntmps23
    go_wp2_with (first
      | (go_at_call 42; refine (HEQ.out _ HB.out).mono ?_; rintro e w3 ⟨rfl, hb3⟩; have HB3 := Lib.hid hb3; have q1 := (hb3.block _ (Array.getElem?_eq_some_iff.1 H1.out).1).trans H1.out; have q2 := (hb3.block _ (Array.getElem?_eq_some_iff.1 H2.out).1).trans H2.out; have a2 := cell_of_row w3 _ 2 _ _ _ q1; have b2 := cell_of_row w3 _ 2 _ _ _ q2; have a3 := cell_of_row w3 _ 3 _ _ _ q1; have b3 := cell_of_row w3 _ 3 _ _ _ q2; have a4 := cell_of_row w3 _ 4 _ _ _ q1; have b4 := cell_of_row w3 _ 4 _ _ _ q2; have a5 := cell_of_row w3 _ 5 _ _ _ q1; have b5 := cell_of_row w3 _ 5 _ _ _ q2; have a6 := cell_of_row w3 _ 6 _ _ _ q1; have b6 := cell_of_row w3 _ 6 _ _ _ q2; have a7 := cell_of_row w3 _ 7 _ _ _ q1; have b7 := cell_of_row w3 _ 7 _ _ _ q2; clear q1 q2 hb3)
      | (go_at_call 43; refine (qsame0 _).mono ?_; rintro e w4 ⟨rfl, hb4⟩))
    go_ret
    exact HF.out _ (below_next HB.out HB3.out HB.out.size)
  have hd : decide (L = M) = true := decide_eq_true hL
  rw [hd] at HEQ
  have HL := Lib.hid hL
  clear hL hd
  by_cases hn1 : n1 = n2
  rotate_left
  · have he : (n1 == n2) = false := by rw [beq_eq_false_iff_ne]; exact hn1
    have HF : Hid (∀ W, Below w.heap.size w W → Ending.returned (.bool false) = .returned (.bool (decide (k1 = k1 ∧ L = M ∧ n1 = n2 ∧ m1 = m2 ∧ c1 = c2))) ∧ Below w.heap.size w W) := fun W hW => HY.out false W (by simp [hn1]) hW
    clear HY
    go_enter Tryd.func23, Tryd.ntmps23
    go_wp2_with (first
      | (go_at_call 42; refine (HEQ.out _ HB.out).mono ?_; rintro e w3 ⟨rfl, hb3⟩; have HB3 := Lib.hid hb3; have q1 := (hb3.block _ (Array.getElem?_eq_some_iff.1 H1.out).1).trans H1.out; have q2 := (hb3.block _ (Array.getElem?_eq_some_iff.1 H2.out).1).trans H2.out; have a2 := cell_of_row w3 _ 2 _ _ _ q1; have b2 := cell_of_row w3 _ 2 _ _ _ q2; have a3 := cell_of_row w3 _ 3 _ _ _ q1; have b3 := cell_of_row w3 _ 3 _ _ _ q2; have a4 := cell_of_row w3 _ 4 _ _ _ q1; have b4 := cell_of_row w3 _ 4 _ _ _ q2; have a5 := cell_of_row w3 _ 5 _ _ _ q1; have b5 := cell_of_row w3 _ 5 _ _ _ q2; have a6 := cell_of_row w3 _ 6 _ _ _ q1; have b6 := cell_of_row w3 _ 6 _ _ _ q2; have a7 := cell_of_row w3 _ 7 _ _ _ q1; have b7 := cell_of_row w3 _ 7 _ _ _ q2; clear q1 q2 hb3)
      | (go_at_call 43; refine (qsame0 _).mono ?_; rintro e w4 ⟨rfl, hb4⟩))
    go_ret
    exact HF.out _ (below_next HB.out HB3.out HB.out.size)
  subst hn1
  by_cases hm1 : m1 = m2
  rotate_left
  · have he : (m1 == m2) = false := by rw [beq_eq_false_iff_ne]; exact hm1
    have HF : Hid (∀ W, Below w.heap.size w W → Ending.returned (.bool false) = .returned (.bool (decide (k1 = k1 ∧ L = M ∧ n1 = n1 ∧ m1 = m2 ∧ c1 = c2))) ∧ Below w.heap.size w W) := fun W hW => HY.out false W (by simp [hm1]) hW
    clear HY
    go_enter Tryd.func23, Tryd.ntmps23
    go_wp2_with (first
      | (go_at_call 42; refine (HEQ.out _ HB.out).mono ?_; rintro e w3 ⟨rfl, hb3⟩; have HB3 := Lib.hid hb3; have q1 := (hb3.block _ (Array.getElem?_eq_some_iff.1 H1.out).1).trans H1.out; have q2 := (hb3.block _ (Array.getElem?_eq_some_iff.1 H2.out).1).trans H2.out; have a2 := cell_of_row w3 _ 2 _ _ _ q1; have b2 := cell_of_row w3 _ 2 _ _ _ q2; have a3 := cell_of_row w3 _ 3 _ _ _ q1; have b3 := cell_of_row w3 _ 3 _ _ _ q2; have a4 := cell_of_row w3 _ 4 _ _ _ q1; have b4 := cell_of_row w3 _ 4 _ _ _ q2; have a5 := cell_of_row w3 _ 5 _ _ _ q1; have b5 := cell_of_row w3 _ 5 _ _ _ q2; have a6 := cell_of_row w3 _ 6 _ _ _ q1; have b6 := cell_of_row w3 _ 6 _ _ _ q2; have a7 := cell_of_row w3 _ 7 _ _ _ q1; have b7 := cell_of_row w3 _ 7 _ _ _ q2; clear q1 q2 hb3)
      | (go_at_call 43; refine (qsame0 _).mono ?_; rintro e w4 ⟨rfl, hb4⟩))
    go_ret
    exact HF.out _ (below_next HB.out HB3.out HB.out.size)
  subst hm1
  by_cases hc1 : c1 = c2
  rotate_left
  · have he : (c1 == c2) = false := by rw [beq_eq_false_iff_ne]; exact hc1
    have HF : Hid (∀ W, Below w.heap.size w W → Ending.returned (.bool false) = .returned (.bool (decide (k1 = k1 ∧ L = M ∧ n1 = n1 ∧ m1 = m1 ∧ c1 = c2))) ∧ Below w.heap.size w W) := fun W hW => HY.out false W (by simp [hc1]) hW
    clear HY
    go_enter Tryd.func23, Tryd.ntmps23
    go_wp2_with (first
      | (go_at_call 42; refine (HEQ.out _ HB.out).mono ?_; rintro e w3 ⟨rfl, hb3⟩; have HB3 := Lib.hid hb3; have q1 := (hb3.block _ (Array.getElem?_eq_some_iff.1 H1.out).1).trans H1.out; have q2 := (hb3.block _ (Array.getElem?_eq_some_iff.1 H2.out).1).trans H2.out; have a2 := cell_of_row w3 _ 2 _ _ _ q1; have b2 := cell_of_row w3 _ 2 _ _ _ q2; have a3 := cell_of_row w3 _ 3 _ _ _ q1; have b3 := cell_of_row w3 _ 3 _ _ _ q2; have a4 := cell_of_row w3 _ 4 _ _ _ q1; have b4 := cell_of_row w3 _ 4 _ _ _ q2; have a5 := cell_of_row w3 _ 5 _ _ _ q1; have b5 := cell_of_row w3 _ 5 _ _ _ q2; have a6 := cell_of_row w3 _ 6 _ _ _ q1; have b6 := cell_of_row w3 _ 6 _ _ _ q2; have a7 := cell_of_row w3 _ 7 _ _ _ q1; have b7 := cell_of_row w3 _ 7 _ _ _ q2; clear q1 q2 hb3)
      | (go_at_call 43; refine (qsame0 _).mono ?_; rintro e w4 ⟨rfl, hb4⟩))
    go_ret
    exact HF.out _ (below_next HB.out HB3.out HB.out.size)
  subst hc1
  have HF : Hid (∀ W, Below w.heap.size w W → Ending.returned (.bool true) = .returned (.bool (decide (k1 = k1 ∧ L = M ∧ n1 = n1 ∧ m1 = m1 ∧ c1 = c1))) ∧ Below w.heap.size w W) := fun W hW => HY.out true W (by simp [HL.out]) hW
  clear HY HL
  go_enter Tryd.func23, Tryd.ntmps23
  go_wp2_with (first
    | (go_at_call 42; refine (HEQ.out _ HB.out).mono ?_; rintro e w3 ⟨rfl, hb3⟩; have HB3 := Lib.hid hb3; have q1 := (hb3.block _ (Array.getElem?_eq_some_iff.1 H1.out).1).trans H1.out; have q2 := (hb3.block _ (Array.getElem?_eq_some_iff.1 H2.out).1).trans H2.out; have a2 := cell_of_row w3 _ 2 _ _ _ q1; have b2 := cell_of_row w3 _ 2 _ _ _ q2; have a3 := cell_of_row w3 _ 3 _ _ _ q1; have b3 := cell_of_row w3 _ 3 _ _ _ q2; have a4 := cell_of_row w3 _ 4 _ _ _ q1; have b4 := cell_of_row w3 _ 4 _ _ _ q2; have a5 := cell_of_row w3 _ 5 _ _ _ q1; have b5 := cell_of_row w3 _ 5 _ _ _ q2; have a6 := cell_of_row w3 _ 6 _ _ _ q1; have b6 := cell_of_row w3 _ 6 _ _ _ q2; have a7 := cell_of_row w3 _ 7 _ _ _ q1; have b7 := cell_of_row w3 _ 7 _ _ _ q2; clear q1 q2 hb3)
    | (go_at_call 43; refine (qsame0 _).mono ?_; rintro e w4 ⟨rfl, hb4⟩))
  go_ret
  exact HF.out _ (below_next (below_next HB.out HB3.out HB.out.size) hb4 (below_next HB.out HB3.out HB.out.size).size)
end Go.Proofs.YtdcobmoeligdkaaDoor
