/-
  concordancelaw23.Few, size: at any query.
-/
import Derived.Test.YtdcobmoeligdkaaGreatDoorCmQTree
namespace Go.Proofs.YtdcobmoeligdkaaGreatDoor
open Go.RowKit Go.Shelf

def QSize (f : Nat) : Prop := ∀ (W : World) (G : Nat → Prop) (q : QT) (v0 v1 v2 : Value), QAt W G q v0 v1 v2 →
  Calls Tryz.prog 10 #[.agg #[v0, v1, v2], .int .i64 (f : Int)] W fun e w' => (∃ x : Int, e = .returned (.int .i64 x) ∧ 1 ≤ x ∧ x ≤ 5001 + 3000 * (f : Int)) ∧ Below W.heap.size W w'
set_option maxRecDepth 100000 in
set_option maxHeartbeats 2000000 in
theorem size_step (f : Nat) (hf : f < 13) (ih : ∀ g, f = g + 1 → QSize g) : QSize f := by
  intro w G q v0 v1 v2 h
  cases h with
  | mk k t l a1 c1 a2 c2 V h1 g1 m1 h2 g2 m2 hs =>
  have hml : l.length ≤ 9223372036854775807 := m2
  have htl : t.length ≤ 9223372036854775807 := m1
  generalize t.length = tn at *
  have hm1 : 0 ≤ min (tn : Int) 5000 := Int.le_min.2 ⟨by omega, by omega⟩
  have hm2 : min (tn : Int) 5000 ≤ 5000 := Int.min_le_right _ _
  clear h1 g1 m1 g2 m2
  cases f with
  | zero =>
    have e0 : ((0 : Nat) : Int) = 0 := rfl
    rw [e0]
    clear ih hs h2 hf
    go_enter Tryz.func10, Tryz.ntmps10
    go_wp2
    go_ret
    exact ⟨⟨5000, rfl, by omega, by omega⟩, (Below.refl _ _).alloc (Nat.le_refl _) _⟩
  | succ g =>
    have hD : (((g + 1 : Nat) : Int) == 0) = false := by rw [beq_eq_false_iff_ne]; omega
    have hD2 : (((g + 1 : Nat) : Int)) - 1 = (g : Int) := by omega
    have hDb : 1 ≤ ((g + 1 : Nat) : Int) ∧ ((g + 1 : Nat) : Int) ≤ 20 := by omega
    have HIH : Hid (∀ i (hi : i < l.length) W, Below w.heap.size w W → Calls Tryz.prog 10 #[.agg #[V (i * 3), V (i * 3 + 1), V (i * 3 + 2)], .int .i64 (g : Int)] W fun e w' => (∃ x : Int, e = .returned (.int .i64 x) ∧ 1 ≤ x ∧ x ≤ 5001 + 3000 * (g : Int)) ∧ Below W.heap.size W w') := fun i hi W hW => ih g rfl W G l[i] _ _ _ ((hs i hi).kept hW)
    have HIX := Lib.hid (run_ixQ (P := Tryz.prog) 23 3 (by kernel_rfl) (fun w => by kernel_rfl) a2 l.length c2 (h2.at_.imp (fun e => by omega) id))
    have HR := Lib.hid h2
    have HDG : Hid (((g + 1 : Nat) : Int) = (g : Int) + 1) := by show _ = _; omega
    have hgb : 0 ≤ (g : Int) ∧ (g : Int) ≤ 20 := by omega
    clear hs h2 ih
    generalize ((g + 1 : Nat) : Int) = D at *
    generalize (g : Int) = gi at *
    go_enter Tryz.func10, Tryz.ntmps10
    go_wp2
    have hb0 : Below w.heap.size w (w.alloc (.cells #[.int .i64 k, .slice a1 tn c1, .slice a2 l.length c2] 25)) := (Below.refl _ _).alloc (Nat.le_refl _) _
    have hx0 : (w.alloc (.cells #[.int .i64 k, .slice a1 tn c1, .slice a2 l.length c2] 25)).heap[w.heap.size]? = some (.cells #[.int .i64 k, .slice a1 tn c1, .slice a2 l.length c2] 25 (0, 0)) := World.alloc_heap_new w _
    have HX0 := Lib.hid hx0
    have HB2 := Lib.hid hb0
    clear hx0 hb0
    generalize (w.alloc (.cells #[.int .i64 k, .slice a1 tn c1, .slice a2 l.length c2] 25)) = w2 at *
    go_loopw [5, 6] (fun v5 v6 wr => ∃ (i : Nat) (n : Int), i ≤ l.length ∧ 1 ≤ n ∧ n ≤ 5001 + 3000 * (gi + 1) ∧ v5 = .int .i64 n ∧ v6 = .int .i64 (i : Int) ∧ Below w2.heap.size w2 wr) (fun _ v6 _ => l.length - (intOf v6).toNat)
    case atStart => exact ⟨0, 1 + min (tn : Int) 5000, Nat.zero_le _, by omega, by omega, rfl, rfl, Below.refl _ _⟩
    case round =>
      obtain ⟨i, n, hi, hn1, hn2, rfl, rfl, hb⟩ := hrel
      have HB := Lib.hid hb
      clear hb
      have q0 := cell_of_row wr _ 2 _ _ _ ((HB.out.block _ (Array.getElem?_eq_some_iff.1 HX0.out).1).trans HX0.out)
      simp only [List.getElem?_toArray, List.getElem?_cons_succ, List.getElem?_cons_zero] at q0
      have HBW : Hid (Below w.heap.size w wr) := below_next HB2.out HB.out HB2.out.size
      by_cases hgo : i < l.length ∧ n ≤ 3000
      · obtain ⟨hlt, hn60⟩ := hgo
        have hr2 := HR.out.kept HBW.out
        have e0 : oOf a2 + i * 3 + 1 = oOf a2 + (i * 3 + 1) := by omega
        have e1 : oOf a2 + i * 3 + 2 = oOf a2 + (i * 3 + 2) := by omega
        have p0 : wr.cell? ⟨bOf a2, oOf a2 + i * 3, none⟩ = some (V (i * 3)) := hr2.cell (i * 3) (by omega)
        have p1 : wr.cell? ⟨bOf a2, oOf a2 + i * 3 + 1, none⟩ = some (V (i * 3 + 1)) := by rw [e0]; exact hr2.cell _ (by omega)
        have p2 : wr.cell? ⟨bOf a2, oOf a2 + i * 3 + 2, none⟩ = some (V (i * 3 + 2)) := by rw [e1]; exact hr2.cell _ (by omega)
        have HK := Lib.hid (HIH.out i hlt wr HBW.out)
        have hx := fun W => HIX.out W i hlt
        clear e0 e1 hr2
        generalize V (i * 3) = u0 at *
        generalize V (i * 3 + 1) = u1 at *
        generalize V (i * 3 + 2) = u2 at *
        go_wp2_with (go_at_call 10; refine HK.out.mono ?_; rintro e w4 ⟨⟨x, rfl, hx1, hx2⟩, hb4⟩; have HB4 := Lib.hid hb4; clear hb4)
        go_roundw
        case rel => exact ⟨i + 1, n + x, by omega, by omega, by omega, rfl, by go_num, below_next HB.out HB4.out HB.out.size⟩
        case measure => simp [intOf]; omega
      · have HY : Hid (∃ x : Int, Ending.returned (.int .i64 n) = .returned (.int .i64 x) ∧ 1 ≤ x ∧ x ≤ 5001 + 3000 * D) := ⟨n, rfl, by omega, by rw [HDG.out]; exact hn2⟩
        by_cases hlt : i < l.length
        · have hnn : ¬ n ≤ 3000 := by omega
          clear hgo
          go_wp2
          go_ret
          exact ⟨HY.out, HBW.out⟩
        · clear hgo
          go_wp2
          go_ret
          exact ⟨HY.out, HBW.out⟩
theorem size_any : ∀ f, f < 13 → QSize f
  | 0, hf => size_step 0 hf (fun g h => by omega)
  | f + 1, hf => size_step (f + 1) hf (fun g h => by obtain rfl : g = f := by omega
                                                     exact size_any g (by omega))
set_option maxRecDepth 100000 in
set_option maxHeartbeats 1000000 in
theorem few_any (w : World) (G : Nat → Prop) (q : QT) (v0 v1 v2 : Value) (h : QAt w G q v0 v1 v2) : Calls Tryz.prog 4 #[.agg #[v0, v1, v2]] w fun e w' => (∃ b : Bool, e = .returned (.bool b)) ∧ Below w.heap.size w w' := by
  have HK : Hid (∀ W, Below w.heap.size w W → Calls Tryz.prog 10 #[.agg #[v0, v1, v2], .int .i64 12] W fun e w' => (∃ x : Int, e = .returned (.int .i64 x) ∧ 1 ≤ x ∧ x ≤ 5001 + 3000 * ((12 : Nat) : Int)) ∧ Below W.heap.size W w') := fun W hW => size_any 12 (by omega) W G q v0 v1 v2 (h.kept hW)
  have HB0 : Hid (∀ ob, Below w.heap.size w (w.alloc ob)) := fun ob => (Below.refl _ _).alloc (Nat.le_refl _) _
  have hz : ∀ ob, w.heap.size ≤ (w.alloc ob).heap.size := fun ob => by rw [World.size_alloc]; omega
  obtain ⟨p1, n1, k1, p2, n2, k2, rfl, rfl, rfl⟩ := h.form
  clear h
  generalize q.k = xk at *
  go_enter Tryz.func4, Tryz.ntmps4
  go_wp2_with (go_at_call 10; refine (HK.out _ (HB0.out _)).mono ?_; rintro e w4 ⟨⟨x, rfl, hx1, hx2⟩, hb4⟩)
  go_ret
  exact ⟨⟨_, rfl⟩, below_next (HB0.out _) hb4 (hz _)⟩
end Go.Proofs.YtdcobmoeligdkaaGreatDoor
