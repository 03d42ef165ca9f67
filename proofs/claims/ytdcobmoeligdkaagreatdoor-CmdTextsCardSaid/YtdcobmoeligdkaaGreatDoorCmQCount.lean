/-
  query.count, query.Ok: at any query.
-/
import Derived.Test.YtdcobmoeligdkaaGreatDoorCmQTree
namespace Go.Proofs.YtdcobmoeligdkaaGreatDoor
open Go.RowKit Go.Shelf

theorem cntL_drop (c : QT → Int) (l : List QT) (i : Nat) (hi : i < l.length) (n : Int) : cntL c n (l.drop i) = if c l[i] < 0 ∨ 60 < n + c l[i] then -1 else cntL c (n + c l[i]) (l.drop (i + 1)) := by
  rw [List.drop_eq_getElem_cons hi, cntL]
theorem okH_iff (k : Int) (t : List UInt8) (n : Nat) : okH k t n = true ↔ ((k = 1 ∧ 1 ≤ t.length ∧ t.length ≤ 100 ∧ n = 0) ∨ (k = 4 ∧ t.length = 0 ∧ n = 1) ∨ ((k = 2 ∨ k = 3) ∧ t.length = 0 ∧ 2 ≤ n ∧ n ≤ 8)) := by
  unfold okH
  simp only [Bool.or_eq_true, Bool.and_eq_true, decide_eq_true_eq]
  constructor
  · rintro ((⟨⟨⟨a, b⟩, c⟩, d⟩ | ⟨⟨a, b⟩, c⟩) | ⟨⟨⟨a, b⟩, c⟩, d⟩)
    · exact .inl ⟨a, b, c, d⟩
    · exact .inr (.inl ⟨a, b, c⟩)
    · exact .inr (.inr ⟨a, b, c, d⟩)
  · rintro (⟨a, b, c, d⟩ | ⟨a, b, c⟩ | ⟨a, b, c, d⟩)
    · exact .inl (.inl ⟨⟨⟨a, b⟩, c⟩, d⟩)
    · exact .inl (.inr ⟨⟨a, b⟩, c⟩)
    · exact .inr ⟨⟨⟨a, b⟩, c⟩, d⟩
def QCnt (f : Nat) : Prop := ∀ (W : World) (G : Nat → Prop) (q : QT) (v0 v1 v2 : Value), QAt W G q v0 v1 v2 →
  Calls Tryz.prog 50 #[.agg #[v0, v1, v2], .int .i64 (9 - (f : Int))] W fun e w' => e = .returned (.int .i64 (cntF f q)) ∧ Below W.heap.size W w'
set_option maxRecDepth 100000 in
set_option maxHeartbeats 2000000 in
theorem count_b (f : Nat) (hf : f < 9) (ih : ∀ g, f = g + 1 → QCnt g) (w : World) (G : Nat → Prop) (t : List UInt8) (l : List QT) (a1 : Option Addr) (c1 : Nat) (a2 : Option Addr) (c2 : Nat) (V : Nat → Value)
    (h2 : Row w a2 (l.length * 3) V) (hs : ∀ i (h : i < l.length), QAt w G l[i] (V (i * 3)) (V (i * 3 + 1)) (V (i * 3 + 2))) (hok : ¬ (f = 0 ∨ okH 2 t l.length = false)) :
    Calls Tryz.prog 50 #[.agg #[.int .i64 2, .slice a1 t.length c1, .slice a2 l.length c2], .int .i64 (9 - (f : Int))] w fun e w' => e = .returned (.int .i64 (cntF f (.node 2 t l))) ∧ Below w.heap.size w w' := by
  obtain ⟨g, rfl⟩ : ∃ g, f = g + 1 := ⟨f - 1, by omega⟩
  have hok2 : okH 2 t l.length = true := by rcases h : okH 2 t l.length with _ | _; exact absurd (.inr h) hok; rfl
  have HC : Hid (cntF (g + 1) (.node 2 t l) = cntL (cntF g) 1 l) := by show _ = _; rw [cntF, if_pos hok2]
  have HIH := Lib.hid (ih g rfl)
  have HS := Lib.hid hs
  have hix := run_ixQ (P := Tryz.prog) 23 3 (by kernel_rfl) (fun w => by kernel_rfl) a2 l.length c2 (h2.at_.imp (fun e => by omega) id)
  have HIX := Lib.hid hix
  have HR := Lib.hid h2
  have hok3 := (okH_iff _ _ _).1 hok2
  have hl : ((t.length : Nat) : Int) ≤ 1000 ∧ ((l.length : Nat) : Int) ≤ 8 := by omega
  have ht : t.length = 0 := (by omega); have hl2 : 2 ≤ ((l.length : Nat) : Int) := (by omega); have x1 : decide (((l.length : Nat) : Int) < 2) = false := decide_eq_false (by omega); have x2 : decide ((8 : Int) < ((l.length : Nat) : Int)) = false := decide_eq_false (by omega); have x4 : ¬ (8 : Int) < ((l.length : Nat) : Int) := (by omega); have x5 : ¬ ((l.length : Nat) : Int) < 2 := (by omega)
  have hdeep : decide ((8 : Int) < 9 - ((g + 1 : Nat) : Int)) = false := by simp; omega
  have hdeep2 : (9 - ((g + 1 : Nat) : Int)) + 1 = 9 - (g : Int) := by omega
  have hdeep3 : ¬ (8 : Int) < 9 - ((g + 1 : Nat) : Int) := by omega
  generalize (9 - ((g + 1 : Nat) : Int)) = D at *
  have hD : 0 ≤ D ∧ D ≤ 9 := by omega
  rw [HC.out]
  clear HC hok hok2 hok3 ih hs hix h2
  go_enter Tryz.func50, Tryz.ntmps50
  go_wp2
  have HB0 : Hid (∀ ob, Below w.heap.size w (w.alloc ob)) := fun ob => (Below.refl _ _).alloc (Nat.le_refl _) _
  go_loopw [8, 10, 11, 57] (fun v8 _ _ v57 wr => ∃ (i : Nat) (n : Int), i ≤ l.length ∧ 0 ≤ n ∧ n ≤ 60 ∧ v8 = .int .i64 n ∧ v57 = .int .i64 (i : Int) ∧ Below w.heap.size w wr ∧ Hid (cntL (cntF g) 1 l = cntL (cntF g) n (l.drop i))) (fun _ _ _ v57 _ => l.length - (intOf v57).toNat)
  case atStart => exact ⟨0, 1, Nat.zero_le _, by omega, by omega, rfl, rfl, HB0.out _, by show _ = _; rw [List.drop_zero]⟩
  case round =>
    obtain ⟨i, n, hi, hn0, hn, rfl, rfl, hb, hc⟩ := hrel
    have HB := Lib.hid hb
    clear hb
    by_cases hlt : i < l.length
    · have HC2 : Hid (cntL (cntF g) 1 l = if cntF g l[i] < 0 ∨ 60 < n + cntF g l[i] then -1 else cntL (cntF g) (n + cntF g l[i]) (l.drop (i + 1))) := by
        show _ = _
        rw [hc.out, cntL_drop _ _ _ hlt]
      have hq := HS.out i hlt
      have hr2 := HR.out.kept HB.out
      have e0 : oOf a2 + i * 3 + 1 = oOf a2 + (i * 3 + 1) := by omega
      have e1 : oOf a2 + i * 3 + 2 = oOf a2 + (i * 3 + 2) := by omega
      have d0 : wr.cell? ⟨bOf a2, oOf a2 + i * 3, none⟩ = some (V (i * 3)) := hr2.cell (i * 3) (by omega)
      have d1 : wr.cell? ⟨bOf a2, oOf a2 + i * 3 + 1, none⟩ = some (V (i * 3 + 1)) := by rw [e0]; exact hr2.cell _ (by omega)
      have d2 : wr.cell? ⟨bOf a2, oOf a2 + i * 3 + 2, none⟩ = some (V (i * 3 + 2)) := by rw [e1]; exact hr2.cell _ (by omega)
      have HQ := Lib.hid (hq.kept HB.out)
      have hcl : cntF g l[i] ≤ 60 := cntF_le g _
      clear e0 e1 hq hr2 hc
      have hx := fun W => HIX.out W i hlt
      generalize l[i] = x at *
      generalize V (i * 3) = u0 at *
      generalize V (i * 3 + 1) = u1 at *
      generalize V (i * 3 + 2) = u2 at *
      obtain ⟨p1, n1, k1, p2, n2, k2, y0, y1, y2⟩ := HQ.out.form
      subst y0
      subst y1
      subst y2
      have HK : Hid (∀ W, Below wr.heap.size wr W → Calls Tryz.prog 50 #[.agg #[.int .i64 x.k, .slice p1 n1 k1, .slice p2 n2 k2], .int .i64 (9 - (g : Int))] W fun e w' => e = .returned (.int .i64 (cntF g x)) ∧ Below W.heap.size W w') := fun W hW => HIH.out W G x _ _ _ (HQ.out.kept hW)
      by_cases hneg : cntF g x < 0
      · have HY : Hid (Ending.returned (.int .i64 (-1)) = .returned (.int .i64 (cntL (cntF g) 1 l))) := by show _ = _; rw [HC2.out, if_pos (.inl hneg)]
        have hnd : decide (cntF g x < 0) = true := decide_eq_true hneg
        clear HC2
        generalize cntF g x = c at *
        go_wp2_with (go_at_call 50; refine (HK.out _ ((Below.refl _ _).alloc (Nat.le_refl _) _)).mono ?_; rintro e w4 ⟨rfl, hb4⟩)
        go_ret
        exact ⟨HY.out, below_next HB.out (below_next ((Below.refl _ _).alloc (Nat.le_refl _) _) hb4 (by simp)) HB.out.size⟩
      · by_cases hbig : 60 < n + cntF g x
        · have HY : Hid (Ending.returned (.int .i64 (-1)) = .returned (.int .i64 (cntL (cntF g) 1 l))) := by show _ = _; rw [HC2.out, if_pos (.inr hbig)]
          have hnd : decide (cntF g x < 0) = false := decide_eq_false hneg
          have hnb : decide (60 < n + cntF g x) = true := decide_eq_true hbig
          clear HC2
          generalize cntF g x = c at *
          go_wp2_with (go_at_call 50; refine (HK.out _ ((Below.refl _ _).alloc (Nat.le_refl _) _)).mono ?_; rintro e w4 ⟨rfl, hb4⟩)
          go_ret
          exact ⟨HY.out, below_next HB.out (below_next ((Below.refl _ _).alloc (Nat.le_refl _) _) hb4 (by simp)) HB.out.size⟩
        · have HY : Hid (cntL (cntF g) 1 l = cntL (cntF g) (n + cntF g x) (l.drop (i + 1))) := by show _ = _; rw [HC2.out, if_neg (by omega)]
          have hnd : decide (cntF g x < 0) = false := decide_eq_false hneg
          have hnb : decide (60 < n + cntF g x) = false := decide_eq_false hbig
          clear HC2
          generalize cntF g x = c at *
          go_wp2_with (go_at_call 50; refine (HK.out _ ((Below.refl _ _).alloc (Nat.le_refl _) _)).mono ?_; rintro e w4 ⟨rfl, hb4⟩)
          go_roundw
          case rel => exact ⟨i + 1, n + c, by omega, by omega, by omega, rfl, by go_num, below_next HB.out (below_next ((Below.refl _ _).alloc (Nat.le_refl _) _) hb4 (by simp)) HB.out.size, HY⟩
          case measure => simp [intOf]; omega
    · obtain rfl : i = l.length := by omega
      have hd : decide ((l.length : Int) < (l.length : Int)) = false := by simp
      have HY : Hid (Ending.returned (.int .i64 n) = .returned (.int .i64 (cntL (cntF g) 1 l))) := by
        show _ = _
        rw [hc.out, List.drop_length]; rfl
      clear hc
      go_wp2
      go_ret
      exact ⟨HY.out, HB.out⟩
set_option maxRecDepth 100000 in
set_option maxHeartbeats 2000000 in
theorem count_c (f : Nat) (hf : f < 9) (ih : ∀ g, f = g + 1 → QCnt g) (w : World) (G : Nat → Prop) (t : List UInt8) (l : List QT) (a1 : Option Addr) (c1 : Nat) (a2 : Option Addr) (c2 : Nat) (V : Nat → Value)
    (h2 : Row w a2 (l.length * 3) V) (hs : ∀ i (h : i < l.length), QAt w G l[i] (V (i * 3)) (V (i * 3 + 1)) (V (i * 3 + 2))) (hok : ¬ (f = 0 ∨ okH 3 t l.length = false)) :
    Calls Tryz.prog 50 #[.agg #[.int .i64 3, .slice a1 t.length c1, .slice a2 l.length c2], .int .i64 (9 - (f : Int))] w fun e w' => e = .returned (.int .i64 (cntF f (.node 3 t l))) ∧ Below w.heap.size w w' := by
  obtain ⟨g, rfl⟩ : ∃ g, f = g + 1 := ⟨f - 1, by omega⟩
  have hok2 : okH 3 t l.length = true := by rcases h : okH 3 t l.length with _ | _; exact absurd (.inr h) hok; rfl
  have HC : Hid (cntF (g + 1) (.node 3 t l) = cntL (cntF g) 1 l) := by show _ = _; rw [cntF, if_pos hok2]
  have HIH := Lib.hid (ih g rfl)
  have HS := Lib.hid hs
  have hix := run_ixQ (P := Tryz.prog) 23 3 (by kernel_rfl) (fun w => by kernel_rfl) a2 l.length c2 (h2.at_.imp (fun e => by omega) id)
  have HIX := Lib.hid hix
  have HR := Lib.hid h2
  have hok3 := (okH_iff _ _ _).1 hok2
  have hl : ((t.length : Nat) : Int) ≤ 1000 ∧ ((l.length : Nat) : Int) ≤ 8 := by omega
  have ht : t.length = 0 := (by omega); have hl2 : 2 ≤ ((l.length : Nat) : Int) := (by omega); have x1 : decide (((l.length : Nat) : Int) < 2) = false := decide_eq_false (by omega); have x2 : decide ((8 : Int) < ((l.length : Nat) : Int)) = false := decide_eq_false (by omega); have x4 : ¬ (8 : Int) < ((l.length : Nat) : Int) := (by omega); have x5 : ¬ ((l.length : Nat) : Int) < 2 := (by omega)
  have hdeep : decide ((8 : Int) < 9 - ((g + 1 : Nat) : Int)) = false := by simp; omega
  have hdeep2 : (9 - ((g + 1 : Nat) : Int)) + 1 = 9 - (g : Int) := by omega
  have hdeep3 : ¬ (8 : Int) < 9 - ((g + 1 : Nat) : Int) := by omega
  generalize (9 - ((g + 1 : Nat) : Int)) = D at *
  have hD : 0 ≤ D ∧ D ≤ 9 := by omega
  rw [HC.out]
  clear HC hok hok2 hok3 ih hs hix h2
  go_enter Tryz.func50, Tryz.ntmps50
  go_wp2
  have HB0 : Hid (∀ ob, Below w.heap.size w (w.alloc ob)) := fun ob => (Below.refl _ _).alloc (Nat.le_refl _) _
  go_loopw [8, 10, 11, 57] (fun v8 _ _ v57 wr => ∃ (i : Nat) (n : Int), i ≤ l.length ∧ 0 ≤ n ∧ n ≤ 60 ∧ v8 = .int .i64 n ∧ v57 = .int .i64 (i : Int) ∧ Below w.heap.size w wr ∧ Hid (cntL (cntF g) 1 l = cntL (cntF g) n (l.drop i))) (fun _ _ _ v57 _ => l.length - (intOf v57).toNat)
  case atStart => exact ⟨0, 1, Nat.zero_le _, by omega, by omega, rfl, rfl, HB0.out _, by show _ = _; rw [List.drop_zero]⟩
  case round =>
    obtain ⟨i, n, hi, hn0, hn, rfl, rfl, hb, hc⟩ := hrel
    have HB := Lib.hid hb
    clear hb
    by_cases hlt : i < l.length
    · have HC2 : Hid (cntL (cntF g) 1 l = if cntF g l[i] < 0 ∨ 60 < n + cntF g l[i] then -1 else cntL (cntF g) (n + cntF g l[i]) (l.drop (i + 1))) := by
        show _ = _
        rw [hc.out, cntL_drop _ _ _ hlt]
      have hq := HS.out i hlt
      have hr2 := HR.out.kept HB.out
      have e0 : oOf a2 + i * 3 + 1 = oOf a2 + (i * 3 + 1) := by omega
      have e1 : oOf a2 + i * 3 + 2 = oOf a2 + (i * 3 + 2) := by omega
      have d0 : wr.cell? ⟨bOf a2, oOf a2 + i * 3, none⟩ = some (V (i * 3)) := hr2.cell (i * 3) (by omega)
      have d1 : wr.cell? ⟨bOf a2, oOf a2 + i * 3 + 1, none⟩ = some (V (i * 3 + 1)) := by rw [e0]; exact hr2.cell _ (by omega)
      have d2 : wr.cell? ⟨bOf a2, oOf a2 + i * 3 + 2, none⟩ = some (V (i * 3 + 2)) := by rw [e1]; exact hr2.cell _ (by omega)
      have HQ := Lib.hid (hq.kept HB.out)
      have hcl : cntF g l[i] ≤ 60 := cntF_le g _
      clear e0 e1 hq hr2 hc
      have hx := fun W => HIX.out W i hlt
      generalize l[i] = x at *
      generalize V (i * 3) = u0 at *
      generalize V (i * 3 + 1) = u1 at *
      generalize V (i * 3 + 2) = u2 at *
      obtain ⟨p1, n1, k1, p2, n2, k2, y0, y1, y2⟩ := HQ.out.form
      subst y0
      subst y1
      subst y2
      have HK : Hid (∀ W, Below wr.heap.size wr W → Calls Tryz.prog 50 #[.agg #[.int .i64 x.k, .slice p1 n1 k1, .slice p2 n2 k2], .int .i64 (9 - (g : Int))] W fun e w' => e = .returned (.int .i64 (cntF g x)) ∧ Below W.heap.size W w') := fun W hW => HIH.out W G x _ _ _ (HQ.out.kept hW)
      by_cases hneg : cntF g x < 0
      · have HY : Hid (Ending.returned (.int .i64 (-1)) = .returned (.int .i64 (cntL (cntF g) 1 l))) := by show _ = _; rw [HC2.out, if_pos (.inl hneg)]
        have hnd : decide (cntF g x < 0) = true := decide_eq_true hneg
        clear HC2
        generalize cntF g x = c at *
        go_wp2_with (go_at_call 50; refine (HK.out _ ((Below.refl _ _).alloc (Nat.le_refl _) _)).mono ?_; rintro e w4 ⟨rfl, hb4⟩)
        go_ret
        exact ⟨HY.out, below_next HB.out (below_next ((Below.refl _ _).alloc (Nat.le_refl _) _) hb4 (by simp)) HB.out.size⟩
      · by_cases hbig : 60 < n + cntF g x
        · have HY : Hid (Ending.returned (.int .i64 (-1)) = .returned (.int .i64 (cntL (cntF g) 1 l))) := by show _ = _; rw [HC2.out, if_pos (.inr hbig)]
          have hnd : decide (cntF g x < 0) = false := decide_eq_false hneg
          have hnb : decide (60 < n + cntF g x) = true := decide_eq_true hbig
          clear HC2
          generalize cntF g x = c at *
          go_wp2_with (go_at_call 50; refine (HK.out _ ((Below.refl _ _).alloc (Nat.le_refl _) _)).mono ?_; rintro e w4 ⟨rfl, hb4⟩)
          go_ret
          exact ⟨HY.out, below_next HB.out (below_next ((Below.refl _ _).alloc (Nat.le_refl _) _) hb4 (by simp)) HB.out.size⟩
        · have HY : Hid (cntL (cntF g) 1 l = cntL (cntF g) (n + cntF g x) (l.drop (i + 1))) := by show _ = _; rw [HC2.out, if_neg (by omega)]
          have hnd : decide (cntF g x < 0) = false := decide_eq_false hneg
          have hnb : decide (60 < n + cntF g x) = false := decide_eq_false hbig
          clear HC2
          generalize cntF g x = c at *
          go_wp2_with (go_at_call 50; refine (HK.out _ ((Below.refl _ _).alloc (Nat.le_refl _) _)).mono ?_; rintro e w4 ⟨rfl, hb4⟩)
          go_roundw
          case rel => exact ⟨i + 1, n + c, by omega, by omega, by omega, rfl, by go_num, below_next HB.out (below_next ((Below.refl _ _).alloc (Nat.le_refl _) _) hb4 (by simp)) HB.out.size, HY⟩
          case measure => simp [intOf]; omega
    · obtain rfl : i = l.length := by omega
      have hd : decide ((l.length : Int) < (l.length : Int)) = false := by simp
      have HY : Hid (Ending.returned (.int .i64 n) = .returned (.int .i64 (cntL (cntF g) 1 l))) := by
        show _ = _
        rw [hc.out, List.drop_length]; rfl
      clear hc
      go_wp2
      go_ret
      exact ⟨HY.out, HB.out⟩
set_option maxRecDepth 100000 in
set_option maxHeartbeats 2000000 in
theorem count_d (f : Nat) (hf : f < 9) (ih : ∀ g, f = g + 1 → QCnt g) (w : World) (G : Nat → Prop) (t : List UInt8) (l : List QT) (a1 : Option Addr) (c1 : Nat) (a2 : Option Addr) (c2 : Nat) (V : Nat → Value)
    (h2 : Row w a2 (l.length * 3) V) (hs : ∀ i (h : i < l.length), QAt w G l[i] (V (i * 3)) (V (i * 3 + 1)) (V (i * 3 + 2))) (hok : ¬ (f = 0 ∨ okH 4 t l.length = false)) :
    Calls Tryz.prog 50 #[.agg #[.int .i64 4, .slice a1 t.length c1, .slice a2 l.length c2], .int .i64 (9 - (f : Int))] w fun e w' => e = .returned (.int .i64 (cntF f (.node 4 t l))) ∧ Below w.heap.size w w' := by
  obtain ⟨g, rfl⟩ : ∃ g, f = g + 1 := ⟨f - 1, by omega⟩
  have hok2 : okH 4 t l.length = true := by rcases h : okH 4 t l.length with _ | _; exact absurd (.inr h) hok; rfl
  have HC : Hid (cntF (g + 1) (.node 4 t l) = cntL (cntF g) 1 l) := by show _ = _; rw [cntF, if_pos hok2]
  have HIH := Lib.hid (ih g rfl)
  have HS := Lib.hid hs
  have hix := run_ixQ (P := Tryz.prog) 23 3 (by kernel_rfl) (fun w => by kernel_rfl) a2 l.length c2 (h2.at_.imp (fun e => by omega) id)
  have HIX := Lib.hid hix
  have HR := Lib.hid h2
  have hok3 := (okH_iff _ _ _).1 hok2
  have hl : ((t.length : Nat) : Int) ≤ 1000 ∧ ((l.length : Nat) : Int) ≤ 8 := by omega
  have ht : t.length = 0 := (by omega); have hl4 : ((l.length : Nat) : Int) = 1 := (by omega); have x1 : decide (((l.length : Nat) : Int) < 1) = false := decide_eq_false (by omega); have x2 : decide ((1 : Int) < ((l.length : Nat) : Int)) = false := decide_eq_false (by omega); have x4 : ¬ (1 : Int) < ((l.length : Nat) : Int) := (by omega); have x5 : ¬ ((l.length : Nat) : Int) < 1 := (by omega); clear hl4
  have hdeep : decide ((8 : Int) < 9 - ((g + 1 : Nat) : Int)) = false := by simp; omega
  have hdeep2 : (9 - ((g + 1 : Nat) : Int)) + 1 = 9 - (g : Int) := by omega
  have hdeep3 : ¬ (8 : Int) < 9 - ((g + 1 : Nat) : Int) := by omega
  generalize (9 - ((g + 1 : Nat) : Int)) = D at *
  have hD : 0 ≤ D ∧ D ≤ 9 := by omega
  rw [HC.out]
  clear HC hok hok2 hok3 ih hs hix h2
  go_enter Tryz.func50, Tryz.ntmps50
  go_wp2
  have HB0 : Hid (∀ ob, Below w.heap.size w (w.alloc ob)) := fun ob => (Below.refl _ _).alloc (Nat.le_refl _) _
  go_loopw [8, 10, 11, 57] (fun v8 _ _ v57 wr => ∃ (i : Nat) (n : Int), i ≤ l.length ∧ 0 ≤ n ∧ n ≤ 60 ∧ v8 = .int .i64 n ∧ v57 = .int .i64 (i : Int) ∧ Below w.heap.size w wr ∧ Hid (cntL (cntF g) 1 l = cntL (cntF g) n (l.drop i))) (fun _ _ _ v57 _ => l.length - (intOf v57).toNat)
  case atStart => exact ⟨0, 1, Nat.zero_le _, by omega, by omega, rfl, rfl, HB0.out _, by show _ = _; rw [List.drop_zero]⟩
  case round =>
    obtain ⟨i, n, hi, hn0, hn, rfl, rfl, hb, hc⟩ := hrel
    have HB := Lib.hid hb
    clear hb
    by_cases hlt : i < l.length
    · have HC2 : Hid (cntL (cntF g) 1 l = if cntF g l[i] < 0 ∨ 60 < n + cntF g l[i] then -1 else cntL (cntF g) (n + cntF g l[i]) (l.drop (i + 1))) := by
        show _ = _
        rw [hc.out, cntL_drop _ _ _ hlt]
      have hq := HS.out i hlt
      have hr2 := HR.out.kept HB.out
      have e0 : oOf a2 + i * 3 + 1 = oOf a2 + (i * 3 + 1) := by omega
      have e1 : oOf a2 + i * 3 + 2 = oOf a2 + (i * 3 + 2) := by omega
      have d0 : wr.cell? ⟨bOf a2, oOf a2 + i * 3, none⟩ = some (V (i * 3)) := hr2.cell (i * 3) (by omega)
      have d1 : wr.cell? ⟨bOf a2, oOf a2 + i * 3 + 1, none⟩ = some (V (i * 3 + 1)) := by rw [e0]; exact hr2.cell _ (by omega)
      have d2 : wr.cell? ⟨bOf a2, oOf a2 + i * 3 + 2, none⟩ = some (V (i * 3 + 2)) := by rw [e1]; exact hr2.cell _ (by omega)
      have HQ := Lib.hid (hq.kept HB.out)
      have hcl : cntF g l[i] ≤ 60 := cntF_le g _
      clear e0 e1 hq hr2 hc
      have hx := fun W => HIX.out W i hlt
      generalize l[i] = x at *
      generalize V (i * 3) = u0 at *
      generalize V (i * 3 + 1) = u1 at *
      generalize V (i * 3 + 2) = u2 at *
      obtain ⟨p1, n1, k1, p2, n2, k2, y0, y1, y2⟩ := HQ.out.form
      subst y0
      subst y1
      subst y2
      have HK : Hid (∀ W, Below wr.heap.size wr W → Calls Tryz.prog 50 #[.agg #[.int .i64 x.k, .slice p1 n1 k1, .slice p2 n2 k2], .int .i64 (9 - (g : Int))] W fun e w' => e = .returned (.int .i64 (cntF g x)) ∧ Below W.heap.size W w') := fun W hW => HIH.out W G x _ _ _ (HQ.out.kept hW)
      by_cases hneg : cntF g x < 0
      · have HY : Hid (Ending.returned (.int .i64 (-1)) = .returned (.int .i64 (cntL (cntF g) 1 l))) := by show _ = _; rw [HC2.out, if_pos (.inl hneg)]
        have hnd : decide (cntF g x < 0) = true := decide_eq_true hneg
        clear HC2
        generalize cntF g x = c at *
        go_wp2_with (go_at_call 50; refine (HK.out _ ((Below.refl _ _).alloc (Nat.le_refl _) _)).mono ?_; rintro e w4 ⟨rfl, hb4⟩)
        go_ret
        exact ⟨HY.out, below_next HB.out (below_next ((Below.refl _ _).alloc (Nat.le_refl _) _) hb4 (by simp)) HB.out.size⟩
      · by_cases hbig : 60 < n + cntF g x
        · have HY : Hid (Ending.returned (.int .i64 (-1)) = .returned (.int .i64 (cntL (cntF g) 1 l))) := by show _ = _; rw [HC2.out, if_pos (.inr hbig)]
          have hnd : decide (cntF g x < 0) = false := decide_eq_false hneg
          have hnb : decide (60 < n + cntF g x) = true := decide_eq_true hbig
          clear HC2
          generalize cntF g x = c at *
          go_wp2_with (go_at_call 50; refine (HK.out _ ((Below.refl _ _).alloc (Nat.le_refl _) _)).mono ?_; rintro e w4 ⟨rfl, hb4⟩)
          go_ret
          exact ⟨HY.out, below_next HB.out (below_next ((Below.refl _ _).alloc (Nat.le_refl _) _) hb4 (by simp)) HB.out.size⟩
        · have HY : Hid (cntL (cntF g) 1 l = cntL (cntF g) (n + cntF g x) (l.drop (i + 1))) := by show _ = _; rw [HC2.out, if_neg (by omega)]
          have hnd : decide (cntF g x < 0) = false := decide_eq_false hneg
          have hnb : decide (60 < n + cntF g x) = false := decide_eq_false hbig
          clear HC2
          generalize cntF g x = c at *
          go_wp2_with (go_at_call 50; refine (HK.out _ ((Below.refl _ _).alloc (Nat.le_refl _) _)).mono ?_; rintro e w4 ⟨rfl, hb4⟩)
          go_roundw
          case rel => exact ⟨i + 1, n + c, by omega, by omega, by omega, rfl, by go_num, below_next HB.out (below_next ((Below.refl _ _).alloc (Nat.le_refl _) _) hb4 (by simp)) HB.out.size, HY⟩
          case measure => simp [intOf]; omega
    · obtain rfl : i = l.length := by omega
      have hd : decide ((l.length : Int) < (l.length : Int)) = false := by simp
      have HY : Hid (Ending.returned (.int .i64 n) = .returned (.int .i64 (cntL (cntF g) 1 l))) := by
        show _ = _
        rw [hc.out, List.drop_length]; rfl
      clear hc
      go_wp2
      go_ret
      exact ⟨HY.out, HB.out⟩
set_option maxRecDepth 100000 in
set_option maxHeartbeats 2000000 in
theorem count_a (f : Nat) (hf : f < 9) (w : World) (t : List UInt8) (l : List QT) (a1 : Option Addr) (c1 : Nat) (a2 : Option Addr) (c2 : Nat) (hok : ¬ (f = 0 ∨ okH 1 t l.length = false)) :
    Calls Tryz.prog 50 #[.agg #[.int .i64 1, .slice a1 t.length c1, .slice a2 l.length c2], .int .i64 (9 - (f : Int))] w fun e w' => e = .returned (.int .i64 (cntF f (.node 1 t l))) ∧ Below w.heap.size w w' := by
  obtain ⟨g, rfl⟩ : ∃ g, f = g + 1 := ⟨f - 1, by omega⟩
  have hok2 : okH 1 t l.length = true := by rcases h : okH 1 t l.length with _ | _; exact absurd (.inr h) hok; rfl
  have hok3 := (okH_iff _ _ _).1 hok2
  have hC : cntF (g + 1) (.node 1 t l) = 1 := by rw [cntF, if_pos hok2, List.eq_nil_of_length_eq_zero (by omega : l.length = 0)]; rfl
  have hl0 : l.length = 0 := by omega
  have hl1 : 1 ≤ ((t.length : Nat) : Int) ∧ ((t.length : Nat) : Int) ≤ 100 := by omega
  have x1 : decide ((100 : Int) < ((t.length : Nat) : Int)) = false := decide_eq_false (by omega)
  have x2 : (((t.length : Nat) : Int) == 0) = false := by rw [beq_eq_false_iff_ne]; omega
  have hdeep : decide ((8 : Int) < 9 - ((g + 1 : Nat) : Int)) = false := decide_eq_false (by omega)
  have hdeep3 : ¬ (8 : Int) < 9 - ((g + 1 : Nat) : Int) := by omega
  have HB0 : Hid (∀ ob, Below w.heap.size w (w.alloc ob)) := fun ob => (Below.refl _ _).alloc (Nat.le_refl _) _
  rw [hC, hl0]
  clear hC hok hok2 hok3
  generalize (9 - ((g + 1 : Nat) : Int)) = D at *
  generalize t.length = n at *
  go_enter Tryz.func50, Tryz.ntmps50
  go_wp2
  generalize hw2 : (w.alloc (.cells #[.int .i64 1, .slice a1 n c1, .slice a2 0 c2] 25)) = w2 at *
  have HB2 : Hid (Below w.heap.size w w2) := by rw [← hw2]; exact HB0.out _
  clear hw2
  go_loopw [8, 57] (fun v8 i wr => v8 = .int .i64 1 ∧ i = .int .i64 0 ∧ wr = w2) (fun _ _ _ => 0)
  case atStart => exact ⟨rfl, rfl, rfl⟩
  case round =>
    obtain ⟨rfl, rfl, rfl⟩ := hrel
    go_wp2
    go_ret
    exact ⟨rfl, HB2.out⟩
set_option maxRecDepth 100000 in
set_option maxHeartbeats 2000000 in
theorem bad_a (D : Int) (w : World) (t : List UInt8) (l : List QT) (a1 : Option Addr) (c1 : Nat) (a2 : Option Addr) (c2 : Nat) (hok : 8 < D ∨ okH 1 t l.length = false) :
    Calls Tryz.prog 50 #[.agg #[.int .i64 1, .slice a1 t.length c1, .slice a2 l.length c2], .int .i64 D] w fun e w' => e = .returned (.int .i64 (-1)) ∧ Below w.heap.size w w' := by
  have hok3 : 8 < D ∨ ¬ _ := hok.imp id (fun h => (not_congr (okH_iff 1 t l.length)).1 (by rw [h]; simp))
  have HB0 : Hid (∀ ob, Below w.heap.size w (w.alloc ob)) := fun ob => (Below.refl _ _).alloc (Nat.le_refl _) _
  clear hok
  generalize t.length = n at *
  generalize l.length = m at *
  go_enter Tryz.func50, Tryz.ntmps50
  go_wp2
  all_goals first | (exfalso; omega) | (go_ret; exact ⟨rfl, HB0.out _⟩) | (exfalso; obtain ⟨hz3, hz1⟩ : (D ≤ 8 ∧ (n : Int) ≤ 100) ∧ ((n : Int) == 0) = false := (by assumption); have hz2 := beq_eq_false_iff_ne.1 hz1; rcases hok3 with h | h; omega; exact h (.inl ⟨by first | trivial | rfl, by omega, by omega, by omega⟩))
set_option maxRecDepth 100000 in
set_option maxHeartbeats 2000000 in
theorem bad_b (D : Int) (w : World) (t : List UInt8) (l : List QT) (a1 : Option Addr) (c1 : Nat) (a2 : Option Addr) (c2 : Nat) (hok : 8 < D ∨ okH 2 t l.length = false) :
    Calls Tryz.prog 50 #[.agg #[.int .i64 2, .slice a1 t.length c1, .slice a2 l.length c2], .int .i64 D] w fun e w' => e = .returned (.int .i64 (-1)) ∧ Below w.heap.size w w' := by
  have hok3 : 8 < D ∨ ¬ _ := hok.imp id (fun h => (not_congr (okH_iff 2 t l.length)).1 (by rw [h]; simp))
  have HB0 : Hid (∀ ob, Below w.heap.size w (w.alloc ob)) := fun ob => (Below.refl _ _).alloc (Nat.le_refl _) _
  clear hok
  generalize t.length = n at *
  generalize l.length = m at *
  go_enter Tryz.func50, Tryz.ntmps50
  go_wp2
  all_goals first | (exfalso; omega) | (go_ret; exact ⟨rfl, HB0.out _⟩)
set_option maxRecDepth 100000 in
set_option maxHeartbeats 2000000 in
theorem bad_c (D : Int) (w : World) (t : List UInt8) (l : List QT) (a1 : Option Addr) (c1 : Nat) (a2 : Option Addr) (c2 : Nat) (hok : 8 < D ∨ okH 3 t l.length = false) :
    Calls Tryz.prog 50 #[.agg #[.int .i64 3, .slice a1 t.length c1, .slice a2 l.length c2], .int .i64 D] w fun e w' => e = .returned (.int .i64 (-1)) ∧ Below w.heap.size w w' := by
  have hok3 : 8 < D ∨ ¬ _ := hok.imp id (fun h => (not_congr (okH_iff 3 t l.length)).1 (by rw [h]; simp))
  have HB0 : Hid (∀ ob, Below w.heap.size w (w.alloc ob)) := fun ob => (Below.refl _ _).alloc (Nat.le_refl _) _
  clear hok
  generalize t.length = n at *
  generalize l.length = m at *
  go_enter Tryz.func50, Tryz.ntmps50
  go_wp2
  all_goals first | (exfalso; omega) | (go_ret; exact ⟨rfl, HB0.out _⟩)
set_option maxRecDepth 100000 in
set_option maxHeartbeats 2000000 in
theorem bad_d (D : Int) (w : World) (t : List UInt8) (l : List QT) (a1 : Option Addr) (c1 : Nat) (a2 : Option Addr) (c2 : Nat) (hok : 8 < D ∨ okH 4 t l.length = false) :
    Calls Tryz.prog 50 #[.agg #[.int .i64 4, .slice a1 t.length c1, .slice a2 l.length c2], .int .i64 D] w fun e w' => e = .returned (.int .i64 (-1)) ∧ Below w.heap.size w w' := by
  have hok3 : 8 < D ∨ ¬ _ := hok.imp id (fun h => (not_congr (okH_iff 4 t l.length)).1 (by rw [h]; simp))
  have HB0 : Hid (∀ ob, Below w.heap.size w (w.alloc ob)) := fun ob => (Below.refl _ _).alloc (Nat.le_refl _) _
  clear hok
  generalize t.length = n at *
  generalize l.length = m at *
  go_enter Tryz.func50, Tryz.ntmps50
  go_wp2
  all_goals first | (exfalso; omega) | (go_ret; exact ⟨rfl, HB0.out _⟩)
set_option maxRecDepth 100000 in
set_option maxHeartbeats 2000000 in
theorem bad_k (k D : Int) (w : World) (t : List UInt8) (l : List QT) (a1 : Option Addr) (c1 : Nat) (a2 : Option Addr) (c2 : Nat) (h1 : k ≠ 1) (h2 : k ≠ 2) (h3 : k ≠ 3) (h4 : k ≠ 4) :
    Calls Tryz.prog 50 #[.agg #[.int .i64 k, .slice a1 t.length c1, .slice a2 l.length c2], .int .i64 D] w fun e w' => e = .returned (.int .i64 (-1)) ∧ Below w.heap.size w w' := by
  have HB0 : Hid (∀ ob, Below w.heap.size w (w.alloc ob)) := fun ob => (Below.refl _ _).alloc (Nat.le_refl _) _
  have x1 : (k == 1) = false := by rw [beq_eq_false_iff_ne]; exact h1
  have x2 : (k == 2) = false := by rw [beq_eq_false_iff_ne]; exact h2
  have x3 : (k == 3) = false := by rw [beq_eq_false_iff_ne]; exact h3
  have x4 : (k == 4) = false := by rw [beq_eq_false_iff_ne]; exact h4
  generalize t.length = n at *
  generalize l.length = m at *
  go_enter Tryz.func50, Tryz.ntmps50
  go_wp2
  go_ret
  exact ⟨rfl, HB0.out _⟩
theorem count_step (f : Nat) (hf : f < 9) (ih : ∀ g, f = g + 1 → QCnt g) : QCnt f := by
  intro W G q v0 v1 v2 h
  cases h with
  | mk k t l a1 c1 a2 c2 V h1 g1 m1 h2 g2 m2 hs =>
    by_cases hok : f = 0 ∨ okH k t l.length = false
    · have hr : cntF f (.node k t l) = -1 := by
        cases f with
        | zero => rw [cntF]
        | succ f =>
          rw [cntF, hok.resolve_left (by omega)]
          rfl
      have hok2 : 8 < (9 - (f : Int)) ∨ okH k t l.length = false := hok.imp (by intro h; omega) id
      rw [hr]
      by_cases e1 : k = 1
      · subst e1; exact bad_a _ W t l a1 c1 a2 c2 hok2
      by_cases e2 : k = 2
      · subst e2; exact bad_b _ W t l a1 c1 a2 c2 hok2
      by_cases e3 : k = 3
      · subst e3; exact bad_c _ W t l a1 c1 a2 c2 hok2
      by_cases e4 : k = 4
      · subst e4; exact bad_d _ W t l a1 c1 a2 c2 hok2
      exact bad_k k _ W t l a1 c1 a2 c2 e1 e2 e3 e4
    · have hok2 : okH k t l.length = true := by
        rcases h : okH k t l.length with _ | _
        · exact absurd (.inr h) hok
        · rfl
      have hok3 := (okH_iff _ _ _).1 hok2
      by_cases e1 : k = 1
      · subst e1; exact count_a f hf W t l a1 c1 a2 c2 hok
      by_cases e2 : k = 2
      · subst e2; exact count_b f hf ih W G t l a1 c1 a2 c2 V h2 hs hok
      by_cases e3 : k = 3
      · subst e3; exact count_c f hf ih W G t l a1 c1 a2 c2 V h2 hs hok
      by_cases e4 : k = 4
      · subst e4; exact count_d f hf ih W G t l a1 c1 a2 c2 V h2 hs hok
      omega
theorem count_any : ∀ (f : Nat), f < 9 → QCnt f
  | 0, hf => count_step 0 hf (fun g h => by omega)
  | f + 1, hf => count_step (f + 1) hf (fun g h => by obtain rfl : g = f := by omega
                                                      exact count_any g (by omega))
theorem ok_any (w : World) (G : Nat → Prop) (q : QT) (v0 v1 v2 : Value) (h : QAt w G q v0 v1 v2) : Calls Tryz.prog 30 #[.agg #[v0, v1, v2]] w fun e w' => e = .returned (.bool (okQ q)) ∧ Below w.heap.size w w' := by
  have HK : Hid (∀ W, Below w.heap.size w W → Calls Tryz.prog 50 #[.agg #[v0, v1, v2], .int .i64 1] W fun e w' => e = .returned (.int .i64 (cntF 8 q)) ∧ Below W.heap.size W w') := fun W hW => count_any 8 (by omega) W G q v0 v1 v2 (h.kept hW)
  have HB0 : Hid (∀ ob, Below w.heap.size w (w.alloc ob)) := fun ob => (Below.refl _ _).alloc (Nat.le_refl _) _
  obtain ⟨p1, n1, k1, p2, n2, k2, rfl, rfl, rfl⟩ := h.form
  have HY : Hid (decide (0 < cntF 8 q) = okQ q) := rfl
  have hz : ∀ ob, w.heap.size ≤ (w.alloc ob).heap.size := fun ob => by rw [World.size_alloc]; omega
  clear h
  generalize q.k = xk at *
  generalize cntF 8 q = c at *
  go_enter Tryz.func30, Tryz.ntmps30
  go_wp2_with (go_at_call 50; refine (HK.out _ (HB0.out _)).mono ?_; rintro e w4 ⟨rfl, hb4⟩)
  go_ret
  exact ⟨by show Ending.returned (.bool (decide (0 < c))) = _; rw [HY.out], below_next (HB0.out _) hb4 (hz _)⟩
end Go.Proofs.YtdcobmoeligdkaaGreatDoor
