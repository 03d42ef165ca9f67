/-
  concordanceref23.count, form, Ok: at any query.
-/
import Derived.Test.YtdcobmoeligdkaaGreatDoorCmRQ
namespace Go.Proofs.YtdcobmoeligdkaaGreatDoor
open Go.RowKit Go.Shelf

theorem rcntL_drop (c : Int → QT → Int) (m : Int) (l : List QT) (i : Nat) (hi : i < l.length) (n : Int) (hn : n ≤ 60) : rcntL c m n (l.drop i) = rcntL c m (n + c (m - n) l[i]) (l.drop (i + 1)) := by
  rw [List.drop_eq_getElem_cons hi, rcntL, if_pos hn]
def QRCnt (f : Nat) : Prop := ∀ (W : World) (G : Nat → Prop) (q : QT) (v0 v1 v2 : Value) (m : Int), QAt W G q v0 v1 v2 → -1000 ≤ m → m ≤ 61 →
  Calls Tryz.prog 53 #[.agg #[v0, v1, v2], .int .i64 (f : Int), .int .i64 m] W fun e w' => e = .returned (.int .i64 (rcnt f m q)) ∧ Below W.heap.size W w'
set_option maxRecDepth 100000 in
set_option maxHeartbeats 2000000 in
theorem rcount_zero : QRCnt 0 := by
  intro w G q v0 v1 v2 m h _ _
  obtain ⟨p1, n1, k1, p2, n2, k2, rfl, rfl, rfl⟩ := h.form
  rw [rcnt]
  clear h
  generalize q.k = x at *
  have e0 : ((0 : Nat) : Int) = 0 := rfl
  rw [e0]
  go_enter Tryz.func53, Tryz.ntmps53
  go_wp2
  go_ret
  exact ⟨rfl, (Below.refl _ _).alloc (Nat.le_refl _) _⟩
set_option maxRecDepth 100000 in
set_option maxHeartbeats 2000000 in
theorem rcount_step (g : Nat) (hg : g < 8) (ih : QRCnt g) : QRCnt (g + 1) := by
  intro w G q v0 v1 v2 m h hm1 hm2
  cases h with
  | mk k t l a1 c1 a2 c2 V h1 g1 m1 h2 g2 m2 hs =>
  have hml : l.length ≤ 9223372036854775807 := m2
  have hD : (((g + 1 : Nat) : Int) == 0) = false := by rw [beq_eq_false_iff_ne]; omega
  have hD2 : (((g + 1 : Nat) : Int)) - 1 = (g : Int) := by omega
  have hDb : 1 ≤ ((g + 1 : Nat) : Int) ∧ ((g + 1 : Nat) : Int) ≤ 10 := by omega
  clear h1 g1 m1 g2 m2
  generalize t.length = tn at *
  by_cases hm0 : m ≤ 0
  · have hR : rcnt (g + 1) m (.node k t l) = 1000 := by rw [rcnt, if_pos hm0]
    rw [hR]
    clear hR hs h2 hD2
    generalize ((g + 1 : Nat) : Int) = D at *
    go_enter Tryz.func53, Tryz.ntmps53
    go_wp2
    go_ret
    exact ⟨rfl, (Below.refl _ _).alloc (Nat.le_refl _) _⟩
  · have HC : Hid (rcnt (g + 1) m (.node k t l) = rcntL (rcnt g) m 1 l) := by show _ = _; rw [rcnt, if_neg hm0]
    have HIH : Hid (∀ i (hi : i < l.length) W (n : Int), Below w.heap.size w W → n ≤ 60 → 1 ≤ n → Calls Tryz.prog 53 #[.agg #[V (i * 3), V (i * 3 + 1), V (i * 3 + 2)], .int .i64 (g : Int), .int .i64 (m - n)] W fun e w' => e = .returned (.int .i64 (rcnt g (m - n) l[i])) ∧ Below W.heap.size W w') := fun i hi W n hW hn hn1 => ih W G l[i] _ _ _ (m - n) ((hs i hi).kept hW) (by omega) (by omega)
    have HIX := Lib.hid (run_ixQ (P := Tryz.prog) 23 3 (by kernel_rfl) (fun w => by kernel_rfl) a2 l.length c2 (h2.at_.imp (fun e => by omega) id))
    have HR := Lib.hid h2
    rw [HC.out]
    clear HC hs h2 ih
    generalize ((g + 1 : Nat) : Int) = D at *
    go_enter Tryz.func53, Tryz.ntmps53
    go_wp2
    have hb0 : Below w.heap.size w (w.alloc (.cells #[.int .i64 k, .slice a1 tn c1, .slice a2 l.length c2] 25)) := (Below.refl _ _).alloc (Nat.le_refl _) _
    have hx0 : (w.alloc (.cells #[.int .i64 k, .slice a1 tn c1, .slice a2 l.length c2] 25)).heap[w.heap.size]? = some (.cells #[.int .i64 k, .slice a1 tn c1, .slice a2 l.length c2] 25 (0, 0)) := World.alloc_heap_new w _
    have HX0 := Lib.hid hx0
    have HB2 := Lib.hid hb0
    clear hx0 hb0
    generalize (w.alloc (.cells #[.int .i64 k, .slice a1 tn c1, .slice a2 l.length c2] 25)) = w2 at *
    go_loopw [7, 8] (fun v7 v8 wr => ∃ (i : Nat) (n : Int), i ≤ l.length ∧ 1 ≤ n ∧ n ≤ 2000 ∧ v7 = .int .i64 n ∧ v8 = .int .i64 (i : Int) ∧ Below w2.heap.size w2 wr ∧ Hid (rcntL (rcnt g) m 1 l = rcntL (rcnt g) m n (l.drop i))) (fun _ v8 _ => l.length - (intOf v8).toNat)
    case atStart => exact ⟨0, 1, Nat.zero_le _, by omega, by omega, rfl, rfl, Below.refl _ _, by show _ = _; rw [List.drop_zero]⟩
    case round =>
      obtain ⟨i, n, hi, hn1, hn2, rfl, rfl, hb, hc⟩ := hrel
      have HB := Lib.hid hb
      clear hb
      have q0 := cell_of_row wr _ 2 _ _ _ ((HB.out.block _ (Array.getElem?_eq_some_iff.1 HX0.out).1).trans HX0.out)
      simp only [List.getElem?_toArray, List.getElem?_cons_succ, List.getElem?_cons_zero] at q0
      have HBW : Hid (Below w.heap.size w wr) := below_next HB2.out HB.out HB2.out.size
      by_cases hgo : i < l.length ∧ n ≤ 60
      · obtain ⟨hlt, hn60⟩ := hgo
        have HC2 : Hid (rcntL (rcnt g) m 1 l = rcntL (rcnt g) m (n + rcnt g (m - n) l[i]) (l.drop (i + 1))) := by
          show _ = _
          rw [hc.out, rcntL_drop _ _ _ _ hlt _ hn60]
        have hbd := rcnt_bd g (m - n) l[i]
        have hr2 := HR.out.kept HBW.out
        have e0 : oOf a2 + i * 3 + 1 = oOf a2 + (i * 3 + 1) := by omega
        have e1 : oOf a2 + i * 3 + 2 = oOf a2 + (i * 3 + 2) := by omega
        have p0 : wr.cell? ⟨bOf a2, oOf a2 + i * 3, none⟩ = some (V (i * 3)) := hr2.cell (i * 3) (by omega)
        have p1 : wr.cell? ⟨bOf a2, oOf a2 + i * 3 + 1, none⟩ = some (V (i * 3 + 1)) := by rw [e0]; exact hr2.cell _ (by omega)
        have p2 : wr.cell? ⟨bOf a2, oOf a2 + i * 3 + 2, none⟩ = some (V (i * 3 + 2)) := by rw [e1]; exact hr2.cell _ (by omega)
        have HK := Lib.hid (HIH.out i hlt wr n HBW.out hn60 hn1)
        have hx := fun W => HIX.out W i hlt
        clear e0 e1 hr2 hc
        generalize rcnt g (m - n) l[i] = cv at *
        generalize V (i * 3) = u0 at *
        generalize V (i * 3 + 1) = u1 at *
        generalize V (i * 3 + 2) = u2 at *
        go_wp2_with (go_at_call 53; refine HK.out.mono ?_; rintro e w4 ⟨rfl, hb4⟩; have HB4 := Lib.hid hb4; clear hb4)
        go_roundw
        case rel => exact ⟨i + 1, n + cv, by omega, by omega, by omega, rfl, by go_num, below_next HB.out HB4.out HB.out.size, HC2.out⟩
        case measure => simp [intOf]; omega
      · have HY : Hid (Ending.returned (.int .i64 n) = .returned (.int .i64 (rcntL (rcnt g) m 1 l))) := by
          show _ = _
          rw [hc.out]
          by_cases h : i < l.length
          · rw [rcntL_big _ _ _ _ (by omega)]
          · rw [List.drop_eq_nil_of_le (by omega), rcntL]
        clear hc
        by_cases hlt : i < l.length
        · have hnn : ¬ n ≤ 60 := by omega
          clear hgo
          go_wp2
          go_ret
          exact ⟨HY.out, HBW.out⟩
        · clear hgo
          go_wp2
          go_ret
          exact ⟨HY.out, HBW.out⟩
theorem rcount_any : ∀ f, f < 9 → QRCnt f
  | 0, _ => rcount_zero
  | f + 1, h => rcount_step f (by omega) (rcount_any f (by omega))
def QRForm (f : Nat) : Prop := ∀ (W : World) (G : Nat → Prop) (q : QT) (v0 v1 v2 : Value), QAt W G q v0 v1 v2 → deepF f q = true →
  Calls Tryz.prog 54 #[.agg #[v0, v1, v2]] W fun e w' => e = .returned (.bool (formF f q)) ∧ Below W.heap.size W w'
set_option maxRecDepth 100000 in
set_option maxHeartbeats 2000000 in
theorem rform_text (f : Nat) (w : World) (t : List UInt8) (l : List QT) (a1 : Option Addr) (c1 : Nat) (a2 : Option Addr) (c2 : Nat) (hl : l.length ≤ maxLen) (ht : t.length ≤ maxLen) :
    Calls Tryz.prog 54 #[.agg #[.int .i64 1, .slice a1 t.length c1, .slice a2 l.length c2]] w fun e w' => e = .returned (.bool (formF (f + 1) (.node 1 t l))) ∧ Below w.heap.size w w' := by
  obtain ⟨k, hk⟩ : ∃ k : Int, k = 1 := ⟨1, rfl⟩
  have HFalse : Hid (¬ (1 ≤ t.length ∧ t.length ≤ 100 ∧ l.length = 0) → formF (f + 1) (.node 1 t l) = false) := fun hn => by
    rw [formF]
    have hnk : okH 1 t l.length = false := by
      rw [Bool.eq_false_iff]
      intro h
      have := (okH_iff _ _ _).1 h
      omega
    rw [hnk, Bool.false_and]
  have HTrue : Hid ((1 ≤ t.length ∧ t.length ≤ 100 ∧ l.length = 0) → formF (f + 1) (.node 1 t l) = true) := fun hn => by
    rw [formF, (okH_iff _ _ _).2 (.inl ⟨rfl, hn⟩), Bool.true_and, List.eq_nil_of_length_eq_zero hn.2.2]; rfl
  have hl' : l.length ≤ 9223372036854775807 := hl
  have ht' : t.length ≤ 9223372036854775807 := ht
  clear hl ht hk k
  by_cases h1 : 1 ≤ t.length
  · by_cases h2 : t.length ≤ 100
    · by_cases h3 : l.length = 0
      · rw [HTrue.out ⟨h1, h2, h3⟩, h3]
        clear HTrue HFalse h3 hl'
        generalize t.length = tn at *
        go_enter Tryz.func54, Tryz.ntmps54
        go_wp2
        go_ret
        exact ⟨rfl, (Below.refl _ _).alloc (Nat.le_refl _) _⟩
      · rw [HFalse.out (fun h => h3 h.2.2)]
        have h3b : ((l.length : Int) == 0) = false := by rw [beq_eq_false_iff_ne]; omega
        clear HTrue HFalse h3
        generalize t.length = tn at *
        generalize l.length = ln at *
        go_enter Tryz.func54, Tryz.ntmps54
        go_wp2
        go_ret
        exact ⟨rfl, (Below.refl _ _).alloc (Nat.le_refl _) _⟩
    · rw [HFalse.out (fun h => h2 h.2.1)]
      clear HTrue HFalse
      generalize t.length = tn at *
      generalize l.length = ln at *
      go_enter Tryz.func54, Tryz.ntmps54
      go_wp2
      go_ret
      exact ⟨rfl, (Below.refl _ _).alloc (Nat.le_refl _) _⟩
  · rw [HFalse.out (fun h => h1 h.1)]
    clear HTrue HFalse
    generalize t.length = tn at *
    generalize l.length = ln at *
    go_enter Tryz.func54, Tryz.ntmps54
    go_wp2
    go_ret
    exact ⟨rfl, (Below.refl _ _).alloc (Nat.le_refl _) _⟩
set_option maxRecDepth 100000 in
set_option maxHeartbeats 2000000 in
theorem rform_no (f : Nat) (w : World) (k : Int) (t : List UInt8) (l : List QT) (a1 : Option Addr) (c1 : Nat) (a2 : Option Addr) (c2 : Nat) (e1 : k ≠ 1) (e2 : k ≠ 2) (e3 : k ≠ 3) (e4 : k ≠ 4) :
    Calls Tryz.prog 54 #[.agg #[.int .i64 k, .slice a1 t.length c1, .slice a2 l.length c2]] w fun e w' => e = .returned (.bool (formF (f + 1) (.node k t l))) ∧ Below w.heap.size w w' := by
  have HF : Hid (formF (f + 1) (.node k t l) = false) := by
    show _ = _
    rw [formF]
    have hnk : okH k t l.length = false := by
      rw [Bool.eq_false_iff]
      intro h
      have := (okH_iff _ _ _).1 h
      omega
    rw [hnk, Bool.false_and]
  rw [HF.out]
  have b1 : (k == 1) = false := by rw [beq_eq_false_iff_ne]; exact e1
  have b2 : (k == 2) = false := by rw [beq_eq_false_iff_ne]; exact e2
  have b3 : (k == 3) = false := by rw [beq_eq_false_iff_ne]; exact e3
  have b4 : (k == 4) = false := by rw [beq_eq_false_iff_ne]; exact e4
  clear HF
  generalize t.length = tn at *
  generalize l.length = ln at *
  go_enter Tryz.func54, Tryz.ntmps54
  go_wp2
  go_ret
  exact ⟨rfl, (Below.refl _ _).alloc (Nat.le_refl _) _⟩
set_option maxRecDepth 100000 in
set_option maxHeartbeats 2000000 in
theorem rform_not (f : Nat) (ih : QRForm f) (w : World) (G : Nat → Prop) (t : List UInt8) (l : List QT) (a1 : Option Addr) (c1 : Nat) (a2 : Option Addr) (c2 : Nat) (V : Nat → Value) (h2 : Row w a2 (l.length * 3) V) (hs : ∀ i (h : i < l.length), QAt w G l[i] (V (i * 3)) (V (i * 3 + 1)) (V (i * 3 + 2))) (hd : l.all (deepF f) = true) (hl : l.length ≤ maxLen) (ht : t.length ≤ maxLen) :
    Calls Tryz.prog 54 #[.agg #[.int .i64 4, .slice a1 t.length c1, .slice a2 l.length c2]] w fun e w' => e = .returned (.bool (formF (f + 1) (.node 4 t l))) ∧ Below w.heap.size w w' := by
  have HFalse : Hid (¬ (t.length = 0 ∧ l.length = 1) → formF (f + 1) (.node 4 t l) = false) := fun hn => by
    rw [formF]
    have hnk : okH 4 t l.length = false := by
      rw [Bool.eq_false_iff]
      intro h
      have := (okH_iff _ _ _).1 h
      omega
    rw [hnk, Bool.false_and]
  have hl' : l.length ≤ 9223372036854775807 := hl
  have ht' : t.length ≤ 9223372036854775807 := ht
  clear hl ht
  by_cases h1 : t.length = 0
  · by_cases h3 : l.length = 1
    · obtain ⟨x, rfl⟩ := List.length_eq_one_iff.1 h3
      have hF : formF (f + 1) (.node 4 t [x]) = formF f x := by
        rw [formF, (okH_iff _ _ _).2 (.inr (.inl ⟨rfl, h1, h3⟩)), Bool.true_and, List.all_cons, List.all_nil, Bool.and_true]
      have hdx : deepF f x = true := by rw [List.all_cons, Bool.and_eq_true] at hd; exact hd.1
      rw [hF]
      have hq := hs 0 (by simp)
      have HIX := Lib.hid (run_ixQ (P := Tryz.prog) 23 3 (by kernel_rfl) (fun w => by kernel_rfl) a2 1 c2 (h2.at_.imp (fun e => by simp at e) id))
      have hix : ∀ W : World, (Instr.indexAt 23 (.slice a2 1 c2) (.int .i64 0)).run Tryz.prog W = .ok (.pointer (some ⟨bOf a2, oOf a2, none⟩)) W := fun W => by simpa using HIX.out W 0 (by omega)
      have HB0 : Hid (∀ ob, Below w.heap.size w (w.alloc ob)) := fun ob => (Below.refl _ _).alloc (Nat.le_refl _) _
      have hz : ∀ ob, w.heap.size ≤ (w.alloc ob).heap.size := fun ob => by rw [World.size_alloc]; omega
      have HT : Hid (∀ W, Below w.heap.size w W → Calls Tryz.prog 54 #[.agg #[V 0, V 1, V 2]] W fun e w' => e = .returned (.bool (formF f x)) ∧ Below W.heap.size W w') := fun W hW => ih W G x _ _ _ (hq.kept hW) hdx
      have hdd : ∀ ob j, j < 3 → (w.alloc ob).cell? ⟨bOf a2, oOf a2 + j, none⟩ = some (V j) := fun ob j hj => (h2.kept (HB0.out ob)).cell j (by simpa using hj)
      have d0 := fun ob => hdd ob 0 (by omega)
      have d1 := fun ob => hdd ob 1 (by omega)
      have d2 := fun ob => hdd ob 2 (by omega)
      rw [Nat.add_zero] at d0
      have e1 : ([x] : List QT).length = 1 := rfl
      rw [h1, e1]
      clear hdd HIX hq hs h2 ih hd hdx hF h3 h1 ht' hl' e1 HFalse
      generalize V 0 = u0 at *
      generalize V 1 = u1 at *
      generalize V 2 = u2 at *
      generalize formF f x = R at *
      go_enter Tryz.func54, Tryz.ntmps54
      go_wp2_with (go_at_call 54; refine (HT.out _ (HB0.out _)).mono ?_; rintro e w4 ⟨rfl, hb4⟩)
      go_ret
      exact ⟨rfl, below_next (HB0.out _) hb4 (hz _)⟩
    · rw [HFalse.out (fun h => h3 h.2), h1]
      have h3b : ((l.length : Int) == 1) = false := by rw [beq_eq_false_iff_ne]; omega
      clear HFalse h3 hs h2 ih hd h1 ht'
      generalize l.length = ln at *
      go_enter Tryz.func54, Tryz.ntmps54
      go_wp2
      go_ret
      exact ⟨rfl, (Below.refl _ _).alloc (Nat.le_refl _) _⟩
  · rw [HFalse.out (fun h => h1 h.1)]
    have h1b : ((t.length : Int) == 0) = false := by rw [beq_eq_false_iff_ne]; omega
    clear HFalse hs h2 ih hd h1
    generalize l.length = ln at *
    generalize t.length = tn at *
    go_enter Tryz.func54, Tryz.ntmps54
    go_wp2
    go_ret
    exact ⟨rfl, (Below.refl _ _).alloc (Nat.le_refl _) _⟩
set_option maxRecDepth 100000 in
set_option maxHeartbeats 2000000 in
theorem rform_and (f : Nat) (ih : QRForm f) (w : World) (G : Nat → Prop) (t : List UInt8) (l : List QT) (a1 : Option Addr) (c1 : Nat) (a2 : Option Addr) (c2 : Nat) (V : Nat → Value) (h2 : Row w a2 (l.length * 3) V) (hs : ∀ i (h : i < l.length), QAt w G l[i] (V (i * 3)) (V (i * 3 + 1)) (V (i * 3 + 2))) (hd : l.all (deepF f) = true) (hl : l.length ≤ maxLen) (ht : t.length ≤ maxLen) :
    Calls Tryz.prog 54 #[.agg #[.int .i64 2, .slice a1 t.length c1, .slice a2 l.length c2]] w fun e w' => e = .returned (.bool (formF (f + 1) (.node 2 t l))) ∧ Below w.heap.size w w' := by
  have HFalse : Hid (¬ (t.length = 0 ∧ 2 ≤ l.length ∧ l.length ≤ 8) → formF (f + 1) (.node 2 t l) = false) := fun hn => by
    rw [formF]
    have hnk : okH 2 t l.length = false := by
      rw [Bool.eq_false_iff]
      intro h
      have := (okH_iff _ _ _).1 h
      omega
    rw [hnk, Bool.false_and]
  have HBad : Hid (∀ i (hi : i < l.length), formF f l[i] = false → formF (f + 1) (.node 2 t l) = false) := fun i hi h => by
    rw [formF]
    have : l.all (formF f) = false := by
      rw [Bool.eq_false_iff]
      intro h'
      rw [List.all_eq_true] at h'
      rw [h' _ (List.getElem_mem hi)] at h; cases h
    rw [this, Bool.and_false]
  have HTrue : Hid ((t.length = 0 ∧ 2 ≤ l.length ∧ l.length ≤ 8) → (∀ i (hi : i < l.length), formF f l[i] = true) → formF (f + 1) (.node 2 t l) = true) := fun hn ha => by
    rw [formF, (okH_iff _ _ _).2 (.inr (.inr ⟨by omega, hn⟩)), Bool.true_and, List.all_eq_true]
    intro x hx
    obtain ⟨i, hi, rfl⟩ := List.getElem_of_mem hx
    exact ha i hi
  have hl' : l.length ≤ 9223372036854775807 := hl
  have ht' : t.length ≤ 9223372036854775807 := ht
  have HIH : Hid (∀ i (hi : i < l.length) W, Below w.heap.size w W → Calls Tryz.prog 54 #[.agg #[V (i * 3), V (i * 3 + 1), V (i * 3 + 2)]] W fun e w' => e = .returned (.bool (formF f l[i])) ∧ Below W.heap.size W w') := fun i hi W hW => ih W G l[i] _ _ _ ((hs i hi).kept hW) (by rw [List.all_eq_true] at hd; exact hd _ (List.getElem_mem hi))
  have HIX := Lib.hid (run_ixQ (P := Tryz.prog) 23 3 (by kernel_rfl) (fun w => by kernel_rfl) a2 l.length c2 (h2.at_.imp (fun e => by omega) id))
  have HR := Lib.hid h2
  clear hl ht hs h2 ih hd
  generalize formF (f + 1) (.node 2 t l) = R at *
  generalize t.length = tn at *
  go_enter Tryz.func54, Tryz.ntmps54
  go_wp2
  have hb0 : Below w.heap.size w (w.alloc (.cells #[.int .i64 2, .slice a1 tn c1, .slice a2 l.length c2] 25)) := (Below.refl _ _).alloc (Nat.le_refl _) _
  have hx0 : (w.alloc (.cells #[.int .i64 2, .slice a1 tn c1, .slice a2 l.length c2] 25)).heap[w.heap.size]? = some (.cells #[.int .i64 2, .slice a1 tn c1, .slice a2 l.length c2] 25 (0, 0)) := World.alloc_heap_new w _
  have HX0 := Lib.hid hx0
  have HB2 := Lib.hid hb0
  clear hx0 hb0
  generalize (w.alloc (.cells #[.int .i64 2, .slice a1 tn c1, .slice a2 l.length c2] 25)) = w2 at *
  go_loopw [4] (fun v4 wr => ∃ (i : Nat), i ≤ l.length ∧ v4 = .int .i64 (i : Int) ∧ Below w2.heap.size w2 wr ∧ Hid (∀ j (hj : j < l.length), j < i → formF f l[j] = true)) (fun v4 _ => l.length - (intOf v4).toNat)
  case atStart => exact ⟨0, Nat.zero_le _, rfl, Below.refl _ _, fun j _ h => absurd h (Nat.not_lt_zero j)⟩
  case round =>
    obtain ⟨i, hi, rfl, hb, HA⟩ := hrel
    have HB := Lib.hid hb
    clear hb
    have hxx := (HB.out.block _ (Array.getElem?_eq_some_iff.1 HX0.out).1).trans HX0.out
    have q2 := cell_of_row wr _ 2 _ _ _ hxx
    have q1 := cell_of_row wr _ 1 _ _ _ hxx
    simp only [List.getElem?_toArray, List.getElem?_cons_succ, List.getElem?_cons_zero] at q1 q2
    have HBW : Hid (Below w.heap.size w wr) := below_next HB2.out HB.out HB2.out.size
    clear hxx
    by_cases hlt : i < l.length
    · have hr2 := HR.out.kept HBW.out
      have e0 : oOf a2 + i * 3 + 1 = oOf a2 + (i * 3 + 1) := by omega
      have e1 : oOf a2 + i * 3 + 2 = oOf a2 + (i * 3 + 2) := by omega
      have p0 : wr.cell? ⟨bOf a2, oOf a2 + i * 3, none⟩ = some (V (i * 3)) := hr2.cell (i * 3) (by omega)
      have p1 : wr.cell? ⟨bOf a2, oOf a2 + i * 3 + 1, none⟩ = some (V (i * 3 + 1)) := by rw [e0]; exact hr2.cell _ (by omega)
      have p2 : wr.cell? ⟨bOf a2, oOf a2 + i * 3 + 2, none⟩ = some (V (i * 3 + 2)) := by rw [e1]; exact hr2.cell _ (by omega)
      have HK := Lib.hid (HIH.out i hlt wr HBW.out)
      have hx := fun W => HIX.out W i hlt
      have HBi := Lib.hid (HBad.out i hlt)
      have HNX : Hid (formF f l[i] = true → ∀ j (hj : j < l.length), j < i + 1 → formF f l[j] = true) := fun he j hj hji => by
        rcases Nat.lt_or_ge j i with h | h
        · exact HA.out j hj h
        · obtain rfl : j = i := by omega
          exact he
      clear e0 e1 hr2 HA
      generalize formF f l[i] = bv at *
      generalize V (i * 3) = u0 at *
      generalize V (i * 3 + 1) = u1 at *
      generalize V (i * 3 + 2) = u2 at *
      cases bv with
      | true =>
        have HN2 := Lib.hid (HNX.out rfl)
        clear HNX HBi
        go_wp2_with (go_at_call 54; refine HK.out.mono ?_; rintro e w4 ⟨rfl, hb4⟩; have HB4 := Lib.hid hb4; clear hb4)
        go_roundw
        case rel => exact ⟨i + 1, by omega, by go_num, below_next HB.out HB4.out HB.out.size, HN2⟩
        case measure => simp [intOf]; omega
      | false =>
        have HRF : Hid (R = false) := HBi.out rfl
        clear HNX HBi
        go_wp2_with (go_at_call 54; refine HK.out.mono ?_; rintro e w4 ⟨rfl, hb4⟩; have HB4 := Lib.hid hb4; clear hb4)
        go_ret
        exact ⟨by rw [HRF.out]; rfl, below_next HBW.out HB4.out HBW.out.size⟩
    · obtain rfl : i = l.length := by omega
      have hd : decide ((l.length : Int) < (l.length : Int)) = false := by simp
      have HAll : Hid (∀ j (hj : j < l.length), formF f l[j] = true) := fun j hj => HA.out j hj hj
      clear HA
      by_cases h1 : tn = 0
      · by_cases h22 : 2 ≤ l.length
        · by_cases h8 : l.length ≤ 8
          · have HRF : Hid (R = true) := HTrue.out ⟨h1, h22, h8⟩ HAll.out
            rw [h1] at q1
            clear h1 ht'
            go_wp2
            go_ret
            exact ⟨by rw [HRF.out]; exact congrArg (fun b => Ending.returned (.bool b)) (decide_eq_true (by omega)), HBW.out⟩
          · have HRF : Hid (R = false) := HFalse.out (fun h => h8 h.2.2)
            rw [h1] at q1
            clear h1 ht'
            go_wp2
            go_ret
            exact ⟨by rw [HRF.out]; exact congrArg (fun b => Ending.returned (.bool b)) (decide_eq_false (by omega)), HBW.out⟩
        · have HRF : Hid (R = false) := HFalse.out (fun h => h22 h.2.1)
          rw [h1] at q1
          clear h1 ht'
          go_wp2
          go_ret
          exact ⟨by rw [HRF.out]; rfl, HBW.out⟩
      · have HRF : Hid (R = false) := HFalse.out (fun h => h1 h.1)
        have h1b : ((tn : Int) == 0) = false := by rw [beq_eq_false_iff_ne]; omega
        clear h1
        go_wp2
        go_ret
        exact ⟨by rw [HRF.out]; rfl, HBW.out⟩
set_option maxRecDepth 100000 in
set_option maxHeartbeats 2000000 in
theorem rform_or (f : Nat) (ih : QRForm f) (w : World) (G : Nat → Prop) (t : List UInt8) (l : List QT) (a1 : Option Addr) (c1 : Nat) (a2 : Option Addr) (c2 : Nat) (V : Nat → Value) (h2 : Row w a2 (l.length * 3) V) (hs : ∀ i (h : i < l.length), QAt w G l[i] (V (i * 3)) (V (i * 3 + 1)) (V (i * 3 + 2))) (hd : l.all (deepF f) = true) (hl : l.length ≤ maxLen) (ht : t.length ≤ maxLen) :
    Calls Tryz.prog 54 #[.agg #[.int .i64 3, .slice a1 t.length c1, .slice a2 l.length c2]] w fun e w' => e = .returned (.bool (formF (f + 1) (.node 3 t l))) ∧ Below w.heap.size w w' := by
  have HFalse : Hid (¬ (t.length = 0 ∧ 2 ≤ l.length ∧ l.length ≤ 8) → formF (f + 1) (.node 3 t l) = false) := fun hn => by
    rw [formF]
    have hnk : okH 3 t l.length = false := by
      rw [Bool.eq_false_iff]
      intro h
      have := (okH_iff _ _ _).1 h
      omega
    rw [hnk, Bool.false_and]
  have HBad : Hid (∀ i (hi : i < l.length), formF f l[i] = false → formF (f + 1) (.node 3 t l) = false) := fun i hi h => by
    rw [formF]
    have : l.all (formF f) = false := by
      rw [Bool.eq_false_iff]
      intro h'
      rw [List.all_eq_true] at h'
      rw [h' _ (List.getElem_mem hi)] at h; cases h
    rw [this, Bool.and_false]
  have HTrue : Hid ((t.length = 0 ∧ 2 ≤ l.length ∧ l.length ≤ 8) → (∀ i (hi : i < l.length), formF f l[i] = true) → formF (f + 1) (.node 3 t l) = true) := fun hn ha => by
    rw [formF, (okH_iff _ _ _).2 (.inr (.inr ⟨by omega, hn⟩)), Bool.true_and, List.all_eq_true]
    intro x hx
    obtain ⟨i, hi, rfl⟩ := List.getElem_of_mem hx
    exact ha i hi
  have hl' : l.length ≤ 9223372036854775807 := hl
  have ht' : t.length ≤ 9223372036854775807 := ht
  have HIH : Hid (∀ i (hi : i < l.length) W, Below w.heap.size w W → Calls Tryz.prog 54 #[.agg #[V (i * 3), V (i * 3 + 1), V (i * 3 + 2)]] W fun e w' => e = .returned (.bool (formF f l[i])) ∧ Below W.heap.size W w') := fun i hi W hW => ih W G l[i] _ _ _ ((hs i hi).kept hW) (by rw [List.all_eq_true] at hd; exact hd _ (List.getElem_mem hi))
  have HIX := Lib.hid (run_ixQ (P := Tryz.prog) 23 3 (by kernel_rfl) (fun w => by kernel_rfl) a2 l.length c2 (h2.at_.imp (fun e => by omega) id))
  have HR := Lib.hid h2
  clear hl ht hs h2 ih hd
  generalize formF (f + 1) (.node 3 t l) = R at *
  generalize t.length = tn at *
  go_enter Tryz.func54, Tryz.ntmps54
  go_wp2
  have hb0 : Below w.heap.size w (w.alloc (.cells #[.int .i64 3, .slice a1 tn c1, .slice a2 l.length c2] 25)) := (Below.refl _ _).alloc (Nat.le_refl _) _
  have hx0 : (w.alloc (.cells #[.int .i64 3, .slice a1 tn c1, .slice a2 l.length c2] 25)).heap[w.heap.size]? = some (.cells #[.int .i64 3, .slice a1 tn c1, .slice a2 l.length c2] 25 (0, 0)) := World.alloc_heap_new w _
  have HX0 := Lib.hid hx0
  have HB2 := Lib.hid hb0
  clear hx0 hb0
  generalize (w.alloc (.cells #[.int .i64 3, .slice a1 tn c1, .slice a2 l.length c2] 25)) = w2 at *
  go_loopw [4] (fun v4 wr => ∃ (i : Nat), i ≤ l.length ∧ v4 = .int .i64 (i : Int) ∧ Below w2.heap.size w2 wr ∧ Hid (∀ j (hj : j < l.length), j < i → formF f l[j] = true)) (fun v4 _ => l.length - (intOf v4).toNat)
  case atStart => exact ⟨0, Nat.zero_le _, rfl, Below.refl _ _, fun j _ h => absurd h (Nat.not_lt_zero j)⟩
  case round =>
    obtain ⟨i, hi, rfl, hb, HA⟩ := hrel
    have HB := Lib.hid hb
    clear hb
    have hxx := (HB.out.block _ (Array.getElem?_eq_some_iff.1 HX0.out).1).trans HX0.out
    have q2 := cell_of_row wr _ 2 _ _ _ hxx
    have q1 := cell_of_row wr _ 1 _ _ _ hxx
    simp only [List.getElem?_toArray, List.getElem?_cons_succ, List.getElem?_cons_zero] at q1 q2
    have HBW : Hid (Below w.heap.size w wr) := below_next HB2.out HB.out HB2.out.size
    clear hxx
    by_cases hlt : i < l.length
    · have hr2 := HR.out.kept HBW.out
      have e0 : oOf a2 + i * 3 + 1 = oOf a2 + (i * 3 + 1) := by omega
      have e1 : oOf a2 + i * 3 + 2 = oOf a2 + (i * 3 + 2) := by omega
      have p0 : wr.cell? ⟨bOf a2, oOf a2 + i * 3, none⟩ = some (V (i * 3)) := hr2.cell (i * 3) (by omega)
      have p1 : wr.cell? ⟨bOf a2, oOf a2 + i * 3 + 1, none⟩ = some (V (i * 3 + 1)) := by rw [e0]; exact hr2.cell _ (by omega)
      have p2 : wr.cell? ⟨bOf a2, oOf a2 + i * 3 + 2, none⟩ = some (V (i * 3 + 2)) := by rw [e1]; exact hr2.cell _ (by omega)
      have HK := Lib.hid (HIH.out i hlt wr HBW.out)
      have hx := fun W => HIX.out W i hlt
      have HBi := Lib.hid (HBad.out i hlt)
      have HNX : Hid (formF f l[i] = true → ∀ j (hj : j < l.length), j < i + 1 → formF f l[j] = true) := fun he j hj hji => by
        rcases Nat.lt_or_ge j i with h | h
        · exact HA.out j hj h
        · obtain rfl : j = i := by omega
          exact he
      clear e0 e1 hr2 HA
      generalize formF f l[i] = bv at *
      generalize V (i * 3) = u0 at *
      generalize V (i * 3 + 1) = u1 at *
      generalize V (i * 3 + 2) = u2 at *
      cases bv with
      | true =>
        have HN2 := Lib.hid (HNX.out rfl)
        clear HNX HBi
        go_wp2_with (go_at_call 54; refine HK.out.mono ?_; rintro e w4 ⟨rfl, hb4⟩; have HB4 := Lib.hid hb4; clear hb4)
        go_roundw
        case rel => exact ⟨i + 1, by omega, by go_num, below_next HB.out HB4.out HB.out.size, HN2⟩
        case measure => simp [intOf]; omega
      | false =>
        have HRF : Hid (R = false) := HBi.out rfl
        clear HNX HBi
        go_wp2_with (go_at_call 54; refine HK.out.mono ?_; rintro e w4 ⟨rfl, hb4⟩; have HB4 := Lib.hid hb4; clear hb4)
        go_ret
        exact ⟨by rw [HRF.out]; rfl, below_next HBW.out HB4.out HBW.out.size⟩
    · obtain rfl : i = l.length := by omega
      have hd : decide ((l.length : Int) < (l.length : Int)) = false := by simp
      have HAll : Hid (∀ j (hj : j < l.length), formF f l[j] = true) := fun j hj => HA.out j hj hj
      clear HA
      by_cases h1 : tn = 0
      · by_cases h22 : 2 ≤ l.length
        · by_cases h8 : l.length ≤ 8
          · have HRF : Hid (R = true) := HTrue.out ⟨h1, h22, h8⟩ HAll.out
            rw [h1] at q1
            clear h1 ht'
            go_wp2
            go_ret
            exact ⟨by rw [HRF.out]; exact congrArg (fun b => Ending.returned (.bool b)) (decide_eq_true (by omega)), HBW.out⟩
          · have HRF : Hid (R = false) := HFalse.out (fun h => h8 h.2.2)
            rw [h1] at q1
            clear h1 ht'
            go_wp2
            go_ret
            exact ⟨by rw [HRF.out]; exact congrArg (fun b => Ending.returned (.bool b)) (decide_eq_false (by omega)), HBW.out⟩
        · have HRF : Hid (R = false) := HFalse.out (fun h => h22 h.2.1)
          rw [h1] at q1
          clear h1 ht'
          go_wp2
          go_ret
          exact ⟨by rw [HRF.out]; rfl, HBW.out⟩
      · have HRF : Hid (R = false) := HFalse.out (fun h => h1 h.1)
        have h1b : ((tn : Int) == 0) = false := by rw [beq_eq_false_iff_ne]; omega
        clear h1
        go_wp2
        go_ret
        exact ⟨by rw [HRF.out]; rfl, HBW.out⟩
theorem rform_any : ∀ f, QRForm f
  | 0 => fun W G q v0 v1 v2 h hd => by rw [deepF] at hd; cases hd
  | f + 1 => fun W G q v0 v1 v2 h hd => by
    have ih := rform_any f
    cases h with
    | mk k t l a1 c1 a2 c2 V h1 g1 m1 h2 g2 m2 hs =>
      rw [deepF] at hd
      by_cases e1 : k = 1
      · subst e1; exact rform_text f W t l a1 c1 a2 c2 m2 m1
      by_cases e2 : k = 2
      · subst e2; exact rform_and f ih W G t l a1 c1 a2 c2 V h2 hs hd m2 m1
      by_cases e3 : k = 3
      · subst e3; exact rform_or f ih W G t l a1 c1 a2 c2 V h2 hs hd m2 m1
      by_cases e4 : k = 4
      · subst e4; exact rform_not f ih W G t l a1 c1 a2 c2 V h2 hs hd m2 m1
      exact rform_no f W k t l a1 c1 a2 c2 e1 e2 e3 e4
set_option maxRecDepth 100000 in
set_option maxHeartbeats 1000000 in
theorem rok_any (w : World) (G : Nat → Prop) (q : QT) (v0 v1 v2 : Value) (h : QAt w G q v0 v1 v2) : Calls Tryz.prog 37 #[.agg #[v0, v1, v2]] w fun e w' => e = .returned (.bool (okQ q)) ∧ Below w.heap.size w w' := by
  have HK : Hid (∀ W, Below w.heap.size w W → Calls Tryz.prog 53 #[.agg #[v0, v1, v2], .int .i64 8, .int .i64 61] W fun e w' => e = .returned (.int .i64 (rcnt 8 61 q)) ∧ Below W.heap.size W w') := fun W hW => rcount_any 8 (by omega) W G q v0 v1 v2 61 (h.kept hW) (by omega) (by omega)
  have HFM : Hid (rcnt 8 61 q ≤ 60 → ∀ W, Below w.heap.size w W → Calls Tryz.prog 54 #[.agg #[v0, v1, v2]] W fun e w' => e = .returned (.bool (formF 8 q)) ∧ Below W.heap.size W w') := fun hr W hW => rform_any 8 W G q v0 v1 v2 (h.kept hW) (rcnt_small 8 61 q hr).1
  have HO : Hid (okQ q = true ↔ (rcnt 8 61 q ≤ 60 ∧ formF 8 q = true)) := okQ_iff q
  have hbd := rcnt_bd 8 61 q
  obtain ⟨p1, n1, k1, p2, n2, k2, rfl, rfl, rfl⟩ := h.form
  clear h
  have hb0 : Below w.heap.size w (w.alloc (.cells #[.int .i64 q.k, .slice p1 n1 k1, .slice p2 n2 k2] 25)) := (Below.refl _ _).alloc (Nat.le_refl _) _
  have hx0 : (w.alloc (.cells #[.int .i64 q.k, .slice p1 n1 k1, .slice p2 n2 k2] 25)).heap[w.heap.size]? = some (.cells #[.int .i64 q.k, .slice p1 n1 k1, .slice p2 n2 k2] 25 (0, 0)) := World.alloc_heap_new w _
  have HX0 := Lib.hid hx0
  have HB0 := Lib.hid hb0
  clear hx0 hb0
  generalize okQ q = R at *
  generalize formF 8 q = F at *
  generalize rcnt 8 61 q = C at *
  generalize q.k = x at *
  by_cases hc : C ≤ 60
  · have HF2 := Lib.hid (HFM.out hc)
    have HR : Hid (R = F) := by
      show _ = _
      cases F with
      | true => exact HO.out.2 ⟨hc, rfl⟩
      | false => rw [Bool.eq_false_iff]; intro h; exact Bool.noConfusion (HO.out.1 h).2
    clear HFM HO
    go_enter Tryz.func37, Tryz.ntmps37
    go_wp2_with (first
      | (go_at_call 53; refine (HK.out _ HB0.out).mono ?_; rintro e w4 ⟨rfl, hb4⟩; have HB4 := Lib.hid (below_next HB0.out hb4 HB0.out.size); have g4 := (hb4.block w.heap.size (Array.getElem?_eq_some_iff.1 HX0.out).1).trans HX0.out; have d0 := cell_of_row w4 _ 0 _ _ _ g4; have d1 := cell_of_row w4 _ 1 _ _ _ g4; have d2 := cell_of_row w4 _ 2 _ _ _ g4; simp only [List.getElem?_toArray, List.getElem?_cons_succ, List.getElem?_cons_zero] at d0 d1 d2; clear hb4 g4)
      | (go_at_call 54; refine (HF2.out _ HB4.out).mono ?_; rintro e w5 ⟨rfl, hb5⟩))
    go_ret
    exact ⟨by rw [HR.out]; rfl, below_next HB4.out hb5 HB4.out.size⟩
  · have HR : Hid (R = false) := by show _ = _; rw [Bool.eq_false_iff]; intro h; exact hc (HO.out.1 h).1
    clear HFM HO
    go_enter Tryz.func37, Tryz.ntmps37
    go_wp2_with (go_at_call 53; refine (HK.out _ HB0.out).mono ?_; rintro e w4 ⟨rfl, hb4⟩; have HB4 := Lib.hid (below_next HB0.out hb4 HB0.out.size); clear hb4)
    go_ret
    exact ⟨by rw [HR.out]; rfl, HB4.out⟩
end Go.Proofs.YtdcobmoeligdkaaGreatDoor
