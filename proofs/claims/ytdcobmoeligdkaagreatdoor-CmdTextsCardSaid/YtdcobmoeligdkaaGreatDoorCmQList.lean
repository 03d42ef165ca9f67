/-
  query.list: the walk; query.read at any depth.
-/
import Derived.Test.YtdcobmoeligdkaaGreatDoorCmQListI
namespace Go.Proofs.YtdcobmoeligdkaaGreatDoor
open Go.RowKit Go.Shelf
attribute [local go_sem] Oper.semAt_some

theorem info_q : (Tryz.prog.info? 25).map (fun i => (i.zero, i.size, i.bytes)) = some (some (.agg #[.int .i64 0, .slice none 0 0, .slice none 0 0]), 3, 56) := by kernel_rfl
theorem cells_new (w : World) (cs : Array Value) (t : TypeId) : ∀ j u, cs.toList[j]? = some u → (w.alloc (.cells cs t)).cell? ((⟨w.heap.size, 0, none⟩ : Addr).add j) = some u := by
  intro j u hu
  have hadd : (⟨w.heap.size, 0, none⟩ : Addr).add j = ⟨w.heap.size, j, none⟩ := by unfold Addr.add; split <;> simp_all
  rw [hadd, cell_of_row _ _ j _ _ _ (World.alloc_heap_new w (.cells cs t))]
  simpa using hu
theorem own_cap {w : World} {base : Nat} {e : TypeId} {size : Nat} {g : Addr} {n cap : Nat} {xs : List Value} (h : w.ownsRow base e size (.slice (some g) n cap) n xs) : n ≤ cap := by
  rcases h.2 with ⟨h1, _⟩ | ⟨g', cap', cur, h1, _, _, h2, _⟩
  · cases h1
  · injection h1 with _ _ h3
    omega
theorem grow_at {w : World} {acc : List QT} {k : Int} {v2 : Value} {xs : List Value} {W W1 wq q : World} {x : QT} {u0 u1 u2 : Value} {g cap n : Nat} (hal : acc.length = n) (h : LInv w acc k v2 xs W) (hq : Below W.heap.size W q) (h1 : Below q.heap.size q W1) (hx : QAt q (fun b => W.heap.size ≤ b) x u0 u1 u2)
    (ho : wq.ownsRow (w.heap.size + 2) 25 3 (.slice (some ⟨g, 0, none⟩) (n + 1) cap) (n + 1) (xs ++ [u0, u1, u2])) (hg : W1.grownBy wq v2.ownBlock) (hat : v2.ownBlock = some g ∨ g = W1.heap.size) :
    LInv w (acc ++ [x]) k (.slice (some ⟨g, 0, none⟩) (n + 1) cap) (xs ++ [u0, u1, u2]) (wq.setCell ⟨w.heap.size + 1, 2, none⟩ (.slice (some ⟨g, 0, none⟩) (n + 1) cap)) := by
  subst hal
  exact LInv.grow h hq h1 hx ho hg hat
theorem grow_q {w : World} {acc : List QT} {k : Int} {v2 : Value} {xs : List Value} {W1 wq : World} (h : LInv w acc k v2 xs W1) (hlo : ∀ j, v2.ownBlock = some j → w.heap.size + 2 ≤ j ∧ j < W1.heap.size) (hg : W1.grownBy wq v2.ownBlock) : wq.heap[w.heap.size + 1]? = some (.cells #[.int .i64 k, .slice none 0 0, v2] 25 (0, 0)) :=
  (hg.block _ (by have := h.s; omega) (fun e => by have := (hlo _ e.symm).1; omega)).trans h.q
theorem grow_r {w : World} {acc : List QT} {k : Int} {v2 : Value} {xs : List Value} {W1 wq : World} (h : LInv w acc k v2 xs W1) (hlo : ∀ j, v2.ownBlock = some j → w.heap.size + 2 ≤ j ∧ j < W1.heap.size) (hg : W1.grownBy wq v2.ownBlock) : wq.heap[w.heap.size]? = some (.cells #[.int .i64 0, .slice none 0 0, .slice none 0 0] 25 (0, 0)) :=
  (hg.block _ (by have := h.s; omega) (fun e => by have := (hlo _ e.symm).1; omega)).trans h.r
set_option maxRecDepth 100000 in
set_option maxHeartbeats 4000000 in
theorem list_step (f : Nat) (hf : f < 8) (ih : QRead f) : QList f := by
  intro w s hs
  obtain ⟨iq, hiq, hxq0, hxq1, hxq2⟩ := info_parts info_q
  have hD2 : (8 - (f : Int)) + 1 = 9 - (f : Int) := by omega
  have hDr : 0 ≤ (8 - (f : Int)) ∧ (8 - (f : Int)) ≤ 8 := by omega
  have HIH : Hid (∀ (W : World) (t : List UInt8), t.length ≤ 100000 → Calls Tryz.prog 63 #[.string (uS t), .int .i64 (9 - (f : Int))] W (RP W (readF f t))) := ih
  rw [← hD2] at HIH
  clear ih hD2
  have HLEN : Hid (∀ (t : List UInt8) p, readF f t = some p → p.2.length < t.length) := readF_len f
  generalize (8 - (f : Int)) = D at *
  generalize readF f = rd at *
  have hI0 : LInv w [] 0 (.slice none 0 0) [] ((w.alloc (.cells #[.int .i64 0, .slice none 0 0, .slice none 0 0] 25)).alloc (.cells #[.int .i64 0, .slice none 0 0, .slice none 0 0] 25)) := by
    refine ⟨?_, ?_, World.ownsRow_nil _ _ _ _, fun i hi => absurd hi (Nat.not_lt_zero i), ((Below.refl _ _).alloc (Nat.le_refl _) _).alloc (by simp) _, by simp⟩
    · have := World.alloc_heap_new (w.alloc (.cells #[.int .i64 0, .slice none 0 0, .slice none 0 0] 25)) (.cells #[.int .i64 0, .slice none 0 0, .slice none 0 0] 25)
      rwa [World.size_alloc] at this
    · exact (Below.heap_alloc _ _ _ (by rw [World.size_alloc]; omega)).trans (World.alloc_heap_new w _)
  have HI0 := Lib.hid hI0
  clear hI0
  go_enter Tryz.func79, Tryz.ntmps79
  go_wp2
  generalize ((w.alloc (.cells #[.int .i64 0, .slice none 0 0, .slice none 0 0] 25)).alloc (.cells #[.int .i64 0, .slice none 0 0, .slice none 0 0] 25)) = w0 at *
  go_loopw [0] (fun v0 wr => ∃ (acc : List QT) (k : Int) (v2 : Value) (xs : List Value) (t : List UInt8), acc.length ≤ 9 ∧ v0 = .string (uS t) ∧ t.length ≤ s.length ∧ LInv w acc k v2 xs wr ∧ Hid (listF rd 9 0 [] s = listF rd (9 - acc.length) k acc t)) (fun v0 _ => lenOf v0)
  case atStart => exact ⟨[], 0, _, [], s, Nat.zero_le _, rfl, Nat.le_refl _, HI0.out, rfl⟩
  case round =>
    obtain ⟨acc, k, v2, xs, t, hn, rfl, hlt, hI, HF⟩ := hrel
    obtain ⟨a, c, rfl, hac, hnc⟩ := hI.form
    have HI := Lib.hid hI
    have hszw : w.heap.size + 2 ≤ wr.heap.size := hI.s
    have y2 := cell_of_row wr _ 2 _ _ _ hI.q
    simp only [List.getElem?_toArray, List.getElem?_cons_succ, List.getElem?_cons_zero] at y2
    clear hI
    by_cases h9 : acc.length = 9
    · have hd : decide (((acc.length : Nat) : Int) ≤ 8) = false := decide_eq_false (by omega)
      have hd2 : ¬ ((acc.length : Nat) : Int) ≤ 8 := by omega
      have HN : Hid (listF rd 9 0 [] s = none) := by show _ = _; rw [HF.out, h9]; rfl
      have HR0 := Lib.hid HI.out.r
      have HB := Lib.hid HI.out.b
      clear HF h9
      generalize acc.length = n at *
      go_wp2_with (refine wpList_store_rowTo rfl 25 _ _ rfl rfl w.heap.size #[.int .i64 0, .slice none 0 0, .slice none 0 0] (by as_aux_lemma => kernel_rfl) (by as_aux_lemma => kernel_rfl) 25 #[.int .i64 0, .slice none 0 0, .slice none 0 0] HR0.out (by as_aux_lemma => kernel_rfl) rfl (by as_aux_lemma => kernel_rfl) ?_)
      refine bodyPost_ret (results_list (setRow_heap _ _ _ _ _ _ HR0.out) rfl rfl) rfl ?_
      exact ⟨below_setRowS HB.out (Nat.le_refl _) _, .inl ⟨HN.out, _, _, _, _, _, _, _, _, rfl⟩⟩
    · have hd : decide (((acc.length : Nat) : Int) ≤ 8) = true := decide_eq_true (by omega)
      have hd2 : ((acc.length : Nat) : Int) ≤ 8 := by omega
      have HN9 : Hid (acc.length ≤ 8) := by show _ ≤ _; omega
      obtain ⟨m, hm⟩ : ∃ m, 9 - acc.length = m + 1 := ⟨8 - acc.length, by omega⟩
      have HM : Hid (9 - (acc.length + 1) = m) := by show _ = _; omega
      rw [hm] at HF
      clear h9 hm hn
      have HRD := Lib.hid (HIH.out wr t (by omega))
      generalize hal : acc.length = n at *
      have HAL := Lib.hid hal
      clear hal
      go_wp2_with fail
      refine HRD.out.mono ?_
      rintro e w1 ⟨hb1, hcase⟩
      have HB1 := Lib.hid hb1
      clear HRD hb1 y2
      rcases hcase with ⟨hno, k1, a1, n1, c1, b1, m1, d1, sr, rfl⟩ | ⟨x, r, u0, u1, u2, hyes, rfl, hx⟩
      · have HN : Hid (listF rd 9 0 [] s = none) := by show _ = _; rw [HF.out, listF_none _ _ _ _ _ (.inl hno)]
        have HI2 := Lib.hid (HI.out.kept (HB1.out.alloc HB1.out.size (.cells #[.int .i64 k1, .slice a1 n1 c1, .slice b1 m1 d1] 25)))
        have HR0 := Lib.hid HI2.out.r
        have HB := Lib.hid HI2.out.b
        clear hno HF
        go_wp2_with (refine wpList_store_rowTo rfl 25 _ _ rfl rfl w.heap.size #[.int .i64 0, .slice none 0 0, .slice none 0 0] (by as_aux_lemma => kernel_rfl) (by as_aux_lemma => kernel_rfl) 25 #[.int .i64 0, .slice none 0 0, .slice none 0 0] HR0.out (by as_aux_lemma => kernel_rfl) rfl (by as_aux_lemma => kernel_rfl) ?_)
        refine bodyPost_ret (results_list (setRow_heap _ _ _ _ _ _ HR0.out) rfl rfl) rfl ?_
        exact ⟨below_setRowS HB.out (Nat.le_refl _) _, .inl ⟨HN.out, _, _, _, _, _, _, _, _, rfl⟩⟩
      · obtain ⟨p1, n1, c1, p2, n2, c2, rfl, rfl, rfl⟩ := hx.form
        generalize x.k = xk at *
        have HX := Lib.hid hx
        clear hx
        have HI2 := Lib.hid (HI.out.kept (HB1.out.alloc HB1.out.size (.cells #[.int .i64 xk, .slice p1 n1 c1, .slice p2 n2 c2] 25)))
        cases r with
        | nil =>
          have HN : Hid (listF rd 9 0 [] s = none) := by show _ = _; rw [HF.out, listF_none _ _ _ _ _ (.inr ⟨x, hyes⟩)]
          have HR0 := Lib.hid HI2.out.r
          have HB := Lib.hid HI2.out.b
          have e0 : uS [] = ⟨#[]⟩ := rfl
          rw [e0]
          clear hyes HF e0
          go_wp2_with (refine wpList_store_rowTo rfl 25 _ _ rfl rfl w.heap.size #[.int .i64 0, .slice none 0 0, .slice none 0 0] (by as_aux_lemma => kernel_rfl) (by as_aux_lemma => kernel_rfl) 25 #[.int .i64 0, .slice none 0 0, .slice none 0 0] HR0.out (by as_aux_lemma => kernel_rfl) rfl (by as_aux_lemma => kernel_rfl) ?_)
          refine bodyPost_ret (results_list (setRow_heap _ _ _ _ _ _ HR0.out) rfl rfl) rfl ?_
          exact ⟨below_setRowS HB.out (Nat.le_refl _) _, .inl ⟨HN.out, _, _, _, _, _, _, _, _, rfl⟩⟩
        | cons ch r =>
          have HF2 : Hid (listF rd 9 0 [] s = if ch.toNat = 41 then (if k = 0 then none else some (.node k [] (acc ++ [x]), r)) else if sgnQ ch = 0 ∨ (k ≠ 0 ∧ k ≠ sgnQ ch) then none else listF rd m (sgnQ ch) (acc ++ [x]) r) := by
            show _ = _
            rw [HF.out, listF_succ _ _ _ _ _ _ _ _ hyes]
          have hl3 := HLEN.out t _ hyes
          simp only at hl3
          have HO := Lib.hid HI2.out.o
          rw [HAL.out] at HO
          have hsz2 : (w1.alloc (.cells #[.int .i64 xk, .slice p1 n1 c1, .slice p2 n2 c2] 25)).heap.size = w1.heap.size + 1 := by rw [World.size_alloc]
          have HB1A : Hid (Below w1.heap.size w1 ((w1.alloc (.cells #[.int .i64 xk, .slice p1 n1 c1, .slice p2 n2 c2] 25)).alloc (.cells #[.int .i64 xk, .slice p1 n1 c1, .slice p2 n2 c2] 25))) := ((Below.refl _ _).alloc (Nat.le_refl _) _).alloc (by simp) _
          have HI3 := Lib.hid (HI.out.kept (below_next HB1.out HB1A.out HB1.out.size))
          have HO3 := Lib.hid (HI3.out.o.lt)
          have hx0 := ixS (ch :: r) 0 ch rfl 0 rfl
          have heq : ((uS (ch :: r)).toList == ([] : List UInt8)) = false := by rw [uS_toList]; rfl
          have hszS := uS_size (ch :: r)
          have hcf : (uS (ch :: r)).extract 1 (ch :: r).length = uS r := by rw [uS_drop]; rfl
          have hS1 : 1 ≤ (ch :: r).length := by simp
          have hb1s := HB1.out.size
          have hn8 : n ≤ 8 := HN9.out
          have hqs := HI3.out.s
          have hqs1 : w.heap.size + 2 ≤ w1.heap.size := by omega
          clear hyes HF hqs
          have hrl : r.length < t.length := by simp only [List.length_cons] at hl3; omega
          generalize ch :: r = S at *
          have z0 := cell_of_row _ _ 0 _ _ _ HI2.out.q
          have z2 := cell_of_row _ _ 2 _ _ _ HI2.out.q
          simp only [List.getElem?_toArray, List.getElem?_cons_succ, List.getElem?_cons_zero] at z0 z2
          by_cases h41 : ch.toNat = 41
          · have h41i : (ch.toNat : Int) = 41 := by omega
            rw [h41i] at hx0
            have HF3 : Hid (listF rd 9 0 [] s = if k = 0 then none else some (.node k [] (acc ++ [x]), r)) := by show _ = _; rw [HF2.out, if_pos h41]
            have HCL := Lib.hid (clipQ_any)
            clear HF2 h41 h41i
            go_wp2_with (first | (at_builtin; refine wpList_append_lies _ rfl _ _ _ rfl (w.heap.size + 2) 25 iq _ 3 56 Tryz.underlying23 hiq hxq0 hxq1 hxq2 rfl (by omega) (.slice a n c) n xs rfl (HO.out.alloc _) ⟨w1.heap.size + 1, 0, none⟩ 1 1 [.int .i64 xk, .slice p1 n1 c1, .slice p2 n2 c2] rfl rfl (by rw [← hsz2]; exact cells_new _ #[.int .i64 xk, .slice p1 n1 c1, .slice p2 n2 c2] _) (by simp [Value.oneCell']) (by omega) (by simp only [maxLen]; omega) (by omega) (by have := HB1A.out.size; omega) (w1.heap.size + 2) (by simp) ?_; intro gg cv' wq hown' hgrow hat hlt'; have HCV : Hid (n + 1 ≤ cv') := own_cap hown'; have HG := Lib.hid (grow_at HAL.out HI.out HB1.out HB1A.out HX.out hown' hgrow (hat.imp id (fun e => e.trans (by simp)))); have hqq := grow_q HI3.out HO3.out hgrow; have y0 := cell_of_row wq _ 0 _ _ _ hqq; have y2 := cell_of_row wq _ 2 _ _ _ hqq; have f0 : wq.frozen? ⟨w.heap.size + 1, 0, none⟩ = false := (by simp [World.frozen?, hqq]); have f2 : wq.frozen? ⟨w.heap.size + 1, 2, none⟩ = false := (by simp [World.frozen?, hqq]); simp only [List.getElem?_toArray, List.getElem?_cons_succ, List.getElem?_cons_zero] at y0 y2; clear hown' hgrow hat hlt' hqq) | (go_at_call 91; refine (HCL.out _ _ _ _ HCV.out).mono ?_; rintro e w4 ⟨rfl, rfl⟩))
            have HAL1 : Hid ((acc ++ [x]).length = n + 1) := by show _ = _; rw [List.length_append, HAL.out]; rfl
            have HQZ : Hid (((wq.setCell ⟨w.heap.size + 1, 2, none⟩ (.slice (some ⟨gg, 0, none⟩) (n + 1) cv')).setCell ⟨w.heap.size + 1, 2, none⟩ (.slice (some ⟨gg, 0, none⟩) (n + 1) (n + 1))).heap[w.heap.size + 1]? = some (.cells #[.int .i64 k, .slice none 0 0, .slice (some ⟨gg, 0, none⟩) (n + 1) (n + 1)] 25 (0, 0))) := heap_setCell_same _ _ 2 _ _ _ HG.out.q
            have HWZ : Hid (∀ b, b ≠ w.heap.size + 1 → ((wq.setCell ⟨w.heap.size + 1, 2, none⟩ (.slice (some ⟨gg, 0, none⟩) (n + 1) cv')).setCell ⟨w.heap.size + 1, 2, none⟩ (.slice (some ⟨gg, 0, none⟩) (n + 1) (n + 1))).heap[b]? = (wq.setCell ⟨w.heap.size + 1, 2, none⟩ (.slice (some ⟨gg, 0, none⟩) (n + 1) cv')).heap[b]?) := fun b hb => Below.heap_setCell (wq.setCell ⟨w.heap.size + 1, 2, none⟩ (.slice (some ⟨gg, 0, none⟩) (n + 1) cv')) ⟨w.heap.size + 1, 2, none⟩ _ b hb
            have HRZ : Hid (((wq.setCell ⟨w.heap.size + 1, 2, none⟩ (.slice (some ⟨gg, 0, none⟩) (n + 1) cv')).setCell ⟨w.heap.size + 1, 2, none⟩ (.slice (some ⟨gg, 0, none⟩) (n + 1) (n + 1))).heap[w.heap.size]? = some (.cells #[.int .i64 0, .slice none 0 0, .slice none 0 0] 25 (0, 0))) := (HWZ.out _ (by omega)).trans HG.out.r
            have HBZ : Hid (Below w.heap.size w ((wq.setCell ⟨w.heap.size + 1, 2, none⟩ (.slice (some ⟨gg, 0, none⟩) (n + 1) cv')).setCell ⟨w.heap.size + 1, 2, none⟩ (.slice (some ⟨gg, 0, none⟩) (n + 1) (n + 1)))) := HG.out.b.setCell (p := ⟨w.heap.size + 1, 2, none⟩) (by show w.heap.size ≤ w.heap.size + 1; omega) _
            clear y0 y2 f0 f2 z0 z2 hcf hx0
            generalize ((wq.setCell ⟨w.heap.size + 1, 2, none⟩ (.slice (some ⟨gg, 0, none⟩) (n + 1) cv')).setCell ⟨w.heap.size + 1, 2, none⟩ (.slice (some ⟨gg, 0, none⟩) (n + 1) (n + 1))) = wz at *
            generalize (wq.setCell ⟨w.heap.size + 1, 2, none⟩ (.slice (some ⟨gg, 0, none⟩) (n + 1) cv')) = ws at *
            have q0 := cell_of_row wz _ 0 _ _ _ HQZ.out
            have q1 := cell_of_row wz _ 1 _ _ _ HQZ.out
            have q2 := cell_of_row wz _ 2 _ _ _ HQZ.out
            have r0 := cell_of_row wz _ 0 _ _ _ HRZ.out
            have r1 := cell_of_row wz _ 1 _ _ _ HRZ.out
            have r2 := cell_of_row wz _ 2 _ _ _ HRZ.out
            simp only [List.getElem?_toArray, List.getElem?_cons_succ, List.getElem?_cons_zero] at q0 q1 q2 r0 r1 r2
            have hfr : ∀ i, wz.frozen? ⟨w.heap.size, i, none⟩ = false := fun i => by simp [World.frozen?, HRZ.out]
            have f0 := hfr 0
            have f1 := hfr 1
            have f2 := hfr 2
            clear hfr
            go_region
            clear q0 q1 q2 r0 r1 r2 f0 f1 f2
            have HW : Hid (Below w.heap.size w ((((wz.setCell ⟨w.heap.size, 0, none⟩ (.int .i64 k)).setCell ⟨w.heap.size, 1, none⟩ (.slice none 0 0)).setCell ⟨w.heap.size, 2, none⟩ (.slice (some ⟨gg, 0, none⟩) (n + 1) (n + 1))).drew)) :=
              (((HBZ.out.setCell (p := ⟨w.heap.size, 0, none⟩) (Nat.le_refl _) _).setCell (p := ⟨w.heap.size, 1, none⟩) (Nat.le_refl _) _).setCell (p := ⟨w.heap.size, 2, none⟩) (Nat.le_refl _) _).drew
            have HKW : Hid (∀ b, w.heap.size + 2 ≤ b → ((((wz.setCell ⟨w.heap.size, 0, none⟩ (.int .i64 k)).setCell ⟨w.heap.size, 1, none⟩ (.slice none 0 0)).setCell ⟨w.heap.size, 2, none⟩ (.slice (some ⟨gg, 0, none⟩) (n + 1) (n + 1))).drew).heap[b]? = ws.heap[b]?) := fun b hb =>
              (Below.heap_setCell _ ⟨w.heap.size, 2, none⟩ _ _ (by show b ≠ w.heap.size; omega)).trans ((Below.heap_setCell _ ⟨w.heap.size, 1, none⟩ _ _ (by show b ≠ w.heap.size; omega)).trans ((Below.heap_setCell _ ⟨w.heap.size, 0, none⟩ _ _ (by show b ≠ w.heap.size; omega)).trans (HWZ.out b (by omega))))
            go_wp2
            refine bodyPost_ret (results_list (set3 _ _ _ HRZ.out) rfl rfl) rfl ?_
            by_cases hk0 : k = 0
            · exact ⟨HW.out, .inl ⟨by rw [HF3.out, if_pos hk0], _, _, _, _, _, _, _, _, by subst hk0; rfl⟩⟩
            · have hkb : (k != 0) = true := by rw [bne_iff_ne]; exact hk0
              refine ⟨HW.out, .inr ⟨_, r, _, _, _, by rw [HF3.out, if_neg hk0], by show Ending.returned (.tuple #[_, _, .bool (k != 0)]) = _; rw [hkb]; rfl, ?_⟩⟩
              exact LInv.nodeN HAL1.out HG.out (by have := HN9.out; simp only [maxLen]; omega) HKW.out
          · by_cases h38 : ch.toNat = 38
            · have hsg : sgnQ ch = 2 := by unfold sgnQ; rw [if_pos h38]
              have hci : (ch.toNat : Int) = 38 := by omega
              rw [hci] at hx0
              rw [hsg] at HF2
              by_cases hk : k ≠ 0 ∧ k ≠ 2
              · have HN : Hid (listF rd 9 0 [] s = none) := by show _ = _; rw [HF2.out, if_neg h41, if_pos (.inr hk)]
                have k0 : (k != 0) = true := by rw [bne_iff_ne]; exact hk.1
                have k2 : (k != 2) = true := by rw [bne_iff_ne]; exact hk.2
                clear HF2 h41 hk hsg hci h38
                go_wp2_with (first | (at_builtin; refine wpList_append_lies _ rfl _ _ _ rfl (w.heap.size + 2) 25 iq _ 3 56 Tryz.underlying23 hiq hxq0 hxq1 hxq2 rfl (by omega) (.slice a n c) n xs rfl (HO.out.alloc _) ⟨w1.heap.size + 1, 0, none⟩ 1 1 [.int .i64 xk, .slice p1 n1 c1, .slice p2 n2 c2] rfl rfl (by rw [← hsz2]; exact cells_new _ #[.int .i64 xk, .slice p1 n1 c1, .slice p2 n2 c2] _) (by simp [Value.oneCell']) (by omega) (by simp only [maxLen]; omega) (by omega) (by have := HB1A.out.size; omega) (w1.heap.size + 2) (by simp) ?_; intro gg cv' wq hown' hgrow hat hlt'; have HCV : Hid (n + 1 ≤ cv') := own_cap hown'; have HG := Lib.hid (grow_at HAL.out HI.out HB1.out HB1A.out HX.out hown' hgrow (hat.imp id (fun e => e.trans (by simp)))); have hqq := grow_q HI3.out HO3.out hgrow; have y0 := cell_of_row wq _ 0 _ _ _ hqq; have y2 := cell_of_row wq _ 2 _ _ _ hqq; have f0 : wq.frozen? ⟨w.heap.size + 1, 0, none⟩ = false := (by simp [World.frozen?, hqq]); have f2 : wq.frozen? ⟨w.heap.size + 1, 2, none⟩ = false := (by simp [World.frozen?, hqq]); simp only [List.getElem?_toArray, List.getElem?_cons_succ, List.getElem?_cons_zero] at y0 y2; clear hown' hgrow hat hlt' hqq) | (refine wpList_store_rowTo rfl 25 _ _ rfl rfl w.heap.size #[.int .i64 0, .slice none 0 0, .slice none 0 0] (by as_aux_lemma => kernel_rfl) (by as_aux_lemma => kernel_rfl) 25 #[.int .i64 0, .slice none 0 0, .slice none 0 0] HG.out.r (by as_aux_lemma => kernel_rfl) rfl (by as_aux_lemma => kernel_rfl) ?_))
                refine bodyPost_ret (results_list (setRow_heap _ _ _ _ _ _ HG.out.r) rfl rfl) rfl ?_
                exact ⟨below_setRowS HG.out.b (Nat.le_refl _) _, .inl ⟨HN.out, _, _, _, _, _, _, _, _, rfl⟩⟩
              · have HF4 : Hid (listF rd 9 0 [] s = listF rd m 2 (acc ++ [x]) r) := by show _ = _; rw [HF2.out, if_neg h41, if_neg (by rintro (h | h); omega; exact hk h)]
                have HAL1 : Hid ((acc ++ [x]).length = n + 1) := by show _ = _; rw [List.length_append, HAL.out]; rfl
                have HRL : Hid (r.length < t.length) := hrl
                have hk2 : k = 0 ∨ k = 2 := by omega
                clear HF2 h41 hk hsg hci h38
                rcases hk2 with rfl | rfl
                all_goals
                  go_wp2_with (at_builtin; refine wpList_append_lies _ rfl _ _ _ rfl (w.heap.size + 2) 25 iq _ 3 56 Tryz.underlying23 hiq hxq0 hxq1 hxq2 rfl (by omega) (.slice a n c) n xs rfl (HO.out.alloc _) ⟨w1.heap.size + 1, 0, none⟩ 1 1 [.int .i64 xk, .slice p1 n1 c1, .slice p2 n2 c2] rfl rfl (by rw [← hsz2]; exact cells_new _ #[.int .i64 xk, .slice p1 n1 c1, .slice p2 n2 c2] _) (by simp [Value.oneCell']) (by omega) (by simp only [maxLen]; omega) (by omega) (by have := HB1A.out.size; omega) (w1.heap.size + 2) (by simp) ?_; intro gg cv' wq hown' hgrow hat hlt'; have HCV : Hid (n + 1 ≤ cv') := own_cap hown'; have HG := Lib.hid (grow_at HAL.out HI.out HB1.out HB1A.out HX.out hown' hgrow (hat.imp id (fun e => e.trans (by simp)))); have hqq := grow_q HI3.out HO3.out hgrow; have y0 := cell_of_row wq _ 0 _ _ _ hqq; have y2 := cell_of_row wq _ 2 _ _ _ hqq; have f0 : wq.frozen? ⟨w.heap.size + 1, 0, none⟩ = false := (by simp [World.frozen?, hqq]); have f2 : wq.frozen? ⟨w.heap.size + 1, 2, none⟩ = false := (by simp [World.frozen?, hqq]); simp only [List.getElem?_toArray, List.getElem?_cons_succ, List.getElem?_cons_zero] at y0 y2; clear hown' hgrow hat hlt' hqq)
                  go_roundw
                  case rel => exact ⟨acc ++ [x], 2, _, _, r, by rw [HAL1.out]; have := HN9.out; omega, rfl, by have := HRL.out; omega, HG.out.kind 2, by show _ = _; rw [HF4.out, HAL1.out, HM.out]⟩
                  case measure => rw [lenOf_uS, lenOf_uS]; exact HRL.out
            · by_cases h124 : ch.toNat = 124
              · have hsg : sgnQ ch = 3 := by unfold sgnQ; rw [if_neg h38, if_pos h124]
                have hci : (ch.toNat : Int) = 124 := by omega
                rw [hci] at hx0
                rw [hsg] at HF2
                by_cases hk : k ≠ 0 ∧ k ≠ 3
                · have HN : Hid (listF rd 9 0 [] s = none) := by show _ = _; rw [HF2.out, if_neg h41, if_pos (.inr hk)]
                  have k0 : (k != 0) = true := by rw [bne_iff_ne]; exact hk.1
                  have k2 : (k != 3) = true := by rw [bne_iff_ne]; exact hk.2
                  clear HF2 h41 hk hsg hci h124
                  go_wp2_with (first | (at_builtin; refine wpList_append_lies _ rfl _ _ _ rfl (w.heap.size + 2) 25 iq _ 3 56 Tryz.underlying23 hiq hxq0 hxq1 hxq2 rfl (by omega) (.slice a n c) n xs rfl (HO.out.alloc _) ⟨w1.heap.size + 1, 0, none⟩ 1 1 [.int .i64 xk, .slice p1 n1 c1, .slice p2 n2 c2] rfl rfl (by rw [← hsz2]; exact cells_new _ #[.int .i64 xk, .slice p1 n1 c1, .slice p2 n2 c2] _) (by simp [Value.oneCell']) (by omega) (by simp only [maxLen]; omega) (by omega) (by have := HB1A.out.size; omega) (w1.heap.size + 2) (by simp) ?_; intro gg cv' wq hown' hgrow hat hlt'; have HCV : Hid (n + 1 ≤ cv') := own_cap hown'; have HG := Lib.hid (grow_at HAL.out HI.out HB1.out HB1A.out HX.out hown' hgrow (hat.imp id (fun e => e.trans (by simp)))); have hqq := grow_q HI3.out HO3.out hgrow; have y0 := cell_of_row wq _ 0 _ _ _ hqq; have y2 := cell_of_row wq _ 2 _ _ _ hqq; have f0 : wq.frozen? ⟨w.heap.size + 1, 0, none⟩ = false := (by simp [World.frozen?, hqq]); have f2 : wq.frozen? ⟨w.heap.size + 1, 2, none⟩ = false := (by simp [World.frozen?, hqq]); simp only [List.getElem?_toArray, List.getElem?_cons_succ, List.getElem?_cons_zero] at y0 y2; clear hown' hgrow hat hlt' hqq) | (refine wpList_store_rowTo rfl 25 _ _ rfl rfl w.heap.size #[.int .i64 0, .slice none 0 0, .slice none 0 0] (by as_aux_lemma => kernel_rfl) (by as_aux_lemma => kernel_rfl) 25 #[.int .i64 0, .slice none 0 0, .slice none 0 0] HG.out.r (by as_aux_lemma => kernel_rfl) rfl (by as_aux_lemma => kernel_rfl) ?_))
                  refine bodyPost_ret (results_list (setRow_heap _ _ _ _ _ _ HG.out.r) rfl rfl) rfl ?_
                  exact ⟨below_setRowS HG.out.b (Nat.le_refl _) _, .inl ⟨HN.out, _, _, _, _, _, _, _, _, rfl⟩⟩
                · have HF4 : Hid (listF rd 9 0 [] s = listF rd m 3 (acc ++ [x]) r) := by show _ = _; rw [HF2.out, if_neg h41, if_neg (by rintro (h | h); omega; exact hk h)]
                  have HAL1 : Hid ((acc ++ [x]).length = n + 1) := by show _ = _; rw [List.length_append, HAL.out]; rfl
                  have HRL : Hid (r.length < t.length) := hrl
                  have hk2 : k = 0 ∨ k = 3 := by omega
                  clear HF2 h41 hk hsg hci h124
                  rcases hk2 with rfl | rfl
                  all_goals
                    go_wp2_with (at_builtin; refine wpList_append_lies _ rfl _ _ _ rfl (w.heap.size + 2) 25 iq _ 3 56 Tryz.underlying23 hiq hxq0 hxq1 hxq2 rfl (by omega) (.slice a n c) n xs rfl (HO.out.alloc _) ⟨w1.heap.size + 1, 0, none⟩ 1 1 [.int .i64 xk, .slice p1 n1 c1, .slice p2 n2 c2] rfl rfl (by rw [← hsz2]; exact cells_new _ #[.int .i64 xk, .slice p1 n1 c1, .slice p2 n2 c2] _) (by simp [Value.oneCell']) (by omega) (by simp only [maxLen]; omega) (by omega) (by have := HB1A.out.size; omega) (w1.heap.size + 2) (by simp) ?_; intro gg cv' wq hown' hgrow hat hlt'; have HCV : Hid (n + 1 ≤ cv') := own_cap hown'; have HG := Lib.hid (grow_at HAL.out HI.out HB1.out HB1A.out HX.out hown' hgrow (hat.imp id (fun e => e.trans (by simp)))); have hqq := grow_q HI3.out HO3.out hgrow; have y0 := cell_of_row wq _ 0 _ _ _ hqq; have y2 := cell_of_row wq _ 2 _ _ _ hqq; have f0 : wq.frozen? ⟨w.heap.size + 1, 0, none⟩ = false := (by simp [World.frozen?, hqq]); have f2 : wq.frozen? ⟨w.heap.size + 1, 2, none⟩ = false := (by simp [World.frozen?, hqq]); simp only [List.getElem?_toArray, List.getElem?_cons_succ, List.getElem?_cons_zero] at y0 y2; clear hown' hgrow hat hlt' hqq)
                    go_roundw
                    case rel => exact ⟨acc ++ [x], 3, _, _, r, by rw [HAL1.out]; have := HN9.out; omega, rfl, by have := HRL.out; omega, HG.out.kind 3, by show _ = _; rw [HF4.out, HAL1.out, HM.out]⟩
                    case measure => rw [lenOf_uS, lenOf_uS]; exact HRL.out
              · have HN : Hid (listF rd 9 0 [] s = none) := by
                  show _ = _
                  rw [HF2.out, if_neg h41, if_pos (.inl (by unfold sgnQ; rw [if_neg h38, if_neg h124]))]
                have e1 : ((ch.toNat : Int) == 41) = false := by rw [beq_eq_false_iff_ne]; omega
                have e2 : ((ch.toNat : Int) == 38) = false := by rw [beq_eq_false_iff_ne]; omega
                have e3 : ((ch.toNat : Int) == 124) = false := by rw [beq_eq_false_iff_ne]; omega
                clear HF2 h41 h38 h124
                generalize ch.toNat = cn at *
                go_wp2_with (at_builtin; refine wpList_append_lies _ rfl _ _ _ rfl (w.heap.size + 2) 25 iq _ 3 56 Tryz.underlying23 hiq hxq0 hxq1 hxq2 rfl (by omega) (.slice a n c) n xs rfl (HO.out.alloc _) ⟨w1.heap.size + 1, 0, none⟩ 1 1 [.int .i64 xk, .slice p1 n1 c1, .slice p2 n2 c2] rfl rfl (by rw [← hsz2]; exact cells_new _ #[.int .i64 xk, .slice p1 n1 c1, .slice p2 n2 c2] _) (by simp [Value.oneCell']) (by omega) (by simp only [maxLen]; omega) (by omega) (by have := HB1A.out.size; omega) (w1.heap.size + 2) (by simp) ?_; intro gg cv' wq hown' hgrow hat hlt'; have HCV : Hid (n + 1 ≤ cv') := own_cap hown'; have HG := Lib.hid (grow_at HAL.out HI.out HB1.out HB1A.out HX.out hown' hgrow (hat.imp id (fun e => e.trans (by simp)))); have hqq := grow_q HI3.out HO3.out hgrow; have y0 := cell_of_row wq _ 0 _ _ _ hqq; have y2 := cell_of_row wq _ 2 _ _ _ hqq; have f0 : wq.frozen? ⟨w.heap.size + 1, 0, none⟩ = false := (by simp [World.frozen?, hqq]); have f2 : wq.frozen? ⟨w.heap.size + 1, 2, none⟩ = false := (by simp [World.frozen?, hqq]); simp only [List.getElem?_toArray, List.getElem?_cons_succ, List.getElem?_cons_zero] at y0 y2; have hrr := grow_r HI3.out HO3.out hgrow; have r0 := cell_of_row wq _ 0 _ _ _ hrr; have r1 := cell_of_row wq _ 1 _ _ _ hrr; have r2 := cell_of_row wq _ 2 _ _ _ hrr; have f3 : wq.frozen? ⟨w.heap.size, 0, none⟩ = false := (by simp [World.frozen?, hrr]); have f4 : wq.frozen? ⟨w.heap.size, 1, none⟩ = false := (by simp [World.frozen?, hrr]); have f5 : wq.frozen? ⟨w.heap.size, 2, none⟩ = false := (by simp [World.frozen?, hrr]); simp only [List.getElem?_toArray, List.getElem?_cons_succ, List.getElem?_cons_zero] at r0 r1 r2; clear hown' hgrow hat hlt' hqq hrr)
                refine bodyPost_ret (results_list (set3 _ _ _ HG.out.r) rfl rfl) rfl ?_
                exact ⟨((HG.out.b.setCell (p := ⟨w.heap.size, 0, none⟩) (Nat.le_refl _) _).setCell (p := ⟨w.heap.size, 1, none⟩) (Nat.le_refl _) _).setCell (p := ⟨w.heap.size, 2, none⟩) (Nat.le_refl _) _, .inl ⟨HN.out, _, _, _, _, _, _, _, _, rfl⟩⟩
theorem read_any : ∀ f, f < 9 → QRead f := by
  intro f
  induction f with
  | zero => intro _ W s hs; exact read_no 0 W s (.inl rfl)
  | succ f ih =>
    intro hf
    have h1 := ih (by omega)
    exact read_step f (by omega) h1 (list_step f (by omega) h1)
end Go.Proofs.YtdcobmoeligdkaaGreatDoor
