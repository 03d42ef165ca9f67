/-
  concordanceref23.read: the list of queries in brackets; at any depth.
-/
import Derived.Test.YtdcobmoeligdkaaGreatDoorCmRRead
import Derived.Test.YtdcobmoeligdkaaGreatDoorCmQList
namespace Go.Proofs.YtdcobmoeligdkaaGreatDoor
open Go.RowKit Go.Shelf
attribute [local go_sem] Oper.semAt_some

set_option maxRecDepth 100000 in
set_option maxHeartbeats 4000000 in
theorem rread_list (f : Nat) (hf : f < 8) (ih : QRRead f) (w : World) (s : List UInt8) (hs : s.length ≤ 100000) (c0 : UInt8) (r0 : List UInt8) (hc : s = c0 :: r0) (h40 : c0.toNat = 40) : Calls Tryz.prog 71 #[.string (uS s), .int .i64 ((f + 1 : Nat) : Int)] w (RRP (f + 1) w (rreadF (f + 1) s)) := by
  obtain ⟨iq, hiq, hxq0, hxq1, hxq2⟩ := info_parts info_q
  have hr : rreadF (f + 1) s = (rlistF (rreadF f) s.length 2 [] (s.drop 1)).map fun p => (p.1, 1 + p.2) := by
    rw [hc, rreadF, if_neg (by omega), if_pos h40]
    show _ = (rlistF (rreadF f) (r0.length + 1) 2 [] r0).map _
    congr 1
    funext p
    rw [Nat.add_comm]
  have hx00 := ixS s 0 c0 (by rw [hc]; rfl) 0 rfl
  have hc1 : (c0.toNat : Int) = 40 := by omega
  rw [hc1] at hx00
  have hl1 : 1 ≤ s.length := by rw [hc]; simp
  have heq : ((uS s).toList == ([] : List UInt8)) = false := by rw [uS_toList, hc]; rfl
  have hD : (((f + 1 : Nat) : Int) == 0) = false := by rw [beq_eq_false_iff_ne]; omega
  have hD2 : (((f + 1 : Nat) : Int)) - 1 = (f : Int) := by omega
  have HIH : Hid (∀ (W : World) (t : List UInt8), t.length ≤ 100000 → Calls Tryz.prog 71 #[.string (uS t), .int .i64 (f : Int)] W (RRP f W (rreadF f t))) := ih
  have HLEN : Hid (∀ (t : List UInt8) p, rreadF f t = some p → 1 ≤ p.2 ∧ p.2 ≤ t.length) := rreadF_len f
  have HR := Lib.hid hr
  have hsz := uS_size s
  have hDr : 0 ≤ ((f + 1 : Nat) : Int) ∧ ((f + 1 : Nat) : Int) ≤ 8 := by omega
  have hf0 : 0 ≤ (f : Int) ∧ (f : Int) ≤ 8 := by omega
  clear hr hc hc1 h40 ih
  generalize ((f + 1 : Nat) : Int) = D at *
  obtain ⟨R, hR⟩ : ∃ R, R = rreadF (f + 1) s := ⟨_, rfl⟩
  rw [← hR] at HR ⊢
  have HP : Hid (∀ W, R = none → Below w.heap.size w W → RRP (f + 1) w R (.returned (.tuple #[.agg #[.int .i64 0, .slice none 0 0, .slice none 0 0], .int .i64 0, .bool false])) W) := fun W hn hW => ⟨hW, .inl ⟨hn, _, _, _, _, _, _, _, 0, by omega, by omega, rfl⟩⟩
  clear hR
  generalize rreadF f = rd at *
  generalize (f : Int) = fi at *
  have hI0 : LInv w [] 2 (.slice none 0 0) [] (((w.alloc (.cells #[.int .i64 0, .slice none 0 0, .slice none 0 0] 25)).alloc (.cells #[.int .i64 2, .slice none 0 0, .slice none 0 0] 25))) := by
    refine ⟨?_, ?_, World.ownsRow_nil _ _ _ _, fun i hi => absurd hi (Nat.not_lt_zero i), ((Below.refl _ _).alloc (Nat.le_refl _) _).alloc (by simp) _, by simp⟩
    · have := World.alloc_heap_new (w.alloc (.cells #[.int .i64 0, .slice none 0 0, .slice none 0 0] 25)) (.cells #[.int .i64 2, .slice none 0 0, .slice none 0 0] 25)
      rwa [World.size_alloc] at this
    · exact (Below.heap_alloc _ _ _ (by rw [World.size_alloc]; omega)).trans (World.alloc_heap_new w _)
  have HI0 := Lib.hid hI0
  clear hI0
  go_enter Tryz.func71, Tryz.ntmps71
  go_wp2
  generalize ((w.alloc (.cells #[.int .i64 0, .slice none 0 0, .slice none 0 0] 25)).alloc (.cells #[.int .i64 2, .slice none 0 0, .slice none 0 0] 25)) = w0 at *
  go_loopw [14] (fun v14 wr => ∃ (acc : List QT) (k : Int) (v2 : Value) (xs : List Value) (p fuel : Nat), acc.length ≤ p ∧ v14 = .int .i64 (p : Int) ∧ 1 ≤ p ∧ p ≤ s.length ∧ (k = 2 ∨ k = 3) ∧ LInv w acc k v2 xs wr ∧ s.length - p < fuel ∧ Hid (R = (rlistF rd fuel k acc (s.drop p)).map fun q => (q.1, p + q.2))) (fun v14 _ => s.length - (intOf v14).toNat)
  case atStart => exact ⟨[], 2, _, [], 1, s.length, Nat.zero_le _, rfl, Nat.le_refl _, hl1, .inl rfl, HI0.out, by omega, HR.out⟩
  case round =>
    obtain ⟨acc, k, v2, xs, p, fuel, hn, rfl, hp1, hps, hk23, hI, hfu, HF⟩ := hrel
    obtain ⟨a, c, rfl, hac, hnc⟩ := hI.form
    have HI := Lib.hid hI
    have hszw : w.heap.size + 2 ≤ wr.heap.size := hI.s
    clear hI
    obtain ⟨fu, rfl⟩ : ∃ fu, fuel = fu + 1 := ⟨fuel - 1, by omega⟩
    have HFU := Lib.hid hfu
    have HRD := Lib.hid (HIH.out wr (s.drop p) (by rw [List.length_drop]; omega))
    have hcf := cut_fromU s p hps
    generalize hal : acc.length = n at *
    have HAL := Lib.hid hal
    clear hal hfu
    go_wp2_with fail
    refine HRD.out.mono ?_
    rintro e w1 ⟨hb1, hcase⟩
    have HB1 := Lib.hid hb1
    clear HRD hb1 hcf hx00
    rcases hcase with ⟨hno, k1, a1, n1, c1, b1, m1, d1, x, hx1, hx2, rfl⟩ | ⟨x, m, u0, u1, u2, hyes, rfl, hx⟩
    · have HN : Hid (R = none) := by show _ = _; rw [HF.out, rlistF_none _ _ _ _ _ (.inl hno)]; rfl
      have HI2 := Lib.hid (HI.out.kept (HB1.out.alloc HB1.out.size (.cells #[.int .i64 k1, .slice a1 n1 c1, .slice b1 m1 d1] 25)))
      have HR0 := Lib.hid HI2.out.r
      have HB := Lib.hid HI2.out.b
      clear hno HF
      go_wp2_with (refine wpList_store_rowTo rfl 25 _ _ rfl rfl w.heap.size #[.int .i64 0, .slice none 0 0, .slice none 0 0] (by as_aux_lemma => kernel_rfl) (by as_aux_lemma => kernel_rfl) 25 #[.int .i64 0, .slice none 0 0, .slice none 0 0] HR0.out (by as_aux_lemma => kernel_rfl) rfl (by as_aux_lemma => kernel_rfl) ?_)
      refine bodyPost_ret (results_rread (setRow_heap _ _ _ _ _ _ HR0.out) rfl rfl) rfl ?_
      exact HP.out _ HN.out (below_setRowS HB.out (Nat.le_refl _) _)
    · obtain ⟨p1, n1, c1, p2, n2, c2, rfl, rfl, rfl⟩ := hx.form
      generalize x.k = xk at *
      have HX := Lib.hid hx
      clear hx
      have HI2 := Lib.hid (HI.out.kept (HB1.out.alloc HB1.out.size (.cells #[.int .i64 xk, .slice p1 n1 c1, .slice p2 n2 c2] 25)))
      have hml := HLEN.out _ _ hyes
      rw [List.length_drop] at hml
      simp only at hml
      by_cases hend : p + m = s.length
      · have HN : Hid (R = none) := by
          show _ = _
          rw [HF.out, rlistF_none _ _ _ _ _ (.inr ⟨x, m, hyes, by rw [List.drop_drop, hend, List.drop_length]⟩)]; rfl
        have HR0 := Lib.hid HI2.out.r
        have HB := Lib.hid HI2.out.b
        have hgi : ((s.length : Nat) : Int) ≤ (p : Int) + (m : Int) := by omega
        clear hyes HF hend
        go_wp2_with (refine wpList_store_rowTo rfl 25 _ _ rfl rfl w.heap.size #[.int .i64 0, .slice none 0 0, .slice none 0 0] (by as_aux_lemma => kernel_rfl) (by as_aux_lemma => kernel_rfl) 25 #[.int .i64 0, .slice none 0 0, .slice none 0 0] HR0.out (by as_aux_lemma => kernel_rfl) rfl (by as_aux_lemma => kernel_rfl) ?_)
        refine bodyPost_ret (results_rread (setRow_heap _ _ _ _ _ _ HR0.out) rfl rfl) rfl ?_
        exact HP.out _ HN.out (below_setRowS HB.out (Nat.le_refl _) _)
      · have hltm : p + m < s.length := by omega
        obtain ⟨ch, hch⟩ : ∃ ch, s[p + m]? = some ch := ⟨s[p + m], List.getElem?_eq_getElem hltm⟩
        have hdm : (s.drop p).drop m = ch :: s.drop (p + m + 1) := by
          rw [List.drop_drop, List.drop_eq_getElem_cons hltm]
          rw [Option.some.inj ((List.getElem?_eq_getElem hltm).symm.trans hch)]
        have HF2 : Hid (R = (if ch.toNat = 41 then some (.node k [] (acc ++ [x]), m + 1)
            else if ch.toNat = 124 ∧ acc.length = 0 then (rlistF rd fu 3 (acc ++ [x]) (s.drop (p + m + 1))).map fun q => (q.1, m + 1 + q.2)
            else if (ch.toNat = 38 ∧ k = 2) ∨ (ch.toNat = 124 ∧ k = 3) then (rlistF rd fu k (acc ++ [x]) (s.drop (p + m + 1))).map fun q => (q.1, m + 1 + q.2)
            else none).map fun q => (q.1, p + q.2)) := by
          show _ = _
          rw [HF.out, rlistF_succ _ _ _ _ _ _ _ _ _ hyes hdm]
        have HGO : Hid (∀ k' : Int, R = ((rlistF rd fu k' (acc ++ [x]) (s.drop (p + m + 1))).map fun q => (q.1, m + 1 + q.2)).map (fun q => (q.1, p + q.2)) → R = (rlistF rd fu k' (acc ++ [x]) (s.drop (p + m + 1))).map fun q => (q.1, p + m + 1 + q.2)) := fun k' h => by
          rw [h, Option.map_map]
          congr 1
          funext q
          simp only [Function.comp]
          congr 1; omega
        have HO := Lib.hid HI2.out.o
        rw [HAL.out] at HO
        have hsz2 : (w1.alloc (.cells #[.int .i64 xk, .slice p1 n1 c1, .slice p2 n2 c2] 25)).heap.size = w1.heap.size + 1 := by rw [World.size_alloc]
        have HB1A : Hid (Below w1.heap.size w1 ((w1.alloc (.cells #[.int .i64 xk, .slice p1 n1 c1, .slice p2 n2 c2] 25)).alloc (.cells #[.int .i64 xk, .slice p1 n1 c1, .slice p2 n2 c2] 25))) := ((Below.refl _ _).alloc (Nat.le_refl _) _).alloc (by simp) _
        have HI3 := Lib.hid (HI.out.kept (below_next HB1.out HB1A.out HB1.out.size))
        have HO3 := Lib.hid (HI3.out.o.lt)
        have hx0 := ixS s (p + m) ch hch ((p : Int) + (m : Int)) (by omega)
        have hb1s := HB1.out.size
        have hqs := HI3.out.s
        have hqs1 : w.heap.size + 2 ≤ w1.heap.size := by omega
        have HAL1 : Hid ((acc ++ [x]).length = n + 1) := by show _ = _; rw [List.length_append, HAL.out]; rfl
        have hgi : ¬ ((s.length : Nat) : Int) ≤ (p : Int) + (m : Int) := by omega
        have z0 := cell_of_row _ _ 0 _ _ _ HI2.out.q
        have z2 := cell_of_row _ _ 2 _ _ _ HI2.out.q
        simp only [List.getElem?_toArray, List.getElem?_cons_succ, List.getElem?_cons_zero] at z0 z2
        clear hyes HF hqs hch hdm hend
        by_cases h41 : ch.toNat = 41
        · have h41i : (ch.toNat : Int) = 41 := by omega
          rw [h41i] at hx0
          have HF3 : Hid (R = some (.node k [] (acc ++ [x]), p + (m + 1))) := by show _ = _; rw [HF2.out, if_pos h41]; rfl
          clear HF2 h41 h41i
          go_wp2_with ((first |(at_builtin; refine wpList_append_lies _ rfl _ _ _ rfl (w.heap.size + 2) 25 iq _ 3 56 Tryz.underlying23 hiq hxq0 hxq1 hxq2 rfl (by omega) (.slice a n c) n xs rfl (HO.out.alloc _) ⟨w1.heap.size + 1, 0, none⟩ 1 1 [.int .i64 xk, .slice p1 n1 c1, .slice p2 n2 c2] rfl rfl (by rw [← hsz2]; exact cells_new _ #[.int .i64 xk, .slice p1 n1 c1, .slice p2 n2 c2] _) (by simp [Value.oneCell']) (by omega) (by simp only [maxLen]; omega) (by omega) (by have := HB1A.out.size; omega) (w1.heap.size + 2) (by simp) ?_; intro gg cv' wq hown' hgrow hat hlt'; have HCV : Hid (n + 1 ≤ cv') := own_cap hown'; have HG := Lib.hid (grow_at HAL.out HI.out HB1.out HB1A.out HX.out hown' hgrow (hat.imp id (fun e => e.trans (by simp)))); have hqq := grow_q HI3.out HO3.out hgrow; have y0 := cell_of_row wq _ 0 _ _ _ hqq; have y1 := cell_of_row wq _ 1 _ _ _ hqq; have y2 := cell_of_row wq _ 2 _ _ _ hqq; have f0 : wq.frozen? ⟨w.heap.size + 1, 0, none⟩ = false := (by simp [World.frozen?, hqq]); have f2 : wq.frozen? ⟨w.heap.size + 1, 2, none⟩ = false := (by simp [World.frozen?, hqq]); simp only [List.getElem?_toArray, List.getElem?_cons_succ, List.getElem?_cons_zero] at y0 y1 y2; clear hown' hgrow hat hlt' hqq)| (refine wpList_store_rowTo rfl 25 _ _ rfl rfl w.heap.size #[.int .i64 k, .slice none 0 0, .slice (some ⟨gg, 0, none⟩) (n + 1) cv'] (by as_aux_lemma => kernel_rfl) (by as_aux_lemma => kernel_rfl) 25 #[.int .i64 0, .slice none 0 0, .slice none 0 0] HG.out.r (by as_aux_lemma => kernel_rfl) rfl (by as_aux_lemma => kernel_rfl) ?_)))
          refine bodyPost_ret (results_rread (setRow_heap _ _ _ _ _ _ HG.out.r) rfl rfl) rfl ?_
          refine ⟨below_setRowS HG.out.b (Nat.le_refl _) _, .inr ⟨_, p + (m + 1), .int .i64 k, .slice none 0 0, .slice (some ⟨gg, 0, none⟩) (n + 1) cv', HF3.out, ?_, ?_⟩⟩
          · show Ending.returned (.tuple #[_, .int .i64 ((p : Int) + (m : Int) + 1), _]) = _
            rw [show (p : Int) + (m : Int) + 1 = ((p + (m + 1) : Nat) : Int) by omega]; rfl
          · exact LInv.nodeN HAL1.out HG.out (by simp only [maxLen]; omega) (fun b hb => setRow_other _ _ _ _ (by omega))
        · have e41 : ((ch.toNat : Int) == 41) = false := by rw [beq_eq_false_iff_ne]; omega
          by_cases h124 : ch.toNat = 124
          · have hci : (ch.toNat : Int) = 124 := by omega
            rw [hci] at hx0 e41
            by_cases hn0 : n = 0
            · have HF4 : Hid (R = (rlistF rd fu 3 (acc ++ [x]) (s.drop (p + m + 1))).map fun q => (q.1, p + m + 1 + q.2)) := HGO.out 3 (by rw [HF2.out, if_neg h41, if_pos ⟨h124, by rw [HAL.out]; exact hn0⟩])
              have hn1i : ((n : Int) + 1 == 1) = true := by rw [beq_iff_eq]; omega
              clear HF2 HGO h41 h124 hci hn0
              rcases hk23 with rfl | rfl
              · go_wp2_with ((at_builtin; refine wpList_append_lies _ rfl _ _ _ rfl (w.heap.size + 2) 25 iq _ 3 56 Tryz.underlying23 hiq hxq0 hxq1 hxq2 rfl (by omega) (.slice a n c) n xs rfl (HO.out.alloc _) ⟨w1.heap.size + 1, 0, none⟩ 1 1 [.int .i64 xk, .slice p1 n1 c1, .slice p2 n2 c2] rfl rfl (by rw [← hsz2]; exact cells_new _ #[.int .i64 xk, .slice p1 n1 c1, .slice p2 n2 c2] _) (by simp [Value.oneCell']) (by omega) (by simp only [maxLen]; omega) (by omega) (by have := HB1A.out.size; omega) (w1.heap.size + 2) (by simp) ?_; intro gg cv' wq hown' hgrow hat hlt'; have HCV : Hid (n + 1 ≤ cv') := own_cap hown'; have HG := Lib.hid (grow_at HAL.out HI.out HB1.out HB1A.out HX.out hown' hgrow (hat.imp id (fun e => e.trans (by simp)))); have hqq := grow_q HI3.out HO3.out hgrow; have y0 := cell_of_row wq _ 0 _ _ _ hqq; have y1 := cell_of_row wq _ 1 _ _ _ hqq; have y2 := cell_of_row wq _ 2 _ _ _ hqq; have f0 : wq.frozen? ⟨w.heap.size + 1, 0, none⟩ = false := (by simp [World.frozen?, hqq]); have f2 : wq.frozen? ⟨w.heap.size + 1, 2, none⟩ = false := (by simp [World.frozen?, hqq]); simp only [List.getElem?_toArray, List.getElem?_cons_succ, List.getElem?_cons_zero] at y0 y1 y2; clear hown' hgrow hat hlt' hqq))
                go_roundw
                case rel => exact ⟨acc ++ [x], _, _, _, p + m + 1, fu, by rw [HAL1.out]; omega, rfl, by omega, by omega, by omega, HG.out.kind 3, by have := HFU.out; omega, by show _ = _; rw [HF4.out]⟩
                case measure => simp only [intOf]; omega
              · go_wp2_with ((at_builtin; refine wpList_append_lies _ rfl _ _ _ rfl (w.heap.size + 2) 25 iq _ 3 56 Tryz.underlying23 hiq hxq0 hxq1 hxq2 rfl (by omega) (.slice a n c) n xs rfl (HO.out.alloc _) ⟨w1.heap.size + 1, 0, none⟩ 1 1 [.int .i64 xk, .slice p1 n1 c1, .slice p2 n2 c2] rfl rfl (by rw [← hsz2]; exact cells_new _ #[.int .i64 xk, .slice p1 n1 c1, .slice p2 n2 c2] _) (by simp [Value.oneCell']) (by omega) (by simp only [maxLen]; omega) (by omega) (by have := HB1A.out.size; omega) (w1.heap.size + 2) (by simp) ?_; intro gg cv' wq hown' hgrow hat hlt'; have HCV : Hid (n + 1 ≤ cv') := own_cap hown'; have HG := Lib.hid (grow_at HAL.out HI.out HB1.out HB1A.out HX.out hown' hgrow (hat.imp id (fun e => e.trans (by simp)))); have hqq := grow_q HI3.out HO3.out hgrow; have y0 := cell_of_row wq _ 0 _ _ _ hqq; have y1 := cell_of_row wq _ 1 _ _ _ hqq; have y2 := cell_of_row wq _ 2 _ _ _ hqq; have f0 : wq.frozen? ⟨w.heap.size + 1, 0, none⟩ = false := (by simp [World.frozen?, hqq]); have f2 : wq.frozen? ⟨w.heap.size + 1, 2, none⟩ = false := (by simp [World.frozen?, hqq]); simp only [List.getElem?_toArray, List.getElem?_cons_succ, List.getElem?_cons_zero] at y0 y1 y2; clear hown' hgrow hat hlt' hqq))
                go_roundw
                case rel => exact ⟨acc ++ [x], _, _, _, p + m + 1, fu, by rw [HAL1.out]; omega, rfl, by omega, by omega, by omega, HG.out.kind 3, by have := HFU.out; omega, by show _ = _; rw [HF4.out]⟩
                case measure => simp only [intOf]; omega
            · have hn1i : ((n : Int) + 1 == 1) = false := by rw [beq_eq_false_iff_ne]; omega
              rcases hk23 with rfl | rfl
              · have HN : Hid (R = none) := by show _ = _; rw [HF2.out, if_neg h41, if_neg (by rintro ⟨_, h⟩; rw [HAL.out] at h; exact hn0 h), if_neg (by omega)]; rfl
                clear HF2 HGO h41 h124 hci hn0
                go_wp2_with ((first |(at_builtin; refine wpList_append_lies _ rfl _ _ _ rfl (w.heap.size + 2) 25 iq _ 3 56 Tryz.underlying23 hiq hxq0 hxq1 hxq2 rfl (by omega) (.slice a n c) n xs rfl (HO.out.alloc _) ⟨w1.heap.size + 1, 0, none⟩ 1 1 [.int .i64 xk, .slice p1 n1 c1, .slice p2 n2 c2] rfl rfl (by rw [← hsz2]; exact cells_new _ #[.int .i64 xk, .slice p1 n1 c1, .slice p2 n2 c2] _) (by simp [Value.oneCell']) (by omega) (by simp only [maxLen]; omega) (by omega) (by have := HB1A.out.size; omega) (w1.heap.size + 2) (by simp) ?_; intro gg cv' wq hown' hgrow hat hlt'; have HCV : Hid (n + 1 ≤ cv') := own_cap hown'; have HG := Lib.hid (grow_at HAL.out HI.out HB1.out HB1A.out HX.out hown' hgrow (hat.imp id (fun e => e.trans (by simp)))); have hqq := grow_q HI3.out HO3.out hgrow; have y0 := cell_of_row wq _ 0 _ _ _ hqq; have y1 := cell_of_row wq _ 1 _ _ _ hqq; have y2 := cell_of_row wq _ 2 _ _ _ hqq; have f0 : wq.frozen? ⟨w.heap.size + 1, 0, none⟩ = false := (by simp [World.frozen?, hqq]); have f2 : wq.frozen? ⟨w.heap.size + 1, 2, none⟩ = false := (by simp [World.frozen?, hqq]); simp only [List.getElem?_toArray, List.getElem?_cons_succ, List.getElem?_cons_zero] at y0 y1 y2; clear hown' hgrow hat hlt' hqq)| (refine wpList_store_rowTo rfl 25 _ _ rfl rfl w.heap.size #[.int .i64 0, .slice none 0 0, .slice none 0 0] (by as_aux_lemma => kernel_rfl) (by as_aux_lemma => kernel_rfl) 25 #[.int .i64 0, .slice none 0 0, .slice none 0 0] HG.out.r (by as_aux_lemma => kernel_rfl) rfl (by as_aux_lemma => kernel_rfl) ?_)))
                refine bodyPost_ret (results_rread (setRow_heap _ _ _ _ _ _ HG.out.r) rfl rfl) rfl ?_
                exact HP.out _ HN.out (below_setRowS HG.out.b (Nat.le_refl _) _)
              · have HF4 : Hid (R = (rlistF rd fu 3 (acc ++ [x]) (s.drop (p + m + 1))).map fun q => (q.1, p + m + 1 + q.2)) := HGO.out 3 (by rw [HF2.out, if_neg h41, if_neg (by rintro ⟨_, h⟩; rw [HAL.out] at h; exact hn0 h), if_pos (.inr ⟨h124, rfl⟩)])
                clear HF2 HGO h41 h124 hci hn0
                go_wp2_with ((at_builtin; refine wpList_append_lies _ rfl _ _ _ rfl (w.heap.size + 2) 25 iq _ 3 56 Tryz.underlying23 hiq hxq0 hxq1 hxq2 rfl (by omega) (.slice a n c) n xs rfl (HO.out.alloc _) ⟨w1.heap.size + 1, 0, none⟩ 1 1 [.int .i64 xk, .slice p1 n1 c1, .slice p2 n2 c2] rfl rfl (by rw [← hsz2]; exact cells_new _ #[.int .i64 xk, .slice p1 n1 c1, .slice p2 n2 c2] _) (by simp [Value.oneCell']) (by omega) (by simp only [maxLen]; omega) (by omega) (by have := HB1A.out.size; omega) (w1.heap.size + 2) (by simp) ?_; intro gg cv' wq hown' hgrow hat hlt'; have HCV : Hid (n + 1 ≤ cv') := own_cap hown'; have HG := Lib.hid (grow_at HAL.out HI.out HB1.out HB1A.out HX.out hown' hgrow (hat.imp id (fun e => e.trans (by simp)))); have hqq := grow_q HI3.out HO3.out hgrow; have y0 := cell_of_row wq _ 0 _ _ _ hqq; have y1 := cell_of_row wq _ 1 _ _ _ hqq; have y2 := cell_of_row wq _ 2 _ _ _ hqq; have f0 : wq.frozen? ⟨w.heap.size + 1, 0, none⟩ = false := (by simp [World.frozen?, hqq]); have f2 : wq.frozen? ⟨w.heap.size + 1, 2, none⟩ = false := (by simp [World.frozen?, hqq]); simp only [List.getElem?_toArray, List.getElem?_cons_succ, List.getElem?_cons_zero] at y0 y1 y2; clear hown' hgrow hat hlt' hqq))
                go_roundw
                case rel => exact ⟨acc ++ [x], _, _, _, p + m + 1, fu, by rw [HAL1.out]; omega, rfl, by omega, by omega, by omega, HG.out.kept (Below.refl _ _), by have := HFU.out; omega, by show _ = _; rw [HF4.out]⟩
                case measure => simp only [intOf]; omega
          · by_cases h38 : ch.toNat = 38
            · have hci : (ch.toNat : Int) = 38 := by omega
              rw [hci] at hx0 e41
              rcases hk23 with rfl | rfl
              · have HF4 : Hid (R = (rlistF rd fu 2 (acc ++ [x]) (s.drop (p + m + 1))).map fun q => (q.1, p + m + 1 + q.2)) := HGO.out 2 (by rw [HF2.out, if_neg h41, if_neg (by rintro ⟨h, _⟩; exact h124 h), if_pos (.inl ⟨h38, rfl⟩)])
                clear HF2 HGO h41 h124 hci h38
                go_wp2_with ((at_builtin; refine wpList_append_lies _ rfl _ _ _ rfl (w.heap.size + 2) 25 iq _ 3 56 Tryz.underlying23 hiq hxq0 hxq1 hxq2 rfl (by omega) (.slice a n c) n xs rfl (HO.out.alloc _) ⟨w1.heap.size + 1, 0, none⟩ 1 1 [.int .i64 xk, .slice p1 n1 c1, .slice p2 n2 c2] rfl rfl (by rw [← hsz2]; exact cells_new _ #[.int .i64 xk, .slice p1 n1 c1, .slice p2 n2 c2] _) (by simp [Value.oneCell']) (by omega) (by simp only [maxLen]; omega) (by omega) (by have := HB1A.out.size; omega) (w1.heap.size + 2) (by simp) ?_; intro gg cv' wq hown' hgrow hat hlt'; have HCV : Hid (n + 1 ≤ cv') := own_cap hown'; have HG := Lib.hid (grow_at HAL.out HI.out HB1.out HB1A.out HX.out hown' hgrow (hat.imp id (fun e => e.trans (by simp)))); have hqq := grow_q HI3.out HO3.out hgrow; have y0 := cell_of_row wq _ 0 _ _ _ hqq; have y1 := cell_of_row wq _ 1 _ _ _ hqq; have y2 := cell_of_row wq _ 2 _ _ _ hqq; have f0 : wq.frozen? ⟨w.heap.size + 1, 0, none⟩ = false := (by simp [World.frozen?, hqq]); have f2 : wq.frozen? ⟨w.heap.size + 1, 2, none⟩ = false := (by simp [World.frozen?, hqq]); simp only [List.getElem?_toArray, List.getElem?_cons_succ, List.getElem?_cons_zero] at y0 y1 y2; clear hown' hgrow hat hlt' hqq))
                go_roundw
                case rel => exact ⟨acc ++ [x], _, _, _, p + m + 1, fu, by rw [HAL1.out]; omega, rfl, by omega, by omega, by omega, HG.out.kept (Below.refl _ _), by have := HFU.out; omega, by show _ = _; rw [HF4.out]⟩
                case measure => simp only [intOf]; omega
              · have HN : Hid (R = none) := by show _ = _; rw [HF2.out, if_neg h41, if_neg (by rintro ⟨h, _⟩; exact h124 h), if_neg (by omega)]; rfl
                clear HF2 HGO h41 h124 hci h38
                go_wp2_with ((first |(at_builtin; refine wpList_append_lies _ rfl _ _ _ rfl (w.heap.size + 2) 25 iq _ 3 56 Tryz.underlying23 hiq hxq0 hxq1 hxq2 rfl (by omega) (.slice a n c) n xs rfl (HO.out.alloc _) ⟨w1.heap.size + 1, 0, none⟩ 1 1 [.int .i64 xk, .slice p1 n1 c1, .slice p2 n2 c2] rfl rfl (by rw [← hsz2]; exact cells_new _ #[.int .i64 xk, .slice p1 n1 c1, .slice p2 n2 c2] _) (by simp [Value.oneCell']) (by omega) (by simp only [maxLen]; omega) (by omega) (by have := HB1A.out.size; omega) (w1.heap.size + 2) (by simp) ?_; intro gg cv' wq hown' hgrow hat hlt'; have HCV : Hid (n + 1 ≤ cv') := own_cap hown'; have HG := Lib.hid (grow_at HAL.out HI.out HB1.out HB1A.out HX.out hown' hgrow (hat.imp id (fun e => e.trans (by simp)))); have hqq := grow_q HI3.out HO3.out hgrow; have y0 := cell_of_row wq _ 0 _ _ _ hqq; have y1 := cell_of_row wq _ 1 _ _ _ hqq; have y2 := cell_of_row wq _ 2 _ _ _ hqq; have f0 : wq.frozen? ⟨w.heap.size + 1, 0, none⟩ = false := (by simp [World.frozen?, hqq]); have f2 : wq.frozen? ⟨w.heap.size + 1, 2, none⟩ = false := (by simp [World.frozen?, hqq]); simp only [List.getElem?_toArray, List.getElem?_cons_succ, List.getElem?_cons_zero] at y0 y1 y2; clear hown' hgrow hat hlt' hqq)| (refine wpList_store_rowTo rfl 25 _ _ rfl rfl w.heap.size #[.int .i64 0, .slice none 0 0, .slice none 0 0] (by as_aux_lemma => kernel_rfl) (by as_aux_lemma => kernel_rfl) 25 #[.int .i64 0, .slice none 0 0, .slice none 0 0] HG.out.r (by as_aux_lemma => kernel_rfl) rfl (by as_aux_lemma => kernel_rfl) ?_)))
                refine bodyPost_ret (results_rread (setRow_heap _ _ _ _ _ _ HG.out.r) rfl rfl) rfl ?_
                exact HP.out _ HN.out (below_setRowS HG.out.b (Nat.le_refl _) _)
            · have HN : Hid (R = none) := by show _ = _; rw [HF2.out, if_neg h41, if_neg (by rintro ⟨h, _⟩; exact h124 h), if_neg (by omega)]; rfl
              have e2 : ((ch.toNat : Int) == 38) = false := by rw [beq_eq_false_iff_ne]; omega
              have e3 : ((ch.toNat : Int) == 124) = false := by rw [beq_eq_false_iff_ne]; omega
              clear HF2 HGO h41 h124 h38
              generalize ch.toNat = cn at *
              go_wp2_with ((first |(at_builtin; refine wpList_append_lies _ rfl _ _ _ rfl (w.heap.size + 2) 25 iq _ 3 56 Tryz.underlying23 hiq hxq0 hxq1 hxq2 rfl (by omega) (.slice a n c) n xs rfl (HO.out.alloc _) ⟨w1.heap.size + 1, 0, none⟩ 1 1 [.int .i64 xk, .slice p1 n1 c1, .slice p2 n2 c2] rfl rfl (by rw [← hsz2]; exact cells_new _ #[.int .i64 xk, .slice p1 n1 c1, .slice p2 n2 c2] _) (by simp [Value.oneCell']) (by omega) (by simp only [maxLen]; omega) (by omega) (by have := HB1A.out.size; omega) (w1.heap.size + 2) (by simp) ?_; intro gg cv' wq hown' hgrow hat hlt'; have HCV : Hid (n + 1 ≤ cv') := own_cap hown'; have HG := Lib.hid (grow_at HAL.out HI.out HB1.out HB1A.out HX.out hown' hgrow (hat.imp id (fun e => e.trans (by simp)))); have hqq := grow_q HI3.out HO3.out hgrow; have y0 := cell_of_row wq _ 0 _ _ _ hqq; have y1 := cell_of_row wq _ 1 _ _ _ hqq; have y2 := cell_of_row wq _ 2 _ _ _ hqq; have f0 : wq.frozen? ⟨w.heap.size + 1, 0, none⟩ = false := (by simp [World.frozen?, hqq]); have f2 : wq.frozen? ⟨w.heap.size + 1, 2, none⟩ = false := (by simp [World.frozen?, hqq]); simp only [List.getElem?_toArray, List.getElem?_cons_succ, List.getElem?_cons_zero] at y0 y1 y2; clear hown' hgrow hat hlt' hqq)| (refine wpList_store_rowTo rfl 25 _ _ rfl rfl w.heap.size #[.int .i64 0, .slice none 0 0, .slice none 0 0] (by as_aux_lemma => kernel_rfl) (by as_aux_lemma => kernel_rfl) 25 #[.int .i64 0, .slice none 0 0, .slice none 0 0] HG.out.r (by as_aux_lemma => kernel_rfl) rfl (by as_aux_lemma => kernel_rfl) ?_)))
              refine bodyPost_ret (results_rread (setRow_heap _ _ _ _ _ _ HG.out.r) rfl rfl) rfl ?_
              exact HP.out _ HN.out (below_setRowS HG.out.b (Nat.le_refl _) _)
theorem rread_any : ∀ f, f < 9 → QRRead f := by
  intro f
  induction f with
  | zero => intro _ W s hs; exact rread_no 0 W s (.inl rfl)
  | succ f ih =>
    intro hf W s hs
    cases s with
    | nil => exact rread_no (f + 1) W [] (.inr rfl)
    | cons c r =>
      by_cases h33 : c.toNat = 33
      · exact rread_not f (by omega) (ih (by omega)) W _ hs c r rfl h33
      by_cases h40 : c.toNat = 40
      · exact rread_list f (by omega) (ih (by omega)) W _ hs c r rfl h40
      exact rread_text f (by omega) W _ hs c r rfl h33 h40
end Go.Proofs.YtdcobmoeligdkaaGreatDoor
