/-
  walk.New: the samples of an index.
-/
import Derived.Test.YtjpoebmjfedecaaGreatWalkOwn
namespace Go.Proofs.YtjpoebmjfedecaaGreat
open Go.RowKit Go.Shelf Go.Maps
attribute [local go_sem] Oper.semAt_some

def WNewPost (w : World) (ds : List (List Nat)) (e : Ending) (w' : World) : Prop :=
  ∃ bp bm vS vZ Y, e = .returned (.tuple #[.pointer (some ⟨bp, 0, none⟩), .int .i64 0]) ∧ PlIn Y w' bp bm vS vZ (putS (putsTo ds ds.length)) (sizesTo ds ds.length) (putS (putsTo ds ds.length)).length (putF (putsTo ds ds.length)) ∧ Below w.heap.size w w' ∧ ∀ b, Y b → w.heap.size ≤ b
/-- the state at the head of the outer loop -/
structure NwRel (w : World) (ds : List (List Nat)) (bp bm : Nat) (Ms : List Nat) (Y : Nat → Prop) (vS vZ : Value) (j : Nat) (W : World) : Prop where
  le : j ≤ ds.length
  pl : PlIn Y W bp bm vS vZ (putS (putsTo ds j)) (sizesTo ds j) (putS (putsTo ds j)).length (putF (putsTo ds j))
  bel : Below w.heap.size w W
  yg : ∀ b, Y b → w.heap.size ≤ b ∧ b < W.heap.size
  nd : Ms.Nodup
  ms : ∀ D ∈ Ms, (w.heap.size ≤ D ∧ ¬ Y D) ∧ W.heap[D]? = some (.deferred (some []))
/-- and of the inner one -/
structure InRel (w3 : World) (ds : List (List Nat)) (bp bm : Nat) (Y1 : Nat → Prop) (vZ : Value) (j q : Nat) (Y2 : Nat → Prop) (vS : Value) (W : World) : Prop where
  pl : PlIn Y2 W bp bm vS vZ (putS (putsTo ds j ++ putD ds j q)) (sizesTo ds (j + 1)) (putS (putsTo ds j ++ putD ds j q)).length (putF (putsTo ds j ++ putD ds j q))
  st : StepX Y1 w3 W
  yg : ∀ b, Y2 b → Y1 b ∨ (w3.heap.size ≤ b ∧ b < W.heap.size)
set_option maxRecDepth 100000 in
set_option maxHeartbeats 4000000 in
theorem wnew_any (w : World) (bx bm' : Nat) (al : Option Addr) (cap : Nat) (ds : List (List Nat)) (hok : NewOk ds) (hI : IdxAt w bx bm' al cap (bwtOf ds)) :
    Calls Tryz.prog 35 #[.pointer (some ⟨bx, 0, none⟩)] w (WNewPost w ds) := by
  refine (callsIn_wide (n := 5)).1 ?_
  have hwf : ∀ f, Fence.wide.fn f = True := fun _ => rfl
  obtain ⟨i0, hi0, hz0, hz1, hz2⟩ := info_parts info_intP
  refine callsIn_of_wp_marks Tryz.func35 rfl trivial ?_ rfl
  simp only [Tryz.ntmps35, List.size_toArray, List.length_cons, List.length_nil, Nat.reduceAdd, Nat.reduceSub, Array.replicate_succ, Array.replicate_zero, List.push_toArray, List.append_toArray, List.nil_append, List.cons_append]
  have hb2 : Below w.heap.size w ((w.alloc (.map #[] 0)).alloc (.cells #[.slice none 0 0, .slice none 0 0, .map (some w.heap.size)] 108)) := ((Below.refl _ w).alloc (Nat.le_refl _) _).alloc (by simp) _
  have hPL : PlIn (fun b => b = w.heap.size ∨ b = w.heap.size + 1) ((w.alloc (.map #[] 0)).alloc (.cells #[.slice none 0 0, .slice none 0 0, .map (some w.heap.size)] 108)) (w.heap.size + 1) w.heap.size (.slice none 0 0) (.slice none 0 0) [] [] 0 (fun _ => none) :=
    ⟨by have := World.alloc_heap_new (w.alloc (.map #[] 0)) (.cells #[.slice none 0 0, .slice none 0 0, .map (some w.heap.size)] 108); rwa [World.size_alloc] at this,
     World.ownsRow_nil _ _ _ _, World.ownsRow_nil _ _ _ _, .inl rfl, (PMap.made w).kept (Below.heap_alloc _ _ _ (by simp)), by omega, by simp; omega, by simp [Value.ownBlock], by simp [Value.ownBlock], by simp [Value.ownBlock], by simp [Value.ownBlock], .inr rfl, .inl rfl, fun g e => by simp [Value.ownBlock] at e, fun g e => by simp [Value.ownBlock] at e⟩
  have hmm := @run_makeMap Tryz.prog
  have HDC := Lib.hid (bdocs_any _ bx bm' al cap (bwtOf ds) (hI.kept hb2))
  rw [bwt_zeros] at HDC
  have HR : Hid (NwRel w ds (w.heap.size + 1) w.heap.size [] (fun b => b = w.heap.size ∨ b = w.heap.size + 1) (.slice none 0 0) (.slice none 0 0) 0 ((w.alloc (.map #[] 0)).alloc (.cells #[.slice none 0 0, .slice none 0 0, .map (some w.heap.size)] 108))) :=
    ⟨Nat.zero_le _, hPL, hb2, fun b h => by simp; omega, List.nodup_nil, fun D h => by cases h⟩
  have HI := Lib.hid hI
  have HOK := Lib.hid hok
  have h500 := hok.many
  clear hI hok hPL hb2
  gi_wp2_with (gi_at_call 55; refine (callsIn_wide.2 HDC.out).mono ?_; rintro e w2 ⟨rfl, rfl⟩)
  refine wpIn_loop (fun a' w' => ∃ (Ms : List Nat) (Y : Nat → Prop) (vS vZ : Value) (j : Nat) (v5 v6 v7 v8 v9 v18 v19 v20 v21 v22 v23 v24 v25 v26 v27 v28 v29 v30 v31 v32 v33 v34 v35 v36 v37 v38 v39 v40 v41 v42 v43 v44 v45 v46 v47 v48 v49 v50 v51 v52 v53 v54 v55 v56 v57 v58 v59 v60 : Value), NwRel w ds (w.heap.size + 1) w.heap.size Ms Y vS vZ j w' ∧
    a' = { tmps := #[.pointer (some ⟨bx, 0, none⟩), undef, .pointer none, .int .i64 0, .pointer (some ⟨w.heap.size + 1, 0, none⟩), v5, v6, v7, v8, v9, .pointer (some ⟨bx, 0, none⟩), .bool false, .map (some w.heap.size), .agg #[.slice none 0 0, .slice none 0 0, .map (some w.heap.size)], .pointer (some ⟨w.heap.size + 1, 0, none⟩), .pointer (some ⟨bx, 0, none⟩), .int .i64 (ds.length : Int), .int .i64 (j : Int), v18, v19, v20, v21, v22, v23, v24, v25, v26, v27, v28, v29, v30, v31, v32, v33, v34, v35, v36, v37, v38, v39, v40, v41, v42, v43, v44, v45, v46, v47, v48, v49, v50, v51, v52, v53, v54, v55, v56, v57, v58, v59, v60, undef], defers := Ms.map mkD }) (fun a' _ => ds.length - (intOf (a'.tmps.getD 17 undef)).toNat) ⟨[], _, _, _, 0, _, _, _, _, _, _, _, _, _, _, _, _, _, _, _, _, _, _, _, _, _, _, _, _, _, _, _, _, _, _, _, _, _, _, _, _, _, _, _, _, _, _, _, _, _, _, _, _, HR.out, rfl⟩ ?_
  clear HR HDC
  rintro a' wo ⟨Ms, Y, vS, vZ, j, v5, v6, v7, v8, v9, v18, v19, v20, v21, v22, v23, v24, v25, v26, v27, v28, v29, v30, v31, v32, v33, v34, v35, v36, v37, v38, v39, v40, v41, v42, v43, v44, v45, v46, v47, v48, v49, v50, v51, v52, v53, v54, v55, v56, v57, v58, v59, v60, hrel, rfl⟩
  have hle := hrel.le
  have HRL := Lib.hid hrel
  by_cases hlt : j < ds.length
  · have hdl := HOK.out.long _ (doc_mem hlt)
    have hbw := hrel.bel
    have hsz := hbw.size
    have HIR := Lib.hid (HI.out.kept (hbw.mono (Nat.le_refl _)))
    clear hrel hbw
    -- the row of the walk, its box, the walk's two boxes
    have BR := ((Boxed.new (wo.alloc (.cells #[.int .i64 (j : Int)] 3)) 51 (.slice (some ⟨wo.heap.size, 0, none⟩) 1 1)).alloc (.cells #[.pointer (some ⟨bx, 0, none⟩)] 58)).alloc (.cells #[.int .i64 (j : Int)] 3)
    have BX := (Boxed.new ((wo.alloc (.cells #[.int .i64 (j : Int)] 3)).alloc (.cells #[.slice (some ⟨wo.heap.size, 0, none⟩) 1 1] 51)) 58 (.pointer (some ⟨bx, 0, none⟩))).alloc (.cells #[.int .i64 (j : Int)] 3)
    have BI := Boxed.new (((wo.alloc (.cells #[.int .i64 (j : Int)] 3)).alloc (.cells #[.slice (some ⟨wo.heap.size, 0, none⟩) 1 1] 51)).alloc (.cells #[.pointer (some ⟨bx, 0, none⟩)] 58)) 3 (.int .i64 (j : Int))
    have hrow0 := (((owns_one wo wo.heap.size (.int .i64 (j : Int)) 3 (Nat.le_refl _)).alloc (.cells #[.slice (some ⟨wo.heap.size, 0, none⟩) 1 1] 51)).alloc (.cells #[.pointer (some ⟨bx, 0, none⟩)] 58)).alloc (.cells #[.int .i64 (j : Int)] 3)
    have hB4 : Below wo.heap.size wo ((((wo.alloc (.cells #[.int .i64 (j : Int)] 3)).alloc (.cells #[.slice (some ⟨wo.heap.size, 0, none⟩) 1 1] 51)).alloc (.cells #[.pointer (some ⟨bx, 0, none⟩)] 58)).alloc (.cells #[.int .i64 (j : Int)] 3)) := ((((Below.refl _ wo).alloc (Nat.le_refl _) _).alloc (by simp) _).alloc (by simp; omega) _).alloc (by simp; omega) _
    have hs4 : ((((wo.alloc (.cells #[.int .i64 (j : Int)] 3)).alloc (.cells #[.slice (some ⟨wo.heap.size, 0, none⟩) 1 1] 51)).alloc (.cells #[.pointer (some ⟨bx, 0, none⟩)] 58)).alloc (.cells #[.int .i64 (j : Int)] 3)).heap.size = wo.heap.size + 4 := by simp
    simp only [World.size_alloc] at BR BX BI
    obtain ⟨hj1, hj2⟩ := row_end ds j hlt
    have hjL : j < (bwtOf ds).length := by rw [bwtOf_len, ← rows_len]; exact hj1
    obtain ⟨d, hd⟩ : ∃ d, (ds.getD j []).length = d := ⟨_, rfl⟩
    rw [hd] at hdl hj2
    have hdL : d < (bwtOf ds).length := by
      have := place_lt ds j d hlt (by omega)
      rw [bwtOf_len]; omega
    have HWK : Hid (WkOf (bwtOf ds) (j : Int) (wkTo (bwtOf ds) j d)) := .inl ⟨j, d, rfl, hjL, way_ends ds HOK.out.byte j j d hj1 hj2, hdL, rfl⟩
    have HD := Lib.hid hd
    have HBR := Lib.hid BR
    have HBX := Lib.hid BX
    have HBI := Lib.hid BI
    have HROW := Lib.hid hrow0
    have HB4 := Lib.hid hB4
    have HS4 := Lib.hid hs4
    clear BR BX BI hrow0 hB4 hs4 hj1 hj2 hjL hdL hd
    gi_wp2_with (gi_at_call 56; refine (callsIn_wide.2 (bwalk_any _ bx (j : Int))).mono ?_; rintro e w4 ⟨rfl, rfl⟩; simp only [World.size_alloc])
    generalize ((((wo.alloc (.cells #[.int .i64 (j : Int)] 3)).alloc (.cells #[.slice (some ⟨wo.heap.size, 0, none⟩) 1 1] 51)).alloc (.cells #[.pointer (some ⟨bx, 0, none⟩)] 58)).alloc (.cells #[.int .i64 (j : Int)] 3)) = w4 at *
    have hs4 := HS4.out
    have HK4 : Hid (Keeps wo w4) := Keeps.of_below HB4.out
    refine wpIn_rangeFunc_G rfl (by omega) (gf := 73) (lb := #[.pointer (some ⟨wo.heap.size + 1 + 1 + 1, 0, none⟩), .pointer (some ⟨wo.heap.size + 1 + 1, 0, none⟩)]) rfl trivial (enters_of Tryz.func73 (by kernel_rfl) rfl)
      (walkX 4 (by omega) (fun b => b < w4.heap.size ∧ b ≠ wo.heap.size ∧ b ≠ wo.heap.size + 1) wo bx bm' al cap (bwtOf ds) HIR.out (fun b h => ⟨by omega, by omega, by omega⟩) (wo.heap.size + 1 + 1 + 1) (wo.heap.size + 1 + 1) ⟨by omega, by omega, by omega⟩ (j : Int) _ HWK.out w4 HK4.out (by omega) HBI.out.cell HBX.out.cell)
      (fun b h => h.1) (Below.refl _ _) (fun _ => rfl)
      (fun X (pre : List (Nat × Fin 256)) W => (∃ v, (Boxed W (wo.heap.size + 1) 51 v ∧ ¬ X (wo.heap.size + 1)) ∧ W.ownsRow wo.heap.size 3 1 v (pre.length + 1) (wayV (bwtOf ds) j (pre.length + 1)) ∧ (∀ g, v.ownBlock = some g → ¬ X g ∧ (g = wo.heap.size ∨ wo.heap.size + 4 ≤ g)) ∧ True) ∧ (Below wo.heap.size w4 W ∧ ∀ b, X b → wo.heap.size ≤ b) ∧ (w4.heap.size ≤ W.heap.size ∧ True) ∧ ∀ b, X b → b < W.heap.size)
      (fun _ _ _ _ => False)
      (Fr.and (Fr.rowY (wo.heap.size + 1) 51 wo.heap.size 3 1 (fun pre : List (Nat × Fin 256) => pre.length + 1) (fun pre => wayV (bwtOf ds) j (pre.length + 1)) (fun _ => True) (fun g => g = wo.heap.size ∨ wo.heap.size + 4 ≤ g)) (Fr.and (Fr.below (by omega)) (Fr.and (fun X X' s A B hs st hx => ⟨Nat.le_trans hs.1 st.size, trivial⟩) Fr.bd)))
      (fun c X X' s A B hs st hx => hs.elim)
      ⟨⟨_, ⟨HBR.out, fun h => h⟩, by rw [List.length_nil, wayV_one]; exact HROW.out, fun g h => ⟨fun h => h, .inl (by simp [Value.ownBlock] at h; omega)⟩, trivial⟩, ⟨Below.refl _ _, fun b h => h.elim⟩, ⟨Nat.le_refl _, trivial⟩, fun b h => h.elim⟩
      (fun y => { tmps := #[.pointer (some ⟨bx, 0, none⟩), undef, .pointer none, .int .i64 0, .pointer (some ⟨w.heap.size + 1, 0, none⟩), .int .i64 (j : Int), .pointer (some ⟨wo.heap.size + 1, 0, none⟩), .int .i64 ((y.1 : Nat) : Int), v8, v9, .pointer (some ⟨bx, 0, none⟩), .bool false, .map (some w.heap.size), .agg #[.slice none 0 0, .slice none 0 0, .map (some w.heap.size)], .pointer (some ⟨w.heap.size + 1, 0, none⟩), .pointer (some ⟨bx, 0, none⟩), .int .i64 (ds.length : Int), .int .i64 (j : Int), .bool true, .int .i64 (j : Int), .int .i64 (j : Int), .slice (some ⟨wo.heap.size, 0, none⟩) 1 1, .pointer (some ⟨bx, 0, none⟩), .int .i64 (j : Int), .func (.func 73) #[] #[.pointer (some ⟨wo.heap.size + 1 + 1 + 1, 0, none⟩), .pointer (some ⟨wo.heap.size + 1 + 1, 0, none⟩)], .int .i64 ((y.1 : Nat) : Int), .int .u8 ((y.2.val : Nat) : Int), v27, v28, v29, v30, v31, v32, v33, v34, v35, v36, v37, v38, v39, v40, v41, v42, v43, v44, v45, v46, v47, v48, v49, v50, v51, v52, v53, v54, v55, v56, v57, v58, v59, v60, undef], defers := [] }) ?assign ?body ?done ?stop
    case assign =>
      intro l y W G hG
      unfold bwV
      gi_wp2
      exact hG
    case body =>
      rintro l X pre y W - hXl ⟨⟨v, hv, hrow, hg, _⟩, ⟨hB, hge⟩, ⟨hsW, _⟩, hbd⟩ hok2
      obtain ⟨y1, y2⟩ := y
      have hlt2 : pre.length < d := by
        rcases Nat.lt_or_ge pre.length d with h | h
        · exact h
        · rw [List.getElem?_eq_none (by rw [wkTo_len]; exact h)] at hok2; cases hok2
      rw [wkTo_at (bwtOf ds) j hlt2] at hok2
      obtain ⟨rfl, _⟩ := Prod.mk.inj (Option.some.inj hok2)
      have HWS := Lib.hid (wayV_succ (bwtOf ds) j (pre.length + 1))
      generalize itL (bwtOf ds) j (pre.length + 1) = r at *
      have hc := hv.1.cell
      obtain ⟨ga, gc, rfl⟩ := own_slice' hrow
      have HV := Lib.hid hv
      have HO := Lib.hid hrow
      have HG := Lib.hid hg
      have HBD := Lib.hid hbd
      have HB5 := Lib.hid hB
      have HGE := Lib.hid hge
      have HOC : ∀ u ∈ [Value.int .i64 (r : Int)], u.oneCell' = true := by simp [Value.oneCell']
      have HML : pre.length + 1 + 1 ≤ maxLen := by unfold maxLen; omega
      have HBY : (pre.length + 1 + 1) * 8 ≤ 140737488355328 := by omega
      clear hv hrow hg hbd hB hge hok2
      gi_wp2_with (gi_at_builtin; refine wpListIn_append_own_at _ rfl _ _ 51 rfl wo.heap.size 3 i0 (.int .i64 0) 1 8 Tryz.underlying51 hi0 hz0 hz1 hz2 rfl (by decide) _ _ _ rfl (HO.out.alloc _) ⟨W.heap.size, 0, none⟩ 1 1 [.int .i64 (r : Int)] rfl rfl (cell_one_new _ _ _) HOC HML HBY (by simp; omega) ?_; intro v' w1 hown' hgrow _ hat; obtain ⟨g', cg', rfl⟩ := own_slice' hown'; obtain ⟨hv1, hv2, hr2, hg2, hk2, hb2, hb3, hs2⟩ := boxed_appY HV.out HO.out (fun g h => ⟨(HG.out g h).1, by have := (HG.out g h).2; omega⟩) HBD.out (by omega) hown' hgrow hat; have hc1 := hv1.cell; have hf1 := hv1.frozen; have HV2 := Lib.hid hv2; have HR2 := Lib.hid hr2; have HG2 := Lib.hid hg2; have HK2 := Lib.hid hk2; have HBB := Lib.hid hb2; have HBW := Lib.hid hb3; have HSS := Lib.hid hs2; clear hv1 hv2 hr2 hg2 hk2 hb2 hb3 hs2 hown' hgrow hat)
      refine ⟨HK2.out, ⟨HSS.out, fun b hb hk => HBB.out b hb hk.2.2 (fun h => by have := (HG.out b h.symm).2; have := hk.1; have := hk.2.1; omega)⟩, ⟨_, HV2.out, ?_, fun g h => ⟨(HG2.out g h).1.1, ?_⟩, trivial⟩, ⟨HB5.out.trans (HBW.out _ (by omega) (Nat.le_refl _)), HGE.out⟩, ⟨Nat.le_trans hsW HSS.out, trivial⟩, fun b hb => Nat.lt_of_lt_of_le (HBD.out b hb) HSS.out⟩
      · rw [List.length_append, List.length_singleton, HWS.out]; exact HR2.out
      · rcases (HG2.out g h).2 with h2 | h2
        · exact (HG.out g h2).2
        · exact .inr (by omega)
    case done =>
      rintro D X xs W2 hD hXD rfl ⟨⟨v, hv, hrow, hg, _⟩, ⟨hB, hge⟩, ⟨hsW, _⟩, hbd⟩ hk
      rw [wkTo_len] at hrow
      obtain ⟨ga, gc, rfl⟩ := own_slice' hrow
      have hgg : ¬ Y ga ∧ ga ≠ D := by
        have h1 := (hg ga rfl).2
        refine ⟨fun h => ?_, fun h => (hg ga rfl).1 (by rw [h]; exact hXD)⟩
        have := HRL.out.yg ga h
        omega
      have HGG := Lib.hid hgg
      have HBw : Hid (Below wo.heap.size wo W2) := HB4.out.trans hB
      have HP2 := Lib.hid (HRL.out.pl.kept (KeepX.of_below HBw.out))
      have HBX2 := Lib.hid hv.1
      have HRW : Hid (Row W2 (some ⟨ga, 0, none⟩) (d + 1) (fun k => .int .i64 ((itL (bwtOf ds) j k : Nat) : Int))) := by
        obtain ⟨a', c', e1, _, hr, _⟩ := Row.of_owns hrow
        injection e1 with e1 _ _
        subst e1
        refine hr.congr fun k hk => ?_
        unfold wayV
        rw [List.getD_eq_getElem?_getD, List.getElem?_map, List.getElem?_range hk]; rfl
      have HDK := Lib.hid hk
      have hc1 := hv.1.cell
      obtain ⟨_, cZ, _, _, fZ⟩ := HP2.out.c0
      have HML : (sizesTo ds j).length + 1 ≤ maxLen := by rw [sizesTo_len]; unfold maxLen; omega
      have HBY : ((sizesTo ds j).length + 1) * 8 ≤ 140737488355328 := by rw [sizesTo_len]; omega
      have HOC : ∀ u ∈ [Value.int .i64 (d : Int)], u.oneCell' = true := by simp [Value.oneCell']
      have y1 : IntKind.i64.wrap (((d + 1 : Nat) : Int) - 1) = (d : Int) := by rw [show ((d + 1 : Nat) : Int) - 1 = (d : Int) by omega]; exact IntWalk.i64_in _ (by omega)
      have y2 : IntKind.i64.wrap ((d : Int) + 1 - 1) = (d : Int) := by rw [show (d : Int) + 1 - 1 = (d : Int) by omega]; exact IntWalk.i64_in _ (by omega)
      have HW2 : Hid (wo.heap.size + 4 ≤ W2.heap.size) := by show _ ≤ _; omega
      clear hg hB hge hbd hk hv hrow hgg HBR HBX HBI HROW HK4
      gi_wp2_with (gi_at_builtin; refine wpListIn_append_own_at _ rfl _ _ 51 rfl 0 3 i0 (.int .i64 0) 1 8 Tryz.underlying51 hi0 hz0 hz1 hz2 rfl (by decide) _ _ _ rfl (HP2.out.rz.alloc _) ⟨W2.heap.size, 0, none⟩ 1 1 [.int .i64 (d : Int)] rfl rfl (cell_one_new _ _ _) HOC HML HBY (Nat.zero_le _) ?_; intro v' w1 hown' hgrow _ hat; obtain ⟨g', cg', rfl⟩ := own_slice' hown'; obtain ⟨hb1, hp1, hs1⟩ := HP2.out.appZ d hown' hgrow hat; have f1 : w1.frozen? ⟨w.heap.size + 1, 1, none⟩ = false := (by simp [World.frozen?, hb1]); have d1 : w1.cell? ⟨w.heap.size + 1, 1, none⟩ = some vZ := (by simp [World.cell?, hb1]); have HP3 := Lib.hid hp1; have HS3 := Lib.hid hs1; clear hown' hgrow hat hb1 hp1 hs1)
      generalize hw3 : w1.setCell ⟨w.heap.size + 1, 1, none⟩ _ = w3 at *
      have HW3 := Lib.hid hw3
      clear hw3 f1 d1 cZ fZ hc1 HML HBY HOC y1 y2
      have hY1 : ∃ Y1 : Nat → Prop, Y1 = fun b => Y b ∨ (W2.heap.size ≤ b ∧ b < w3.heap.size) := ⟨_, rfl⟩
      obtain ⟨Y1, hY1⟩ := hY1
      rw [← hY1] at HP3
      have HY1 := Lib.hid hY1
      have HKP : Hid (∀ W, StepX Y1 w3 W → ∀ b, b < W2.heap.size → ¬ Y b → W.heap[b]? = W2.heap[b]?) := fun W st b hb hn =>
        (st.block b (Nat.lt_of_lt_of_le hb HS3.out.size) (fun h => by rw [HY1.out] at h; rcases h with h | h; exact hn h; omega)).trans (HS3.out.block b hb hn)
      have HYR : Hid (∀ b, wo.heap.size ≤ b → ¬ Y b) := fun b hb h => by have := (HRL.out.yg b h).2; omega
      have HZ : Hid (sizesTo ds j ++ [d] = sizesTo ds (j + 1)) := by show _ = _; rw [sizesTo_succ, HD.out]
      rw [HZ.out] at HP3
      have hpl := putS_bound ds HOK.out (j + 1) hlt
      have hst := startOf_mono ds (show j + 1 ≤ ds.length by omega) (Nat.le_refl _)
      rw [startOf_all] at hst
      have hall := HOK.out.all
      have HPB : Hid (∀ q, q ≤ d / 32 + 1 → (putS (putsTo ds j ++ putD ds j q)).length ≤ 60000) := fun q hq => by
        have e : (putS (putsTo ds (j + 1))).length = (putS (putsTo ds j)).length + (d / 32 + 1) := by
          unfold putS; rw [putsTo_succ, List.map_append, List.length_append, HD.out]; simp [putD]
        have e2 : (putS (putsTo ds j ++ putD ds j q)).length = (putS (putsTo ds j)).length + q := by
          unfold putS; rw [List.map_append, List.length_append]; simp [putD]
        omega
      clear hpl hst hall hY1
      have HIN : Hid (InRel w3 ds (w.heap.size + 1) w.heap.size Y1 (.slice (some ⟨g', 0, none⟩) ((sizesTo ds j).length + 1) cg') j 0 Y1 vS w3) :=
        ⟨by rw [putD_zero, List.append_nil]; exact HP3.out, StepX.refl _ _, fun b h => .inl h⟩
      gi_loopw [9] (fun v9 wr => ∃ q o : Nat, q ≤ d / 32 + 1 ∧ Hid (o = 32 * q) ∧ v9 = .int .i64 (o : Int) ∧ ∃ Y2 vS2, InRel w3 ds (w.heap.size + 1) w.heap.size Y1 (.slice (some ⟨g', 0, none⟩) ((sizesTo ds j).length + 1) cg') j q Y2 vS2 wr) (fun v9 _ => d + 32 - (intOf v9).toNat)
      case atStart => exact ⟨0, 0, Nat.zero_le _, rfl, rfl, _, _, HIN.out⟩
      case round =>
        obtain ⟨q, o, hq, HO, rfl, Y2, vS2, hin⟩ := hrel
        have HI2 := Lib.hid hin
        have ho := HO.out
        have hwlt : W2.heap.size ≤ w3.heap.size := HS3.out.size
        have hc1 : wr.cell? ⟨wo.heap.size + 1, 0, none⟩ = some (.slice (some ⟨ga, 0, none⟩) (d + 1) gc) := (World.cell?_of_block (HKP.out wr hin.st (wo.heap.size + 1) (by have := HW2.out; omega) (HYR.out _ (by omega)))).trans HBX2.out.cell
        clear hin
        by_cases hod : o ≤ d
        · have hod2 : (o : Int) ≤ (d : Int) := by omega
          have hix := run_ix (P := Tryz.prog) 51 (by kernel_rfl) size_int (some ⟨ga, 0, none⟩) (d + 1) gc (.inr rfl) .i64
          have hx := fun W => hix W (d - o) (by omega)
          have z1 : IntKind.i64.wrap ((d : Int) - (o : Int)) = ((d - o : Nat) : Int) := by rw [show (d : Int) - (o : Int) = ((d - o : Nat) : Int) by omega]; exact IntWalk.i64_in _ (by omega)
          have z2 : IntKind.i64.wrap ((o : Int) + 32) = ((o + 32 : Nat) : Int) := by rw [show (o : Int) + 32 = ((o + 32 : Nat) : Int) by omega]; exact IntWalk.i64_in _ (by omega)
          simp only [bOf, oOf, Option.map_some, Option.getD_some, Nat.zero_add] at hx
          have hgl : ga < W2.heap.size := by have := HRW.out.lt (by omega); simpa [bOf] using this
          have hc2 : wr.cell? ⟨ga, d - o, none⟩ = some (.int .i64 ((itL (bwtOf ds) j (d - o) : Nat) : Int)) := by
            have h1 := HRW.out.cell (d - o) (by omega)
            simp only [bOf, oOf, Option.map_some, Option.getD_some, Nat.zero_add] at h1
            exact (World.cell?_of_block (HKP.out wr HI2.out.st ga hgl HGG.out.1)).trans h1
          have hro : rowP ds j (32 * q) = itL (bwtOf ds) j (d - o) := by unfold rowP; rw [HD.out, ← ho]
          have HRO := Lib.hid hro
          have hwf2 : (Lit.int .i64 ((itL (bwtOf ds) j (d - o) : Nat) : Int)).wf = true := by
            have h1 := (rowP_at ds HOK.out.byte j (32 * q) hlt (by rw [HD.out]; omega)).1
            rw [hro, rows_len] at h1
            have h2 := HOK.out.all
            exact WalkArith.wf_i64 ⟨by omega, by omega⟩
          have HPUT := Lib.hid (put_any wr Y2 (w.heap.size + 1) w.heap.size vS2 _ _ _ _ _ HI2.out.pl (by have := HPB.out q hq; omega) (by have := HPB.out q hq; omega) (itL (bwtOf ds) j (d - o)) hwf2 j o)
          clear hwf2 hgl hix hro ho
          generalize itL (bwtOf ds) j (d - o) = r at *
          gi_wp2_with (gi_at_call 57; refine (callsIn_wide.2 HPUT.out).mono ?_; rintro e w5 ⟨rfl, Y3, vS3, hp3, hst3, hy3⟩; have HP5 := Lib.hid hp3; have HS5 := Lib.hid hst3; have HY5 := Lib.hid hy3; clear hp3 hst3 hy3)
          go_roundw
          case rel =>
            refine ⟨q + 1, o + 32, (by have := HO.out; omega), (by show _ = _; have := HO.out; omega), by go_num, Y3, vS3, ⟨?_, ?_, ?_⟩⟩
            · have h := HP5.out
              have e1 : putS (putsTo ds j ++ putD ds j (q + 1)) = putS (putsTo ds j ++ putD ds j q) ++ [r] := by
                rw [putD_succ, ← List.append_assoc, putS_snoc, HRO.out]
              have e2 : putF (putsTo ds j ++ putD ds j (q + 1)) = updI (putF (putsTo ds j ++ putD ds j q)) (r : Int) (j, o) := by
                rw [putD_succ, ← List.append_assoc, putF_snoc, HRO.out, HO.out]
              rw [e1, e2, List.length_append, List.length_singleton]
              exact h
            · have h1 := HI2.out.st
              have h2 := HS5.out
              exact ⟨h2.os.trans h1.os, h2.tape.trans h1.tape, h2.output.trans h1.output, Nat.le_trans h1.size h2.size, fun b hb hn => (h2.block b (Nat.lt_of_lt_of_le hb h1.size) (fun h => (HI2.out.yg b h).elim hn (fun h => by omega))).trans (h1.block b hb hn)⟩
            · intro b hb
              have h1 := HI2.out.st.size
              have h2 := HS5.out.size
              rcases HY5.out b hb with h | h
              · rcases HI2.out.yg b h with h3 | h3
                · exact .inl h3
                · exact .inr ⟨h3.1, by omega⟩
              · exact .inr ⟨by omega, h.2⟩
          case measure => simp [intOf]; omega
        · have hod2 : ¬ (o : Int) ≤ (d : Int) := by omega
          obtain rfl : q = d / 32 + 1 := by omega
          have HQ : Hid (putsTo ds j ++ putD ds j (d / 32 + 1) = putsTo ds (j + 1)) := by show _ = _; rw [putsTo_succ, HD.out]
          have z3 : IntKind.i64.wrap ((j : Int) + 1) = ((j + 1 : Nat) : Int) := by rw [show (j : Int) + 1 = ((j + 1 : Nat) : Int) by omega]; exact IntWalk.i64_in _ (by omega)
          clear ho hc1 hod
          gi_wp2
          have hw2 := HW2.out
          have hw4 : w3.heap.size ≤ wr.heap.size := HI2.out.st.size
          have hpl := HI2.out.pl
          rw [HQ.out] at hpl
          have hkp : ∀ b, b < W2.heap.size → ¬ Y b → wr.heap[b]? = W2.heap[b]? := HKP.out wr HI2.out.st
          have hst : StepX Y W2 wr := ⟨HI2.out.st.os.trans HS3.out.os, HI2.out.st.tape.trans HS3.out.tape, HI2.out.st.output.trans HS3.out.output, Nat.le_trans HS3.out.size HI2.out.st.size, hkp⟩
          have hD2 : ¬ Y2 D := fun h => by
            have hDl := (Array.getElem?_eq_some_iff.1 HDK.out).1
            rcases HI2.out.yg D h with h | h
            · rw [HY1.out] at h
              rcases h with h | h
              · exact HYR.out D (by omega) h
              · omega
            · omega
          refine ⟨⟨D :: Ms, Y2, vS2, _, j + 1, ⟨hlt, hpl, ?_, ?_, ?_, ?_⟩, by omega, rfl⟩, by simp [intOf]; omega⟩
          · exact (HRL.out.bel.trans (HBw.out.mono hsz)).trans (hst.below (by have := HW2.out; omega) (fun b h => (HRL.out.yg b h).1))
          · intro b h
            have h1 := HI2.out.st.size
            rcases HI2.out.yg b h with h | h
            · rw [HY1.out] at h
              rcases h with h | h
              · exact ⟨(HRL.out.yg b h).1, by have := (HRL.out.yg b h).2; omega⟩
              · exact ⟨by omega, by omega⟩
            · exact ⟨by omega, h.2⟩
          · refine List.nodup_cons.2 ⟨fun h => ?_, HRL.out.nd⟩
            have := (Array.getElem?_eq_some_iff.1 (HRL.out.ms D h).2).1
            omega
          · intro E hE
            rcases List.mem_cons.1 hE with e | hE
            · subst e
              exact ⟨⟨by omega, hD2⟩, (hkp E (Array.getElem?_eq_some_iff.1 HDK.out).1 (HYR.out E (by omega))).trans HDK.out⟩
            · obtain ⟨⟨h1, h2⟩, h3⟩ := HRL.out.ms E hE
              have hl := (Array.getElem?_eq_some_iff.1 h3).1
              refine ⟨⟨h1, fun h => ?_⟩, (hkp E (by omega) h2).trans ((HBw.out.block E hl).trans h3)⟩
              rcases HI2.out.yg E h with h | h
              · rw [HY1.out] at h
                rcases h with h | h
                · exact h2 h
                · omega
              · omega
    case stop =>
      rintro D X c pre W2 hD hXD _ hf
      exact hf.elim
  · obtain rfl : j = ds.length := by omega
    clear hrel
    gi_wp2
    refine leaves_marks (fun b => w.heap.size ≤ b ∧ ¬ Y b) (fun W => PlIn Y W (w.heap.size + 1) w.heap.size vS vZ (putS (putsTo ds ds.length)) (sizesTo ds ds.length) (putS (putsTo ds ds.length)).length (putF (putsTo ds ds.length)) ∧ Below w.heap.size w W)
      (fun A B h st => ⟨h.1.kept ⟨st.size, fun b hb hy => st.block b hb (fun h => h.2 hy)⟩, h.2.trans (st.below h.2.size (fun b h => h.1))⟩) (fun A h => ?_) Ms wo HRL.out.nd HRL.out.ms ⟨HRL.out.pl, HRL.out.bel⟩
    exact ⟨_, results_tmp2 rfl _ _ _, _, _, _, _, _, rfl, h.1, h.2, fun b h => (HRL.out.yg b h).1⟩
end Go.Proofs.YtjpoebmjfedecaaGreat
