/-
  slices.Insert of one element, at the maps' rows.
-/
import Derived.Test.YtoifmfdaghmleaaBagRow
import Derived.Test.YtoifmfdaghmleaaProg
import Derived.Shelf.RegionOpenPlain
import Derived.Deep.RegionLaw
import Derived.Lib.Overlaps
import Derived.Shelf.Spec.SlicesInsertGrow
import Derived.BigQuiet
import Derived.WalkKit
import Derived.Deep.Upon
set_option linter.unusedVariables false
set_option linter.unusedSimpArgs false
namespace Go.Proofs.Ytoifmfdaghmleaa
open Go.RowKit Go.Lib
theorem info_eE : (Try.prog.info? 123).map (fun i => (i.zero, i.size, i.bytes)) = some (some (.agg #[.string ⟨#[]⟩, .int .i64 0]), 2, 24) := by kernel_rfl
theorem size_eE (w : World) : (sizeOf 123).run Try.prog w = .ok 2 w := by kernel_rfl
def InsPostE (w : World) (base : Nat) (v : Value) (n : Nat) (xs : List Value) (e : Ending) (w' : World) : Prop :=
  ∃ v', e = .returned v' ∧ w'.ownsRow base 123 2 v' (n + 1) xs ∧ w.grownBy w' v.ownBlock ∧ (v'.ownBlock = v.ownBlock ∨ v'.ownBlock = some w.heap.size)
set_option maxHeartbeats 2000000 in
set_option maxRecDepth 100000 in
theorem insEndE (w : World) (base n vb : Nat) (v : Value) (xs ys : List Value) (hown : w.ownsRow base 123 2 v n xs) (hn : n ≤ 1000000) (hbase : base ≤ w.heap.size) (hy : ys.length = 2) (h1y : ∀ u ∈ ys, u.oneCell' = true)
    (hys : ∀ j u, ys[j]? = some u → w.cell? ⟨vb, j, none⟩ = some u) :
    Calls Try.prog 90 #[v, .int .i64 (n : Int), .slice (some ⟨vb, 0, none⟩) 1 1] w (InsPostE w base v n (xs ++ ys)) := by
  obtain ⟨i0, hi0, hz0, hz1, hz2⟩ := info_parts info_eE
  have HY := Lib.hid hys
  have HO := Lib.hid hown
  have H1 := Lib.hid h1y
  have HL := Lib.hid hy
  have HB := Lib.hid hbase
  have t0 : (n : Int) ≤ (n : Int) := Int.le_refl _
  clear hys h1y hy
  have hvv : (v = .slice none 0 0 ∧ n = 0) ∨ ∃ g cap, v = .slice (some ⟨g, 0, none⟩) n cap ∧ n ≤ cap ∧ cap ≤ maxLen := by
    rcases hown.2 with h | ⟨g, cap, cur, h1, _, _, h2, h3, _⟩
    · exact .inl h
    · exact .inr ⟨g, cap, h1, h2, h3⟩
  clear hown hbase
  unfold maxLen at hvv
  rcases hvv with ⟨rfl, rfl⟩ | ⟨g, cap, rfl, hnc, hcm⟩
  · go_enter Try.func90, Try.ntmps90
    go_wp2_with (at_builtin; refine wpList_append_own_at _ rfl _ _ 119 rfl base 123 i0 _ 2 24 Try.underlying119 hi0 hz0 hz1 hz2 rfl (by decide) _ 0 _ rfl HO.out ⟨vb, 0, none⟩ 1 1 ys rfl (by rw [HL.out]) (fun j u hj => by rw [Addr.add_lit, Nat.zero_add]; exact HY.out j u hj) H1.out (by simp only [maxLen]; omega) (by omega) HB.out ?_; intro v' w1 hown' hgrow _ hat)
    go_ret
    exact ⟨v', rfl, hown', hgrow, hat⟩
  · by_cases hc0 : cap = n
    · have t1 : (cap : Int) = (n : Int) := by rw [hc0]
      subst hc0
      go_enter Try.func90, Try.ntmps90
      go_wp2_with (at_builtin; refine wpList_append_own_at _ rfl _ _ 119 rfl base 123 i0 _ 2 24 Try.underlying119 hi0 hz0 hz1 hz2 rfl (by decide) _ _ _ rfl HO.out ⟨vb, 0, none⟩ 1 1 ys rfl (by rw [HL.out]) (fun j u hj => by rw [Addr.add_lit, Nat.zero_add]; exact HY.out j u hj) H1.out (by simp only [maxLen]; omega) (by omega) HB.out ?_; intro v' w1 hown' hgrow _ hat)
      go_ret
      exact ⟨v', rfl, hown', hgrow, hat⟩
    · have t1 : ¬ (cap : Int) = (n : Int) := by omega
      go_enter Try.func90, Try.ntmps90
      go_wp2_with (at_builtin; refine wpList_append_own_at _ rfl _ _ 119 rfl base 123 i0 _ 2 24 Try.underlying119 hi0 hz0 hz1 hz2 rfl (by decide) _ _ _ rfl HO.out ⟨vb, 0, none⟩ 1 1 ys rfl (by rw [HL.out]) (fun j u hj => by rw [Addr.add_lit, Nat.zero_add]; exact HY.out j u hj) H1.out (by simp only [maxLen]; omega) (by omega) HB.out ?_; intro v' w1 hown' hgrow _ hat)
      go_ret
      exact ⟨v', rfl, hown', hgrow, hat⟩
set_option maxHeartbeats 4000000 in
set_option maxRecDepth 100000 in
theorem insShiftE (w : World) (base n i vb g c : Nat) (xs ys : List Value) (hown : w.ownsRow base 123 2 (.slice (some ⟨g, 0, none⟩) n c) n xs) (hi : i < n) (hroom : n + 1 ≤ c) (h1x : ∀ u ∈ xs, u.oneCell' = true) (hy : ys.length = 2) (h1y : ∀ u ∈ ys, u.oneCell' = true)
    (hys : ∀ j u, ys[j]? = some u → w.cell? ⟨vb, j, none⟩ = some u) (hvb : vb ≠ g) (tA : TypeId) (kA : Nat) (hsa : w.shape? vb = some (tA, kA)) (hfa : ∀ k, w.frozen? ⟨vb, k, none⟩ = false) :
    Calls Try.prog 90 #[.slice (some ⟨g, 0, none⟩) n c, .int .i64 (i : Int), .slice (some ⟨vb, 0, none⟩) 1 1] w (InsPostE w base (.slice (some ⟨g, 0, none⟩) n c) n (xs.take (i * 2) ++ ys ++ xs.drop (i * 2))) := by
  obtain ⟨i0, hi0, hz0, hz1, hz2⟩ := info_parts info_eE
  obtain ⟨T, hT⟩ : ∃ T, T = xs.take (i * 2) ++ ys ++ xs.drop (i * 2) := ⟨_, rfl⟩
  rw [← hT]
  obtain ⟨hgb, hnc, hcm, f, hr, hf⟩ := owns_some hown
  have hxl := hown.1
  have hcm2 : c ≤ 9223372036854775807 := by unfold maxLen at hcm; exact hcm
  have hsz : (Try.prog.info? 123).map (·.size) = some 2 := by rw [hi0]; simp [hz1]
  have hdl : (xs.drop (i * 2)).length = (n - i) * 2 := by rw [List.length_drop, hxl, Nat.sub_mul]
  obtain ⟨cB, hcB, hsB, _⟩ := hr
  have hr : w.rowIs g 123 (c * 2) f := ⟨cB, hcB, hsB, by assumption⟩
  have hsb : w.shape? g = some (123, cB.size) := by simp [World.shape?, hcB]
  have hov : ∀ lb cb, (callFunc 119 #[.slice (some ⟨vb, 0, none⟩) 1 1, .slice (some ⟨g, (i + 1) * 2, none⟩) lb cb]).run Try.prog w = .ok (.value (.bool false)) w := fun lb cb => by
    rw [run_callFunc_extern Try.func119 (by kernel_rfl) (by kernel_rfl) (by kernel_rfl) (e := Extern.SlicesOverlaps.overlaps #[119, 119] #[4]) (by kernel_rfl),
      Lib.run_overlaps_apart w 119 4 123 Try.underlying119 2 size_eE ⟨vb, 0, none⟩ ⟨g, (i + 1) * 2, none⟩ 1 1 lb cb hvb tA 123 kA cB.size hsa hsb (by omega) (hfa 0) (hfa kA)]
    rfl
  have hce : ∀ k, k < c * 2 → (w.cell? ⟨g, k, none⟩).isSome = true := fun k hk => by rw [hr.cell hk]; rfl
  have hcp1 : ∀ ty dc sc, (Builtin.copy_ #[119, 119] ty #[.slice (some ⟨g, (i + 1) * 2, none⟩) (n + 1 - (i + 1)) dc, .slice (some ⟨g, i * 2, none⟩) (n + 1 - i) sc]).run Try.prog w.drew = .ok (goInt ((n - i : Nat) : Int)) (w.drew.setCells g ((i + 1) * 2) (xs.drop (i * 2))) := fun ty dc sc => by
    have hmin : Nat.min (n + 1 - i) (n + 1 - (i + 1)) = n - i := by simp only [Nat.min_def]; split <;> omega
    have := run_copy_k (P := Try.prog) w.drew 119 119 ty 123 2 g ((i + 1) * 2) (n + 1 - (i + 1)) dc ⟨g, i * 2, none⟩ (n + 1 - i) sc (xs.drop (i * 2)) Try.underlying119 hsz (by rw [hdl, hmin])
      (fun j u hj => by
        have hj2 : j < (n - i) * 2 := by rw [← hdl]; exact (List.getElem?_eq_some_iff.1 hj).1
        rw [List.getElem?_drop] at hj
        rw [Addr.add_lit]
        refine (hr.cell (i := i * 2 + j) (by omega)).trans ?_
        rw [hf _ (by omega), List.getD_eq_getElem?_getD, hj]; rfl)
      (fun j hj => hce _ (by rw [hdl] at hj; omega)) (fun j _ => hr.frozen _) (fun u hu => h1x u (List.mem_of_mem_drop hu))
    rw [this, hmin]
  obtain ⟨W1, hW1⟩ : ∃ W1, W1 = w.drew.setCells g ((i + 1) * 2) (xs.drop (i * 2)) := ⟨_, rfl⟩
  have hr1 : ∃ f1, W1.rowIs g 123 (c * 2) f1 := ⟨_, by rw [hW1]; exact row_setCells _ _ _ _ hr⟩
  obtain ⟨f1, hr1⟩ := hr1
  have hv1 : ∀ j u, ys[j]? = some u → W1.cell? ⟨vb, j, none⟩ = some u := fun j u hj => by
    rw [hW1, World.cell?_setCells_out g _ _ _ _ (fun h _ => absurd h hvb)]
    exact hys j u hj
  have hcp2 : ∀ (W : World), (∀ x, W.cell? x = W1.cell? x) → (∀ x, W.frozen? x = W1.frozen? x) → ∀ ty dc, (Builtin.copy_ #[119, 119] ty #[.slice (some ⟨g, i * 2, none⟩) (n + 1 - i) dc, .slice (some ⟨vb, 0, none⟩) 1 1]).run Try.prog W = .ok (goInt ((1 : Nat) : Int)) (W.setCells g (i * 2) ys) := fun W hWc hWf ty dc => by
    have hmin : Nat.min 1 (n + 1 - i) = 1 := by simp only [Nat.min_def]; split <;> omega
    have := run_copy_k (P := Try.prog) W 119 119 ty 123 2 g (i * 2) (n + 1 - i) dc ⟨vb, 0, none⟩ 1 1 ys Try.underlying119 hsz (by rw [hy, hmin])
      (fun j u hj => by rw [Addr.add_lit, Nat.zero_add, hWc]; exact hv1 j u hj)
      (fun j hj => by rw [hWc, hr1.cell (by rw [hy] at hj; omega)]; rfl) (fun j _ => by rw [hWf]; exact hr1.frozen _) h1y
    rw [this, hmin]
  have HFIN : Hid (InsPostE w base (.slice (some ⟨g, 0, none⟩) n c) n T (.returned (.slice (some ⟨g, 0, none⟩) (n + 1) c)) (W1.setCells g (i * 2) ys)) :=
    ⟨_, rfl, by rw [hW1, hT]; exact owns_shift hown (by omega) hroom hy, by rw [hW1]; exact gb_setCells g _ _ _ (gb_setCells g _ _ _ (gb_drew (gb_refl _ _))), .inl rfl⟩
  rw [← hW1] at hcp1
  simp only [Nat.mul_one, Nat.add_sub_add_right, List.append_assoc] at hov hcp1 hcp2 HFIN
  have mixed : Try.prog.follows Departure.mixedOrders = true := by kernel_rfl
  have hz1 : ¬ ((1 : Int) = 0) := by omega
  have hz2 : ¬ ((i : Int) = (n : Int)) := by omega
  have hz3 : ¬ ((c : Int) < (n : Int) + 1) := by omega
  have hw0 : IntKind.i64.wrap ((n : Int) + 1) = (n : Int) + 1 := by rw [IntKind.wrap_i64]; omega
  have hw1 : IntKind.i64.wrap ((i : Int) + 1) = (i : Int) + 1 := by rw [IntKind.wrap_i64]; omega
  have hb1 : (0 : Int) ≤ (i : Int) + 1 := by omega
  have htn : ((i : Int) + 1).toNat = i + 1 := by omega
  have htm : ((n : Int) + 1).toNat = n + 1 := by omega
  have hb2 : ¬ (c = i + 1) := by omega
  have hb3 : (i : Int) ≤ (n : Int) + 1 := by omega
  have hb4 : ¬ (c = i) := by omega
  have hb5 : (i : Int) + 1 ≤ (n : Int) + 1 := by omega
  have hin : i ≤ n := by omega
  clear hT hr1 hv1 hce hr hf hfa hys hown h1x h1y hxl hdl hcB hsB hsb hW1 hi0 hz0 hsz
  go_enter Try.func90, Try.ntmps90
  go_wp2_with (simp only [hov])
  go_region_law_o (refine step_copy_runI rfl _ _ 119 119 rfl _ _ (by simp [Act.eval, Act.put]) (by simp [Act.eval, Act.put]) (hcp1 _ _ _) ?_)
  go_wp2_with (at_builtin; refine wpList_copy_runI _ rfl _ _ 119 119 rfl _ _ rfl rfl (hcp2 _ (fun _ => rfl) (fun _ => rfl) _ _) ?_)
  go_ret
  exact HFIN.out
set_option maxHeartbeats 4000000 in
set_option maxRecDepth 100000 in
theorem insGrowE (w : World) (base n i vb g c : Nat) (xs ys : List Value) (hown : w.ownsRow base 123 2 (.slice (some ⟨g, 0, none⟩) n c) n xs) (hi : i < n) (hn : n ≤ 1000000) (hroom : c < n + 1) (h1x : ∀ u ∈ xs, u.oneCell' = true) (hy : ys.length = 2) (h1y : ∀ u ∈ ys, u.oneCell' = true)
    (hys : ∀ j u, ys[j]? = some u → w.cell? ⟨vb, j, none⟩ = some u) (hvlt : vb < w.heap.size) (hbase : base ≤ w.heap.size) :
    Calls Try.prog 90 #[.slice (some ⟨g, 0, none⟩) n c, .int .i64 (i : Int), .slice (some ⟨vb, 0, none⟩) 1 1] w (InsPostE w base (.slice (some ⟨g, 0, none⟩) n c) n (xs.take (i * 2) ++ ys ++ xs.drop (i * 2))) := by
  obtain ⟨i0, hi0, hz0, hz1, hz2⟩ := info_parts info_eE
  obtain ⟨T, hT⟩ : ∃ T, T = xs.take (i * 2) ++ ys ++ xs.drop (i * 2) := ⟨_, rfl⟩
  rw [← hT]
  obtain ⟨hgb, hnc, hcm, f, hr, hf⟩ := owns_some hown
  have hxl := hown.1
  have hcn : c = n := by omega
  subst hcn
  have hsz : (Try.prog.info? 123).map (·.size) = some 2 := by rw [hi0]; simp [hz1]
  have hbw : g < w.heap.size := hr.lt
  have hkk : (c : Int) + 1 - (i : Int) = ((c + 1 - i : Nat) : Int) := by omega
  have hik : i + (c + 1 - i) = c + 1 := by omega
  have hold : (Builtin.firstCells i0.size i (.slice (some ⟨g, 0, none⟩) i c)).run Try.prog w.drew = .ok (xs.take (i * 2)).toArray w.drew := by
    rw [hz1]
    exact run_firstCells_some w.drew 2 i ⟨g, 0, none⟩ i c (xs.take (i * 2)) (by rw [List.length_take]; omega) (fun j v hj => by
      rw [Addr.add_lit, Nat.zero_add]
      have hj2 : j < i * 2 := by
        have := (List.getElem?_eq_some_iff.1 hj).1
        rw [List.length_take] at this; omega
      rw [List.getElem?_take_of_lt hj2] at hj
      refine (hr.cell (i := j) (by omega)).trans ?_
      rw [hf _ (by omega), List.getD_eq_getElem?_getD, hj]; rfl)
  have hrz : ∀ ty, (Builtin.append_ #[119, 3] ty #[.slice (some ⟨g, 0, none⟩) i c, .int .i64 ((c : Int) + 1 - (i : Int))]).run Try.prog w =
      .ok (.slice (some ⟨w.heap.size, 0, none⟩) (c + 1) (grownCap w (c + 1) c 123)) (w.drew.alloc (.cells ((xs.take (i * 2)).toArray ++ Builtin.zeroCells (.agg #[.string ⟨#[]⟩, .int .i64 0] : Value).cells (c + 1 - i) ++ Builtin.zeroCells (.agg #[.string ⟨#[]⟩, .int .i64 0] : Value).cells (grownCap w (c + 1) c 123 - (c + 1))) 123)) := fun ty => by
    have h := Lib.run_append_grow_zeros w 119 3 ty 123 i0 _ .i64 .i64 Try.underlying119 Try.underlying3 hi0 hz0 (some ⟨g, 0, none⟩) i c (xs.take (i * 2)) hold (c + 1 - i) (by omega) (by omega) (by omega) (by omega) (by rw [hz2]; omega) (by rw [hz2, hik]; exact growslice_fits hroom (by omega))
    rw [hik] at h
    rw [hkk]
    exact h
  obtain ⟨G, hG⟩ : ∃ G, G = grownCap w (c + 1) c 123 := ⟨_, rfl⟩
  have hGn : c + 1 ≤ G := by rw [hG]; exact grownCap_ge w _ _ _
  have hG63 : G ≤ maxLen := by rw [hG]; exact grownCap_le_maxLen w (c + 1) c 123 (by unfold maxLen; omega)
  obtain ⟨ROW, hROW⟩ : ∃ ROW : Array Value, ROW = (xs.take (i * 2)).toArray ++ Builtin.zeroCells (.agg #[.string ⟨#[]⟩, .int .i64 0] : Value).cells (c + 1 - i) ++ Builtin.zeroCells (.agg #[.string ⟨#[]⟩, .int .i64 0] : Value).cells (G - (c + 1)) := ⟨_, rfl⟩
  rw [← hG] at hrz
  rw [← hROW] at hrz
  have hzl : ∀ k, (Builtin.zeroCells (.agg #[.string ⟨#[]⟩, .int .i64 0] : Value).cells k).size = k * 2 := fun k => by simp [Builtin.zeroCells, Value.cells]
  have hRl : ROW.size = G * 2 := by
    rw [hROW, Array.size_append, Array.size_append, hzl, hzl]
    simp only [List.size_toArray, List.length_take]
    omega
  have hRL : ROW = (xs.take (i * 2) ++ (Builtin.zeroCells (.agg #[.string ⟨#[]⟩, .int .i64 0] : Value).cells (c + 1 - i)).toList ++ (Builtin.zeroCells (.agg #[.string ⟨#[]⟩, .int .i64 0] : Value).cells (G - (c + 1))).toList).toArray := by
    rw [hROW]; simp
  obtain ⟨W1, hW1⟩ : ∃ W1, W1 = w.drew.alloc (.cells ROW 123) := ⟨_, rfl⟩
  rw [← hW1] at hrz
  have hrN : ∃ f1, W1.rowIs w.heap.size 123 (G * 2) f1 := ⟨fun j => ROW.toList.getD j undef, ROW, by rw [hW1]; exact heap_alloc_new w.drew _, hRl, fun i hi => by
    show ROW[i]? = some (ROW.toList.getD i undef)
    rw [List.getD_eq_getElem?_getD, Array.getElem?_toList, Array.getElem?_eq_getElem (by omega)]; rfl⟩
  obtain ⟨f1, hrN⟩ := hrN
  have hOg : ∀ j v, w.cell? ⟨g, j, none⟩ = some v → W1.cell? ⟨g, j, none⟩ = some v := fun j v h => by rw [hW1, World.cell?_alloc_past (w := w.drew) _ g j hbw]; exact h
  have hOv : ∀ j v, w.cell? ⟨vb, j, none⟩ = some v → W1.cell? ⟨vb, j, none⟩ = some v := fun j v h => by rw [hW1, World.cell?_alloc_past (w := w.drew) _ vb j hvlt]; exact h
  have hcpA : ∀ (W : World), (∀ x, W.cell? x = W1.cell? x) → (∀ x, W.frozen? x = W1.frozen? x) → ∀ ty dc, (Builtin.copy_ #[119, 119] ty #[.slice (some ⟨w.heap.size, i * 2, none⟩) (c + 1 - i) dc, .slice (some ⟨vb, 0, none⟩) 1 1]).run Try.prog W = .ok (goInt ((1 : Nat) : Int)) (W.setCells w.heap.size (i * 2) ys) := fun W hWc hWf ty dc => by
    have hmin : Nat.min 1 (c + 1 - i) = 1 := by simp only [Nat.min_def]; split <;> omega
    have := run_copy_k (P := Try.prog) W 119 119 ty 123 2 w.heap.size (i * 2) (c + 1 - i) dc ⟨vb, 0, none⟩ 1 1 ys Try.underlying119 hsz (by rw [hy, hmin])
      (fun j u hj => by rw [Addr.add_lit, Nat.zero_add, hWc]; exact hOv _ _ (hys j u hj))
      (fun j hj => by rw [hWc, hrN.cell (by rw [hy] at hj; omega)]; rfl) (fun j _ => by rw [hWf]; exact hrN.frozen _) h1y
    rw [this, hmin]
  have hne : g ≠ w.heap.size := by omega
  have hdl : (xs.drop (i * 2)).length = (c - i) * 2 := by rw [List.length_drop, hxl, Nat.sub_mul]
  have hrN2 := row_setCells ys (i * 2) _ _ hrN
  have hcpB : ∀ (W : World), (∀ x, W.cell? x = (W1.setCells w.heap.size (i * 2) ys).cell? x) → (∀ x, W.frozen? x = (W1.setCells w.heap.size (i * 2) ys).frozen? x) → ∀ ty dc sc, (Builtin.copy_ #[119, 119] ty #[.slice (some ⟨w.heap.size, (i + 1) * 2, none⟩) (c + 1 - (i + 1)) dc, .slice (some ⟨g, i * 2, none⟩) (c - i) sc]).run Try.prog W = .ok (goInt ((c - i : Nat) : Int)) (W.setCells w.heap.size ((i + 1) * 2) (xs.drop (i * 2))) := fun W hWc hWf ty dc sc => by
    have hmin : Nat.min (c - i) (c + 1 - (i + 1)) = c - i := by simp only [Nat.min_def]; split <;> omega
    have := run_copy_k (P := Try.prog) W 119 119 ty 123 2 w.heap.size ((i + 1) * 2) (c + 1 - (i + 1)) dc ⟨g, i * 2, none⟩ (c - i) sc (xs.drop (i * 2)) Try.underlying119 hsz (by rw [hdl, hmin])
      (fun j u hj => by
        have hj2 : j < (c - i) * 2 := by rw [← hdl]; exact (List.getElem?_eq_some_iff.1 hj).1
        rw [List.getElem?_drop] at hj
        rw [Addr.add_lit, hWc, World.cell?_setCells_out _ _ _ _ _ (fun h _ => absurd h hne)]
        refine hOg _ _ ((hr.cell (i := i * 2 + j) (by omega)).trans ?_)
        rw [hf _ (by omega), List.getD_eq_getElem?_getD, hj]; rfl)
      (fun j hj => by rw [hWc, hrN2.cell (by rw [hdl] at hj; omega)]; rfl) (fun j _ => by rw [hWf]; exact hrN2.frozen _) (fun u hu => h1x u (List.mem_of_mem_drop hu))
    rw [this, hmin]
  have HFIN : Hid (InsPostE w base (.slice (some ⟨g, 0, none⟩) c c) c T (.returned (.slice (some ⟨w.heap.size, 0, none⟩) (c + 1) G)) ((((w.alloc (.cells ROW 123)).drew.setCells w.heap.size (i * 2) ys).drew).setCells w.heap.size ((i + 1) * 2) (xs.drop (i * 2)))) := by
    refine ⟨_, rfl, by rw [hT]; exact owns_new hRL hRl hxl (by omega) hGn hG63 hy hbase rfl, ?_, .inr rfl⟩
    refine ⟨?_, ?_, ?_, ?_, fun k hk _ => ?_⟩
    · rw [World.os_setCells]; show ((w.alloc (.cells ROW 123)).drew.setCells _ _ _).os = _; rw [World.os_setCells]; rfl
    · exact (gb_setCells w.heap.size _ _ _ (gb_drew (gb_setCells w.heap.size _ _ _ (gb_drew (World.grownBy_alloc w _ _))))).tape
    · rw [World.output_setCells]; show ((w.alloc (.cells ROW 123)).drew.setCells _ _ _).output = _; rw [World.output_setCells]; rfl
    · exact (gb_setCells w.heap.size _ _ _ (gb_drew (gb_setCells w.heap.size _ _ _ (gb_drew (World.grownBy_alloc w _ (some w.heap.size)))))).size
    · exact (gb_setCells w.heap.size _ _ _ (gb_drew (gb_setCells w.heap.size _ _ _ (gb_drew (World.grownBy_alloc w _ (some w.heap.size)))))).block k hk (by simp; omega)
  simp only [Nat.mul_one, Nat.add_sub_add_right] at hcpA hcpB HFIN
  have mixed : Try.prog.follows Departure.mixedOrders = true := by kernel_rfl
  subst hW1
  have hE1 : ∀ x, ((w.alloc (.cells ROW 123)).drew).cell? x = (w.drew.alloc (.cells ROW 123)).cell? x := fun x => rfl
  have hE2 : ∀ x, ((w.alloc (.cells ROW 123)).drew).frozen? x = (w.drew.alloc (.cells ROW 123)).frozen? x := fun x => rfl
  have hF1 : ∀ x, (((w.alloc (.cells ROW 123)).drew.setCells w.heap.size (i * 2) ys).drew).cell? x = ((w.drew.alloc (.cells ROW 123)).setCells w.heap.size (i * 2) ys).cell? x := fun x => rfl
  have hF2 : ∀ x, (((w.alloc (.cells ROW 123)).drew.setCells w.heap.size (i * 2) ys).drew).frozen? x = ((w.drew.alloc (.cells ROW 123)).setCells w.heap.size (i * 2) ys).frozen? x := fun x => rfl
  have hG9 : G ≤ 9223372036854775807 := by unfold maxLen at hG63; exact hG63
  have hz1 : ¬ ((1 : Int) = 0) := by omega
  have hz2 : ¬ ((i : Int) = (c : Int)) := by omega
  have hz3 : (c : Int) < (c : Int) + 1 := by omega
  have hw0 : IntKind.i64.wrap ((c : Int) + 1) = (c : Int) + 1 := by rw [IntKind.wrap_i64]; omega
  have hw2 : IntKind.i64.wrap ((c : Int) + 1 - (i : Int)) = (c : Int) + 1 - (i : Int) := by rw [IntKind.wrap_i64]; omega
  have hw1 : IntKind.i64.wrap ((i : Int) + 1) = (i : Int) + 1 := by rw [IntKind.wrap_i64]; omega
  have hb1 : (0 : Int) ≤ (i : Int) + 1 := by omega
  have hin : i ≤ c := by omega
  have htn : ((i : Int) + 1).toNat = i + 1 := by omega
  have hb3 : (i : Int) ≤ (c : Int) := by omega
  have hGi : ¬ (G = i) := by omega
  have hGim : ¬ (G = i + 1) := by omega
  have hci : ¬ (c = i) := by omega
  clear hkk hik hold hROW hG hRl hRL hr hf hrN hrN2 hOg hOv hdl hT hown hxl h1x h1y hys hsz hi0 hz0 hzl
  go_enter Try.func90, Try.ntmps90
  go_wp2_with (first
    | (at_builtin; refine Lib.wpList_append_run _ rfl _ _ _ _ rfl _ _ rfl rfl _ _ (hrz _) ?_)
    | (at_builtin; refine wpList_copy_runI _ rfl _ _ 119 119 rfl _ _ rfl rfl (hcpA _ hE1 hE2 _ _) ?_))
  go_region_law_o (refine step_copy_runI rfl _ _ 119 119 rfl (.slice (some ⟨w.heap.size, (i + 1) * 2, none⟩) (c - i) (G - (i + 1))) (.slice (some ⟨g, i * 2, none⟩) (c - i) (c - i)) (by simp [Act.eval, Act.put]) (by simp [Act.eval, Act.put]) (hcpB _ hF1 hF2 3 (G - (i + 1)) (c - i)) ?_)
  go_wp2
  go_ret
  exact HFIN.out
theorem insE (w : World) (base n i vb : Nat) (v : Value) (xs ys : List Value) (hown : w.ownsRow base 123 2 v n xs) (hi : i ≤ n) (hn : n ≤ 1000000) (h1x : ∀ u ∈ xs, u.oneCell' = true) (hy : ys.length = 2) (h1y : ∀ u ∈ ys, u.oneCell' = true)
    (hvb : w.heap[vb]? = some (.cells ys.toArray 123 (0, 0))) (hne : v.ownBlock ≠ some vb) (hbase : base ≤ w.heap.size) :
    Calls Try.prog 90 #[v, .int .i64 (i : Int), .slice (some ⟨vb, 0, none⟩) 1 1] w (InsPostE w base v n (xs.take (i * 2) ++ ys ++ xs.drop (i * 2))) := by
  have hys : ∀ j u, ys[j]? = some u → w.cell? ⟨vb, j, none⟩ = some u := fun j u hj => by simp [World.cell?, hvb, hj]
  have hxl := hown.1
  rcases Nat.lt_or_ge i n with h | h
  · obtain ⟨g, c, rfl, hnc⟩ : ∃ g c, v = .slice (some ⟨g, 0, none⟩) n c ∧ n ≤ c := by
      rcases hown.2 with h | ⟨g, cap, cur, h1, _, _, h2, h3, _⟩
      · omega
      · exact ⟨g, cap, h1, h2⟩
    by_cases hr : n + 1 ≤ c
    · exact insShiftE w base n i vb g c xs ys hown h hr h1x hy h1y hys (fun e => hne (by rw [e]; rfl)) 123 ys.length (by simp [World.shape?, hvb]) (fun k => by simp [World.frozen?, hvb])
    · exact insGrowE w base n i vb g c xs ys hown h hn (by omega) h1x hy h1y hys (Array.getElem?_eq_some_iff.1 hvb).1 hbase
  · obtain rfl : i = n := by omega
    rw [List.take_of_length_le (by omega), List.drop_eq_nil_of_le (by omega), List.append_nil]
    exact insEndE w base i vb v xs ys hown hn hbase hy h1y hys
theorem info_eF : (Try.prog.info? 133).map (fun i => (i.zero, i.size, i.bytes)) = some (some (.agg #[.int .i64 0, .slice none 0 0]), 2, 32) := by kernel_rfl
theorem size_eF (w : World) : (sizeOf 133).run Try.prog w = .ok 2 w := by kernel_rfl
def InsPostF (w : World) (base : Nat) (v : Value) (n : Nat) (xs : List Value) (e : Ending) (w' : World) : Prop :=
  ∃ v', e = .returned v' ∧ w'.ownsRow base 133 2 v' (n + 1) xs ∧ w.grownBy w' v.ownBlock ∧ (v'.ownBlock = v.ownBlock ∨ v'.ownBlock = some w.heap.size)
set_option maxHeartbeats 2000000 in
set_option maxRecDepth 100000 in
theorem insEndF (w : World) (base n vb : Nat) (v : Value) (xs ys : List Value) (hown : w.ownsRow base 133 2 v n xs) (hn : n ≤ 1000000) (hbase : base ≤ w.heap.size) (hy : ys.length = 2) (h1y : ∀ u ∈ ys, u.oneCell' = true)
    (hys : ∀ j u, ys[j]? = some u → w.cell? ⟨vb, j, none⟩ = some u) :
    Calls Try.prog 94 #[v, .int .i64 (n : Int), .slice (some ⟨vb, 0, none⟩) 1 1] w (InsPostF w base v n (xs ++ ys)) := by
  obtain ⟨i0, hi0, hz0, hz1, hz2⟩ := info_parts info_eF
  have HY := Lib.hid hys
  have HO := Lib.hid hown
  have H1 := Lib.hid h1y
  have HL := Lib.hid hy
  have HB := Lib.hid hbase
  have t0 : (n : Int) ≤ (n : Int) := Int.le_refl _
  clear hys h1y hy
  have hvv : (v = .slice none 0 0 ∧ n = 0) ∨ ∃ g cap, v = .slice (some ⟨g, 0, none⟩) n cap ∧ n ≤ cap ∧ cap ≤ maxLen := by
    rcases hown.2 with h | ⟨g, cap, cur, h1, _, _, h2, h3, _⟩
    · exact .inl h
    · exact .inr ⟨g, cap, h1, h2, h3⟩
  clear hown hbase
  unfold maxLen at hvv
  rcases hvv with ⟨rfl, rfl⟩ | ⟨g, cap, rfl, hnc, hcm⟩
  · go_enter Try.func94, Try.ntmps94
    go_wp2_with (at_builtin; refine wpList_append_own_at _ rfl _ _ 129 rfl base 133 i0 _ 2 32 Try.underlying129 hi0 hz0 hz1 hz2 rfl (by decide) _ 0 _ rfl HO.out ⟨vb, 0, none⟩ 1 1 ys rfl (by rw [HL.out]) (fun j u hj => by rw [Addr.add_lit, Nat.zero_add]; exact HY.out j u hj) H1.out (by simp only [maxLen]; omega) (by omega) HB.out ?_; intro v' w1 hown' hgrow _ hat)
    go_ret
    exact ⟨v', rfl, hown', hgrow, hat⟩
  · by_cases hc0 : cap = n
    · have t1 : (cap : Int) = (n : Int) := by rw [hc0]
      subst hc0
      go_enter Try.func94, Try.ntmps94
      go_wp2_with (at_builtin; refine wpList_append_own_at _ rfl _ _ 129 rfl base 133 i0 _ 2 32 Try.underlying129 hi0 hz0 hz1 hz2 rfl (by decide) _ _ _ rfl HO.out ⟨vb, 0, none⟩ 1 1 ys rfl (by rw [HL.out]) (fun j u hj => by rw [Addr.add_lit, Nat.zero_add]; exact HY.out j u hj) H1.out (by simp only [maxLen]; omega) (by omega) HB.out ?_; intro v' w1 hown' hgrow _ hat)
      go_ret
      exact ⟨v', rfl, hown', hgrow, hat⟩
    · have t1 : ¬ (cap : Int) = (n : Int) := by omega
      go_enter Try.func94, Try.ntmps94
      go_wp2_with (at_builtin; refine wpList_append_own_at _ rfl _ _ 129 rfl base 133 i0 _ 2 32 Try.underlying129 hi0 hz0 hz1 hz2 rfl (by decide) _ _ _ rfl HO.out ⟨vb, 0, none⟩ 1 1 ys rfl (by rw [HL.out]) (fun j u hj => by rw [Addr.add_lit, Nat.zero_add]; exact HY.out j u hj) H1.out (by simp only [maxLen]; omega) (by omega) HB.out ?_; intro v' w1 hown' hgrow _ hat)
      go_ret
      exact ⟨v', rfl, hown', hgrow, hat⟩
set_option maxHeartbeats 4000000 in
set_option maxRecDepth 100000 in
theorem insShiftF (w : World) (base n i vb g c : Nat) (xs ys : List Value) (hown : w.ownsRow base 133 2 (.slice (some ⟨g, 0, none⟩) n c) n xs) (hi : i < n) (hroom : n + 1 ≤ c) (h1x : ∀ u ∈ xs, u.oneCell' = true) (hy : ys.length = 2) (h1y : ∀ u ∈ ys, u.oneCell' = true)
    (hys : ∀ j u, ys[j]? = some u → w.cell? ⟨vb, j, none⟩ = some u) (hvb : vb ≠ g) (tA : TypeId) (kA : Nat) (hsa : w.shape? vb = some (tA, kA)) (hfa : ∀ k, w.frozen? ⟨vb, k, none⟩ = false) :
    Calls Try.prog 94 #[.slice (some ⟨g, 0, none⟩) n c, .int .i64 (i : Int), .slice (some ⟨vb, 0, none⟩) 1 1] w (InsPostF w base (.slice (some ⟨g, 0, none⟩) n c) n (xs.take (i * 2) ++ ys ++ xs.drop (i * 2))) := by
  obtain ⟨i0, hi0, hz0, hz1, hz2⟩ := info_parts info_eF
  obtain ⟨T, hT⟩ : ∃ T, T = xs.take (i * 2) ++ ys ++ xs.drop (i * 2) := ⟨_, rfl⟩
  rw [← hT]
  obtain ⟨hgb, hnc, hcm, f, hr, hf⟩ := owns_some hown
  have hxl := hown.1
  have hcm2 : c ≤ 9223372036854775807 := by unfold maxLen at hcm; exact hcm
  have hsz : (Try.prog.info? 133).map (·.size) = some 2 := by rw [hi0]; simp [hz1]
  have hdl : (xs.drop (i * 2)).length = (n - i) * 2 := by rw [List.length_drop, hxl, Nat.sub_mul]
  obtain ⟨cB, hcB, hsB, _⟩ := hr
  have hr : w.rowIs g 133 (c * 2) f := ⟨cB, hcB, hsB, by assumption⟩
  have hsb : w.shape? g = some (133, cB.size) := by simp [World.shape?, hcB]
  have hov : ∀ lb cb, (callFunc 125 #[.slice (some ⟨vb, 0, none⟩) 1 1, .slice (some ⟨g, (i + 1) * 2, none⟩) lb cb]).run Try.prog w = .ok (.value (.bool false)) w := fun lb cb => by
    rw [run_callFunc_extern Try.func125 (by kernel_rfl) (by kernel_rfl) (by kernel_rfl) (e := Extern.SlicesOverlaps.overlaps #[129, 129] #[4]) (by kernel_rfl),
      Lib.run_overlaps_apart w 129 4 133 Try.underlying129 2 size_eF ⟨vb, 0, none⟩ ⟨g, (i + 1) * 2, none⟩ 1 1 lb cb hvb tA 133 kA cB.size hsa hsb (by omega) (hfa 0) (hfa kA)]
    rfl
  have hce : ∀ k, k < c * 2 → (w.cell? ⟨g, k, none⟩).isSome = true := fun k hk => by rw [hr.cell hk]; rfl
  have hcp1 : ∀ ty dc sc, (Builtin.copy_ #[129, 129] ty #[.slice (some ⟨g, (i + 1) * 2, none⟩) (n + 1 - (i + 1)) dc, .slice (some ⟨g, i * 2, none⟩) (n + 1 - i) sc]).run Try.prog w.drew = .ok (goInt ((n - i : Nat) : Int)) (w.drew.setCells g ((i + 1) * 2) (xs.drop (i * 2))) := fun ty dc sc => by
    have hmin : Nat.min (n + 1 - i) (n + 1 - (i + 1)) = n - i := by simp only [Nat.min_def]; split <;> omega
    have := run_copy_k (P := Try.prog) w.drew 129 129 ty 133 2 g ((i + 1) * 2) (n + 1 - (i + 1)) dc ⟨g, i * 2, none⟩ (n + 1 - i) sc (xs.drop (i * 2)) Try.underlying129 hsz (by rw [hdl, hmin])
      (fun j u hj => by
        have hj2 : j < (n - i) * 2 := by rw [← hdl]; exact (List.getElem?_eq_some_iff.1 hj).1
        rw [List.getElem?_drop] at hj
        rw [Addr.add_lit]
        refine (hr.cell (i := i * 2 + j) (by omega)).trans ?_
        rw [hf _ (by omega), List.getD_eq_getElem?_getD, hj]; rfl)
      (fun j hj => hce _ (by rw [hdl] at hj; omega)) (fun j _ => hr.frozen _) (fun u hu => h1x u (List.mem_of_mem_drop hu))
    rw [this, hmin]
  obtain ⟨W1, hW1⟩ : ∃ W1, W1 = w.drew.setCells g ((i + 1) * 2) (xs.drop (i * 2)) := ⟨_, rfl⟩
  have hr1 : ∃ f1, W1.rowIs g 133 (c * 2) f1 := ⟨_, by rw [hW1]; exact row_setCells _ _ _ _ hr⟩
  obtain ⟨f1, hr1⟩ := hr1
  have hv1 : ∀ j u, ys[j]? = some u → W1.cell? ⟨vb, j, none⟩ = some u := fun j u hj => by
    rw [hW1, World.cell?_setCells_out g _ _ _ _ (fun h _ => absurd h hvb)]
    exact hys j u hj
  have hcp2 : ∀ (W : World), (∀ x, W.cell? x = W1.cell? x) → (∀ x, W.frozen? x = W1.frozen? x) → ∀ ty dc, (Builtin.copy_ #[129, 129] ty #[.slice (some ⟨g, i * 2, none⟩) (n + 1 - i) dc, .slice (some ⟨vb, 0, none⟩) 1 1]).run Try.prog W = .ok (goInt ((1 : Nat) : Int)) (W.setCells g (i * 2) ys) := fun W hWc hWf ty dc => by
    have hmin : Nat.min 1 (n + 1 - i) = 1 := by simp only [Nat.min_def]; split <;> omega
    have := run_copy_k (P := Try.prog) W 129 129 ty 133 2 g (i * 2) (n + 1 - i) dc ⟨vb, 0, none⟩ 1 1 ys Try.underlying129 hsz (by rw [hy, hmin])
      (fun j u hj => by rw [Addr.add_lit, Nat.zero_add, hWc]; exact hv1 j u hj)
      (fun j hj => by rw [hWc, hr1.cell (by rw [hy] at hj; omega)]; rfl) (fun j _ => by rw [hWf]; exact hr1.frozen _) h1y
    rw [this, hmin]
  have HFIN : Hid (InsPostF w base (.slice (some ⟨g, 0, none⟩) n c) n T (.returned (.slice (some ⟨g, 0, none⟩) (n + 1) c)) (W1.setCells g (i * 2) ys)) :=
    ⟨_, rfl, by rw [hW1, hT]; exact owns_shift hown (by omega) hroom hy, by rw [hW1]; exact gb_setCells g _ _ _ (gb_setCells g _ _ _ (gb_drew (gb_refl _ _))), .inl rfl⟩
  rw [← hW1] at hcp1
  simp only [Nat.mul_one, Nat.add_sub_add_right, List.append_assoc] at hov hcp1 hcp2 HFIN
  have mixed : Try.prog.follows Departure.mixedOrders = true := by kernel_rfl
  have hz1 : ¬ ((1 : Int) = 0) := by omega
  have hz2 : ¬ ((i : Int) = (n : Int)) := by omega
  have hz3 : ¬ ((c : Int) < (n : Int) + 1) := by omega
  have hw0 : IntKind.i64.wrap ((n : Int) + 1) = (n : Int) + 1 := by rw [IntKind.wrap_i64]; omega
  have hw1 : IntKind.i64.wrap ((i : Int) + 1) = (i : Int) + 1 := by rw [IntKind.wrap_i64]; omega
  have hb1 : (0 : Int) ≤ (i : Int) + 1 := by omega
  have htn : ((i : Int) + 1).toNat = i + 1 := by omega
  have htm : ((n : Int) + 1).toNat = n + 1 := by omega
  have hb2 : ¬ (c = i + 1) := by omega
  have hb3 : (i : Int) ≤ (n : Int) + 1 := by omega
  have hb4 : ¬ (c = i) := by omega
  have hb5 : (i : Int) + 1 ≤ (n : Int) + 1 := by omega
  have hin : i ≤ n := by omega
  clear hT hr1 hv1 hce hr hf hfa hys hown h1x h1y hxl hdl hcB hsB hsb hW1 hi0 hz0 hsz
  go_enter Try.func94, Try.ntmps94
  go_wp2_with (simp only [hov])
  go_region_law_o (refine step_copy_runI rfl _ _ 129 129 rfl _ _ (by simp [Act.eval, Act.put]) (by simp [Act.eval, Act.put]) (hcp1 _ _ _) ?_)
  go_wp2_with (at_builtin; refine wpList_copy_runI _ rfl _ _ 129 129 rfl _ _ rfl rfl (hcp2 _ (fun _ => rfl) (fun _ => rfl) _ _) ?_)
  go_ret
  exact HFIN.out
set_option maxHeartbeats 4000000 in
set_option maxRecDepth 100000 in
theorem insGrowF (w : World) (base n i vb g c : Nat) (xs ys : List Value) (hown : w.ownsRow base 133 2 (.slice (some ⟨g, 0, none⟩) n c) n xs) (hi : i < n) (hn : n ≤ 1000000) (hroom : c < n + 1) (h1x : ∀ u ∈ xs, u.oneCell' = true) (hy : ys.length = 2) (h1y : ∀ u ∈ ys, u.oneCell' = true)
    (hys : ∀ j u, ys[j]? = some u → w.cell? ⟨vb, j, none⟩ = some u) (hvlt : vb < w.heap.size) (hbase : base ≤ w.heap.size) :
    Calls Try.prog 94 #[.slice (some ⟨g, 0, none⟩) n c, .int .i64 (i : Int), .slice (some ⟨vb, 0, none⟩) 1 1] w (InsPostF w base (.slice (some ⟨g, 0, none⟩) n c) n (xs.take (i * 2) ++ ys ++ xs.drop (i * 2))) := by
  obtain ⟨i0, hi0, hz0, hz1, hz2⟩ := info_parts info_eF
  obtain ⟨T, hT⟩ : ∃ T, T = xs.take (i * 2) ++ ys ++ xs.drop (i * 2) := ⟨_, rfl⟩
  rw [← hT]
  obtain ⟨hgb, hnc, hcm, f, hr, hf⟩ := owns_some hown
  have hxl := hown.1
  have hcn : c = n := by omega
  subst hcn
  have hsz : (Try.prog.info? 133).map (·.size) = some 2 := by rw [hi0]; simp [hz1]
  have hbw : g < w.heap.size := hr.lt
  have hkk : (c : Int) + 1 - (i : Int) = ((c + 1 - i : Nat) : Int) := by omega
  have hik : i + (c + 1 - i) = c + 1 := by omega
  have hold : (Builtin.firstCells i0.size i (.slice (some ⟨g, 0, none⟩) i c)).run Try.prog w.drew = .ok (xs.take (i * 2)).toArray w.drew := by
    rw [hz1]
    exact run_firstCells_some w.drew 2 i ⟨g, 0, none⟩ i c (xs.take (i * 2)) (by rw [List.length_take]; omega) (fun j v hj => by
      rw [Addr.add_lit, Nat.zero_add]
      have hj2 : j < i * 2 := by
        have := (List.getElem?_eq_some_iff.1 hj).1
        rw [List.length_take] at this; omega
      rw [List.getElem?_take_of_lt hj2] at hj
      refine (hr.cell (i := j) (by omega)).trans ?_
      rw [hf _ (by omega), List.getD_eq_getElem?_getD, hj]; rfl)
  have hrz : ∀ ty, (Builtin.append_ #[129, 3] ty #[.slice (some ⟨g, 0, none⟩) i c, .int .i64 ((c : Int) + 1 - (i : Int))]).run Try.prog w =
      .ok (.slice (some ⟨w.heap.size, 0, none⟩) (c + 1) (grownCap w (c + 1) c 133)) (w.drew.alloc (.cells ((xs.take (i * 2)).toArray ++ Builtin.zeroCells (.agg #[.int .i64 0, .slice none 0 0] : Value).cells (c + 1 - i) ++ Builtin.zeroCells (.agg #[.int .i64 0, .slice none 0 0] : Value).cells (grownCap w (c + 1) c 133 - (c + 1))) 133)) := fun ty => by
    have h := Lib.run_append_grow_zeros w 129 3 ty 133 i0 _ .i64 .i64 Try.underlying129 Try.underlying3 hi0 hz0 (some ⟨g, 0, none⟩) i c (xs.take (i * 2)) hold (c + 1 - i) (by omega) (by omega) (by omega) (by omega) (by rw [hz2]; omega) (by rw [hz2, hik]; exact growslice_fits hroom (by omega))
    rw [hik] at h
    rw [hkk]
    exact h
  obtain ⟨G, hG⟩ : ∃ G, G = grownCap w (c + 1) c 133 := ⟨_, rfl⟩
  have hGn : c + 1 ≤ G := by rw [hG]; exact grownCap_ge w _ _ _
  have hG63 : G ≤ maxLen := by rw [hG]; exact grownCap_le_maxLen w (c + 1) c 133 (by unfold maxLen; omega)
  obtain ⟨ROW, hROW⟩ : ∃ ROW : Array Value, ROW = (xs.take (i * 2)).toArray ++ Builtin.zeroCells (.agg #[.int .i64 0, .slice none 0 0] : Value).cells (c + 1 - i) ++ Builtin.zeroCells (.agg #[.int .i64 0, .slice none 0 0] : Value).cells (G - (c + 1)) := ⟨_, rfl⟩
  rw [← hG] at hrz
  rw [← hROW] at hrz
  have hzl : ∀ k, (Builtin.zeroCells (.agg #[.int .i64 0, .slice none 0 0] : Value).cells k).size = k * 2 := fun k => by simp [Builtin.zeroCells, Value.cells]
  have hRl : ROW.size = G * 2 := by
    rw [hROW, Array.size_append, Array.size_append, hzl, hzl]
    simp only [List.size_toArray, List.length_take]
    omega
  have hRL : ROW = (xs.take (i * 2) ++ (Builtin.zeroCells (.agg #[.int .i64 0, .slice none 0 0] : Value).cells (c + 1 - i)).toList ++ (Builtin.zeroCells (.agg #[.int .i64 0, .slice none 0 0] : Value).cells (G - (c + 1))).toList).toArray := by
    rw [hROW]; simp
  obtain ⟨W1, hW1⟩ : ∃ W1, W1 = w.drew.alloc (.cells ROW 133) := ⟨_, rfl⟩
  rw [← hW1] at hrz
  have hrN : ∃ f1, W1.rowIs w.heap.size 133 (G * 2) f1 := ⟨fun j => ROW.toList.getD j undef, ROW, by rw [hW1]; exact heap_alloc_new w.drew _, hRl, fun i hi => by
    show ROW[i]? = some (ROW.toList.getD i undef)
    rw [List.getD_eq_getElem?_getD, Array.getElem?_toList, Array.getElem?_eq_getElem (by omega)]; rfl⟩
  obtain ⟨f1, hrN⟩ := hrN
  have hOg : ∀ j v, w.cell? ⟨g, j, none⟩ = some v → W1.cell? ⟨g, j, none⟩ = some v := fun j v h => by rw [hW1, World.cell?_alloc_past (w := w.drew) _ g j hbw]; exact h
  have hOv : ∀ j v, w.cell? ⟨vb, j, none⟩ = some v → W1.cell? ⟨vb, j, none⟩ = some v := fun j v h => by rw [hW1, World.cell?_alloc_past (w := w.drew) _ vb j hvlt]; exact h
  have hcpA : ∀ (W : World), (∀ x, W.cell? x = W1.cell? x) → (∀ x, W.frozen? x = W1.frozen? x) → ∀ ty dc, (Builtin.copy_ #[129, 129] ty #[.slice (some ⟨w.heap.size, i * 2, none⟩) (c + 1 - i) dc, .slice (some ⟨vb, 0, none⟩) 1 1]).run Try.prog W = .ok (goInt ((1 : Nat) : Int)) (W.setCells w.heap.size (i * 2) ys) := fun W hWc hWf ty dc => by
    have hmin : Nat.min 1 (c + 1 - i) = 1 := by simp only [Nat.min_def]; split <;> omega
    have := run_copy_k (P := Try.prog) W 129 129 ty 133 2 w.heap.size (i * 2) (c + 1 - i) dc ⟨vb, 0, none⟩ 1 1 ys Try.underlying129 hsz (by rw [hy, hmin])
      (fun j u hj => by rw [Addr.add_lit, Nat.zero_add, hWc]; exact hOv _ _ (hys j u hj))
      (fun j hj => by rw [hWc, hrN.cell (by rw [hy] at hj; omega)]; rfl) (fun j _ => by rw [hWf]; exact hrN.frozen _) h1y
    rw [this, hmin]
  have hne : g ≠ w.heap.size := by omega
  have hdl : (xs.drop (i * 2)).length = (c - i) * 2 := by rw [List.length_drop, hxl, Nat.sub_mul]
  have hrN2 := row_setCells ys (i * 2) _ _ hrN
  have hcpB : ∀ (W : World), (∀ x, W.cell? x = (W1.setCells w.heap.size (i * 2) ys).cell? x) → (∀ x, W.frozen? x = (W1.setCells w.heap.size (i * 2) ys).frozen? x) → ∀ ty dc sc, (Builtin.copy_ #[129, 129] ty #[.slice (some ⟨w.heap.size, (i + 1) * 2, none⟩) (c + 1 - (i + 1)) dc, .slice (some ⟨g, i * 2, none⟩) (c - i) sc]).run Try.prog W = .ok (goInt ((c - i : Nat) : Int)) (W.setCells w.heap.size ((i + 1) * 2) (xs.drop (i * 2))) := fun W hWc hWf ty dc sc => by
    have hmin : Nat.min (c - i) (c + 1 - (i + 1)) = c - i := by simp only [Nat.min_def]; split <;> omega
    have := run_copy_k (P := Try.prog) W 129 129 ty 133 2 w.heap.size ((i + 1) * 2) (c + 1 - (i + 1)) dc ⟨g, i * 2, none⟩ (c - i) sc (xs.drop (i * 2)) Try.underlying129 hsz (by rw [hdl, hmin])
      (fun j u hj => by
        have hj2 : j < (c - i) * 2 := by rw [← hdl]; exact (List.getElem?_eq_some_iff.1 hj).1
        rw [List.getElem?_drop] at hj
        rw [Addr.add_lit, hWc, World.cell?_setCells_out _ _ _ _ _ (fun h _ => absurd h hne)]
        refine hOg _ _ ((hr.cell (i := i * 2 + j) (by omega)).trans ?_)
        rw [hf _ (by omega), List.getD_eq_getElem?_getD, hj]; rfl)
      (fun j hj => by rw [hWc, hrN2.cell (by rw [hdl] at hj; omega)]; rfl) (fun j _ => by rw [hWf]; exact hrN2.frozen _) (fun u hu => h1x u (List.mem_of_mem_drop hu))
    rw [this, hmin]
  have HFIN : Hid (InsPostF w base (.slice (some ⟨g, 0, none⟩) c c) c T (.returned (.slice (some ⟨w.heap.size, 0, none⟩) (c + 1) G)) ((((w.alloc (.cells ROW 133)).drew.setCells w.heap.size (i * 2) ys).drew).setCells w.heap.size ((i + 1) * 2) (xs.drop (i * 2)))) := by
    refine ⟨_, rfl, by rw [hT]; exact owns_new hRL hRl hxl (by omega) hGn hG63 hy hbase rfl, ?_, .inr rfl⟩
    refine ⟨?_, ?_, ?_, ?_, fun k hk _ => ?_⟩
    · rw [World.os_setCells]; show ((w.alloc (.cells ROW 133)).drew.setCells _ _ _).os = _; rw [World.os_setCells]; rfl
    · exact (gb_setCells w.heap.size _ _ _ (gb_drew (gb_setCells w.heap.size _ _ _ (gb_drew (World.grownBy_alloc w _ _))))).tape
    · rw [World.output_setCells]; show ((w.alloc (.cells ROW 133)).drew.setCells _ _ _).output = _; rw [World.output_setCells]; rfl
    · exact (gb_setCells w.heap.size _ _ _ (gb_drew (gb_setCells w.heap.size _ _ _ (gb_drew (World.grownBy_alloc w _ (some w.heap.size)))))).size
    · exact (gb_setCells w.heap.size _ _ _ (gb_drew (gb_setCells w.heap.size _ _ _ (gb_drew (World.grownBy_alloc w _ (some w.heap.size)))))).block k hk (by simp; omega)
  simp only [Nat.mul_one, Nat.add_sub_add_right] at hcpA hcpB HFIN
  have mixed : Try.prog.follows Departure.mixedOrders = true := by kernel_rfl
  subst hW1
  have hE1 : ∀ x, ((w.alloc (.cells ROW 133)).drew).cell? x = (w.drew.alloc (.cells ROW 133)).cell? x := fun x => rfl
  have hE2 : ∀ x, ((w.alloc (.cells ROW 133)).drew).frozen? x = (w.drew.alloc (.cells ROW 133)).frozen? x := fun x => rfl
  have hF1 : ∀ x, (((w.alloc (.cells ROW 133)).drew.setCells w.heap.size (i * 2) ys).drew).cell? x = ((w.drew.alloc (.cells ROW 133)).setCells w.heap.size (i * 2) ys).cell? x := fun x => rfl
  have hF2 : ∀ x, (((w.alloc (.cells ROW 133)).drew.setCells w.heap.size (i * 2) ys).drew).frozen? x = ((w.drew.alloc (.cells ROW 133)).setCells w.heap.size (i * 2) ys).frozen? x := fun x => rfl
  have hG9 : G ≤ 9223372036854775807 := by unfold maxLen at hG63; exact hG63
  have hz1 : ¬ ((1 : Int) = 0) := by omega
  have hz2 : ¬ ((i : Int) = (c : Int)) := by omega
  have hz3 : (c : Int) < (c : Int) + 1 := by omega
  have hw0 : IntKind.i64.wrap ((c : Int) + 1) = (c : Int) + 1 := by rw [IntKind.wrap_i64]; omega
  have hw2 : IntKind.i64.wrap ((c : Int) + 1 - (i : Int)) = (c : Int) + 1 - (i : Int) := by rw [IntKind.wrap_i64]; omega
  have hw1 : IntKind.i64.wrap ((i : Int) + 1) = (i : Int) + 1 := by rw [IntKind.wrap_i64]; omega
  have hb1 : (0 : Int) ≤ (i : Int) + 1 := by omega
  have hin : i ≤ c := by omega
  have htn : ((i : Int) + 1).toNat = i + 1 := by omega
  have hb3 : (i : Int) ≤ (c : Int) := by omega
  have hGi : ¬ (G = i) := by omega
  have hGim : ¬ (G = i + 1) := by omega
  have hci : ¬ (c = i) := by omega
  clear hkk hik hold hROW hG hRl hRL hr hf hrN hrN2 hOg hOv hdl hT hown hxl h1x h1y hys hsz hi0 hz0 hzl
  go_enter Try.func94, Try.ntmps94
  go_wp2_with (first
    | (at_builtin; refine Lib.wpList_append_run _ rfl _ _ _ _ rfl _ _ rfl rfl _ _ (hrz _) ?_)
    | (at_builtin; refine wpList_copy_runI _ rfl _ _ 129 129 rfl _ _ rfl rfl (hcpA _ hE1 hE2 _ _) ?_))
  go_region_law_o (refine step_copy_runI rfl _ _ 129 129 rfl (.slice (some ⟨w.heap.size, (i + 1) * 2, none⟩) (c - i) (G - (i + 1))) (.slice (some ⟨g, i * 2, none⟩) (c - i) (c - i)) (by simp [Act.eval, Act.put]) (by simp [Act.eval, Act.put]) (hcpB _ hF1 hF2 3 (G - (i + 1)) (c - i)) ?_)
  go_wp2
  go_ret
  exact HFIN.out
theorem insF (w : World) (base n i vb : Nat) (v : Value) (xs ys : List Value) (hown : w.ownsRow base 133 2 v n xs) (hi : i ≤ n) (hn : n ≤ 1000000) (h1x : ∀ u ∈ xs, u.oneCell' = true) (hy : ys.length = 2) (h1y : ∀ u ∈ ys, u.oneCell' = true)
    (hvb : w.heap[vb]? = some (.cells ys.toArray 133 (0, 0))) (hne : v.ownBlock ≠ some vb) (hbase : base ≤ w.heap.size) :
    Calls Try.prog 94 #[v, .int .i64 (i : Int), .slice (some ⟨vb, 0, none⟩) 1 1] w (InsPostF w base v n (xs.take (i * 2) ++ ys ++ xs.drop (i * 2))) := by
  have hys : ∀ j u, ys[j]? = some u → w.cell? ⟨vb, j, none⟩ = some u := fun j u hj => by simp [World.cell?, hvb, hj]
  have hxl := hown.1
  rcases Nat.lt_or_ge i n with h | h
  · obtain ⟨g, c, rfl, hnc⟩ : ∃ g c, v = .slice (some ⟨g, 0, none⟩) n c ∧ n ≤ c := by
      rcases hown.2 with h | ⟨g, cap, cur, h1, _, _, h2, h3, _⟩
      · omega
      · exact ⟨g, cap, h1, h2⟩
    by_cases hr : n + 1 ≤ c
    · exact insShiftF w base n i vb g c xs ys hown h hr h1x hy h1y hys (fun e => hne (by rw [e]; rfl)) 133 ys.length (by simp [World.shape?, hvb]) (fun k => by simp [World.frozen?, hvb])
    · exact insGrowF w base n i vb g c xs ys hown h hn (by omega) h1x hy h1y hys (Array.getElem?_eq_some_iff.1 hvb).1 hbase
  · obtain rfl : i = n := by omega
    rw [List.take_of_length_le (by omega), List.drop_eq_nil_of_le (by omega), List.append_nil]
    exact insEndF w base i vb v xs ys hown hn hbase hy h1y hys
end Go.Proofs.Ytoifmfdaghmleaa
