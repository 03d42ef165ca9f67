/-
  What the statements' helper gathers of a walk: rows, and the bytes they are come by.
-/
import Derived.Test.YtckmabdphdcpmaaBackIter
import Derived.Sort.BigQuietIn
namespace Go.Proofs.Ytckmabdphdcpmaa
open Go.RowKit Go.Shelf
attribute [local go_sem] Oper.semAt_some

/-- the walk of a row, or of none -/
def WkOf (L : List Nat) (i : Int) (ys : List (Nat × Fin 256)) : Prop :=
  (∃ r M : Nat, i = (r : Int) ∧ r < L.length ∧ EndsL L r M ∧ M < L.length ∧ ys = wkTo L r M) ∨ ((i < 0 ∨ (L.length : Int) ≤ i) ∧ ys = [])
theorem WkOf.len {L : List Nat} {i : Int} {ys : List (Nat × Fin 256)} (h : WkOf L i ys) : ys.length ≤ L.length := by
  rcases h with ⟨r, M, _, _, _, hM, rfl⟩ | ⟨_, rfl⟩
  · rw [wkTo_len]; omega
  · exact Nat.zero_le _
theorem walk_stops (n : Nat) (hn : 1 ≤ n) (B1 B2 n₀ : Nat) (x : Nat → Prop) (w0 : World) (bx bm : Nat) (al : Option Addr) (cap : Nat) (L : List Nat) (hI : IdxAt w0 bx bm al cap L) (hx : ∀ b, x b → w0.heap.size ≤ b) (hn0 : w0.heap.size ≤ n₀)
    (i : Int) (ys : List (Nat × Fin 256)) (hw : WkOf L i ys) (w : World) (hk0 : Keeps w0 w) (hs : w0.heap.size ≤ w.heap.size) (h1 : w.cell? ⟨B1, 0, none⟩ = some (.int .i64 i)) (h2 : w.cell? ⟨B2, 0, none⟩ = some (.pointer (some ⟨bx, 0, none⟩))) (hb1 : B1 < w.heap.size) (hb2 : B2 < w.heap.size) (g2 : B2 < n₀ ∧ ¬ x B2) :
    SeqStopsK Fence.wide n Try.prog 52 #[.pointer (some ⟨B1, 0, none⟩), .pointer (some ⟨B2, 0, none⟩)] bwV (KpX n₀ x) (fun zs => zs = ys) (fun pre => pre <+: ys) ys.length w := by
  intro l J Jx W hW hA _ hY h0
  have hk : Keeps w0 W := fun b hb => (hW.block b (by omega)).trans (hk0 b hb)
  have c1 := (hW.cell (p := ⟨B1, 0, none⟩) hb1).trans h1
  have c2 := (hW.cell (p := ⟨B2, 0, none⟩) hb2).trans h2
  rcases hw with ⟨r, M, hi, hr, hE, hM, hy⟩ | ⟨h, hy⟩
  · subst hi
    subst hy
    rw [wkTo_len] at hY
    exact walk1_in n hn l B1 B2 n₀ x w0 bx bm al cap L hI hx hn0 r M _ hr hE hM J Jx hA hY W c1 c2 hk h0 g2
  · subst hy
    exact walk1_out n hn l B1 B2 w0 bx bm al cap L hI i h _ J Jx hA W c1 c2 hk h0
theorem nilf3 (A : Array Value) (W : World) : (binOp .eql 66 (.func (.func 52) #[] A) .nilFunc).run Try.prog W = .ok (.bool false) W := by kernel_rfl
def rowsW (l : List (Nat × Fin 256)) : List Value := l.map fun y => Value.int .i64 ((y.1 : Nat) : Int)
def bytsW (l : List (Nat × Fin 256)) : List Nat := l.map fun y => y.2.val
theorem rowsW_snoc (l : List (Nat × Fin 256)) (y : Nat × Fin 256) : rowsW (l ++ [y]) = rowsW l ++ [Value.int .i64 ((y.1 : Nat) : Int)] := by simp [rowsW]
theorem bytsW_snoc (l : List (Nat × Fin 256)) (y : Nat × Fin 256) : byteVs (bytsW (l ++ [y])) = byteVs (bytsW l) ++ [Value.int .u8 ((y.2.val : Nat) : Int)] := by simp [bytsW, byteVs]
theorem bytsW_len (l : List (Nat × Fin 256)) : (bytsW l).length = l.length := by simp [bytsW]
theorem other_row {W w1 : World} {r0 B k k1 : Nat} {e1 e2 : TypeId} (hne : e1 ≠ e2) {u v v' : Value} {xs ys : List Value} {tmp : Obj} (hu : W.ownsRow r0 e2 1 u k ys) (hv : W.ownsRow r0 e1 1 v k1 xs)
    (hgrow : (W.alloc tmp).grownBy w1 v.ownBlock) (hB : B < r0) : (w1.setCell ⟨B, 0, none⟩ v').ownsRow r0 e2 1 u k ys := by
  have hlt := hu.lt
  have h1 : w1.ownsRow r0 e2 1 u k ys := by
    refine (hu.alloc tmp).kept hgrow ?_
    rcases hu.2 with ⟨rfl, _⟩ | ⟨g, cap, cur, rfl, _, hg, _⟩
    · exact .inl rfl
    · refine .inr fun e => ?_
      rcases hv.2 with ⟨rfl, _⟩ | ⟨g', cap', cur', rfl, _, hg', _⟩
      · simp [Value.ownBlock] at e
      · obtain rfl : g = g' := by simpa [Value.ownBlock] using e
        rw [hg] at hg'
        injection hg' with hg'
        injection hg' with _ h2 _
        exact hne h2.symm
  exact h1.kept (grownBy_setCell' w1 B v') (.inr (fun h => by have := (hlt B h).1; omega))
theorem cell_one_new' {w : World} {k : Nat} (h : w.heap.size = k) (x : Value) (t : TypeId) : ∀ j u, [x][j]? = some u → (w.alloc (.cells #[x] t)).cell? ((⟨k, 0, none⟩ : Addr).add j) = some u := by
  subst h; exact cell_one_new w x t
def WalkPost (w : World) (ys : List (Nat × Fin 256)) (most : Nat) (e : Ending) (w' : World) : Prop :=
  ∃ v m, e = .returned (.tuple #[v, .string (sB (bytsW (ys.take m)))]) ∧ m = min most ys.length ∧ w'.ownsRow w.heap.size 3 1 v m (rowsW (ys.take m)) ∧ Below w.heap.size w w'
set_option maxRecDepth 100000 in
set_option maxHeartbeats 2000000 in
theorem lwalk_any (w : World) (bx bm : Nat) (al : Option Addr) (cap : Nat) (L : List Nat) (hI : IdxAt w bx bm al cap L) (hL : L.length ≤ 60000) (i : Int) (ys : List (Nat × Fin 256)) (hw : WkOf L i ys) (most : Nat) (hm : most ≤ 2000000) :
    Calls Try.prog 25 #[.pointer (some ⟨bx, 0, none⟩), .int .i64 i, .int .i64 most] w (WalkPost w ys most) := by
  refine (callsIn_wide (n := 3)).1 ?_
  have hwf : ∀ f, Fence.wide.fn f = True := fun _ => rfl
  obtain ⟨i0, hi0, hz0, hz1, hz2⟩ := info_parts info_int'
  obtain ⟨i1, hi1, hy0, hy1, hy2⟩ := info_parts info_u8
  refine callsIn_of_wp_marks Try.func25 rfl trivial ?_ rfl
  simp only [Try.ntmps25, List.size_toArray, List.length_cons, List.length_nil, Nat.reduceAdd, Nat.reduceSub, Array.replicate_succ, Array.replicate_zero, List.push_toArray, List.append_toArray, List.nil_append, List.cons_append]
  have hyl := hw.len
  have hbx : bx < w.heap.size := World.block_lt_of_cell? w _ hI.c0
  have HI := Lib.hid hI
  have HW := Lib.hid hw
  clear hI hw
  have hnf := nilf3
  have BM := (((Boxed.new w 3 (.int .i64 most)).alloc (.cells #[.slice none 0 0] 50)).alloc (.cells #[.slice none 0 0] 23)).alloc (.cells #[.pointer (some ⟨bx, 0, none⟩)] 26) |>.alloc (.cells #[.int .i64 i] 3)
  have BA := ((Boxed.new (w.alloc (.cells #[.int .i64 most] 3)) 50 (.slice none 0 0)).alloc (.cells #[.slice none 0 0] 23)).alloc (.cells #[.pointer (some ⟨bx, 0, none⟩)] 26) |>.alloc (.cells #[.int .i64 i] 3)
  have BB := (Boxed.new ((w.alloc (.cells #[.int .i64 most] 3)).alloc (.cells #[.slice none 0 0] 50)) 23 (.slice none 0 0)).alloc (.cells #[.pointer (some ⟨bx, 0, none⟩)] 26) |>.alloc (.cells #[.int .i64 i] 3)
  have BX := (Boxed.new (((w.alloc (.cells #[.int .i64 most] 3)).alloc (.cells #[.slice none 0 0] 50)).alloc (.cells #[.slice none 0 0] 23)) 26 (.pointer (some ⟨bx, 0, none⟩))).alloc (.cells #[.int .i64 i] 3)
  have BI := Boxed.new ((((w.alloc (.cells #[.int .i64 most] 3)).alloc (.cells #[.slice none 0 0] 50)).alloc (.cells #[.slice none 0 0] 23)).alloc (.cells #[.pointer (some ⟨bx, 0, none⟩)] 26)) 3 (.int .i64 i)
  simp only [World.size_alloc] at BA BB BX BI
  have hB4 : Below w.heap.size w (((((w.alloc (.cells #[.int .i64 most] 3)).alloc (.cells #[.slice none 0 0] 50)).alloc (.cells #[.slice none 0 0] 23)).alloc (.cells #[.pointer (some ⟨bx, 0, none⟩)] 26)).alloc (.cells #[.int .i64 i] 3)) :=
    (((((Below.refl _ w).alloc (Nat.le_refl _) _).alloc (by simp) _).alloc (by simp; omega) _).alloc (by simp; omega) _).alloc (by simp; omega) _
  have hs4 : (((((w.alloc (.cells #[.int .i64 most] 3)).alloc (.cells #[.slice none 0 0] 50)).alloc (.cells #[.slice none 0 0] 23)).alloc (.cells #[.pointer (some ⟨bx, 0, none⟩)] 26)).alloc (.cells #[.int .i64 i] 3)).heap.size = w.heap.size + 5 := by simp
  gi_wp2_with (gi_at_call 36; refine (callsIn_wide.2 (bwalk_any _ bx i)).mono ?_; rintro e w4 ⟨rfl, rfl⟩; simp only [World.size_alloc])
  generalize (((((w.alloc (.cells #[.int .i64 most] 3)).alloc (.cells #[.slice none 0 0] 50)).alloc (.cells #[.slice none 0 0] 23)).alloc (.cells #[.pointer (some ⟨bx, 0, none⟩)] 26)).alloc (.cells #[.int .i64 i] 3)) = w4 at *
  have hs5 : w.heap.size + 5 ≤ w4.heap.size := by omega
  clear hs4
  refine wpIn_rangeFunc_ownG rfl (by omega) (gf := 52) (lb := #[.pointer (some ⟨w.heap.size + 1 + 1 + 1 + 1, 0, none⟩), .pointer (some ⟨w.heap.size + 1 + 1 + 1, 0, none⟩)]) rfl trivial (enters_of Try.func52 (by kernel_rfl) rfl)
    (walk_stops 2 (by omega) (w.heap.size + 1 + 1 + 1 + 1) (w.heap.size + 1 + 1 + 1) w4.heap.size (fun b => b = w.heap.size + 1 ∨ b = w.heap.size + 1 + 1) w bx bm al cap L HI.out (fun b h => by omega) (by omega) i ys HW.out w4 (Keeps.of_below hB4) (by omega) BI.cell BX.cell (by omega) (by omega) ⟨by omega, by omega⟩)
    kpX_t (kpX_b (by omega)) (Below.refl _ _) (fun _ => rfl)
    (fun pre W => ((∃ v, Boxed W (w.heap.size + 1) 50 v ∧ W.ownsRow w4.heap.size 3 1 v pre.length (rowsW pre) ∧ pre.length ≤ most) ∧ (∃ u, Boxed W (w.heap.size + 1 + 1) 23 u ∧ W.ownsRow w4.heap.size 5 1 u pre.length (byteVs (bytsW pre)) ∧ True)) ∧ Boxed W w.heap.size 3 (.int .i64 most) ∧ Below w.heap.size w4 W)
    (fun c pre W => ((∃ v, Boxed W (w.heap.size + 1) 50 v ∧ W.ownsRow w4.heap.size 3 1 v (pre.take most).length (rowsW (pre.take most)) ∧ (c = .exit 0 ∧ most < pre.length)) ∧ (∃ u, Boxed W (w.heap.size + 1 + 1) 23 u ∧ W.ownsRow w4.heap.size 5 1 u (pre.take most).length (byteVs (bytsW (pre.take most))) ∧ True)) ∧ Below w.heap.size w4 W)
    (OwnFrom.and (OwnFrom.and (Own.from (holdsRow_own w4.heap.size (w.heap.size + 1) 50 3 1 (fun pre : List (Nat × Fin 256) => pre.length) (fun pre => rowsW pre) (fun pre v => pre.length ≤ most)) _) (Own.from (holdsRow_own w4.heap.size (w.heap.size + 1 + 1) 23 5 1 (fun pre : List (Nat × Fin 256) => pre.length) (fun pre => byteVs (bytsW pre)) (fun _ _ => True)) _)) (OwnFrom.and (Own.from (boxed_own w.heap.size 3 (fun _ => .int .i64 most)) _) (ownFrom_below (by omega) (by omega))))
    (fun c => OwnFrom.and (OwnFrom.and (Own.from (holdsRow_own w4.heap.size (w.heap.size + 1) 50 3 1 (fun pre : List (Nat × Fin 256) => (pre.take most).length) (fun pre => rowsW (pre.take most)) (fun pre v => c = .exit 0 ∧ most < pre.length)) _) (Own.from (holdsRow_own w4.heap.size (w.heap.size + 1 + 1) 23 5 1 (fun pre : List (Nat × Fin 256) => (pre.take most).length) (fun pre => byteVs (bytsW (pre.take most))) (fun _ _ => True)) _)) (ownFrom_below (by omega) (by omega)))
    ⟨⟨⟨_, BA, World.ownsRow_nil _ _ _ _, Nat.zero_le _⟩, ⟨_, BB, by rw [show byteVs (bytsW []) = [] from byteVs_nil]; exact World.ownsRow_nil _ _ _ _, trivial⟩⟩, BM, Below.refl _ _⟩
    (fun y => { tmps := #[.pointer (some ⟨bx, 0, none⟩), .int .i64 i, .int .i64 most, undef, undef, .pointer (some ⟨w.heap.size, 0, none⟩), .slice none 0 0, .string ⟨#[]⟩, .pointer (some ⟨w.heap.size + 1, 0, none⟩), .pointer (some ⟨w.heap.size + 1 + 1, 0, none⟩), .func (.func 52) #[] #[.pointer (some ⟨w.heap.size + 1 + 1 + 1 + 1, 0, none⟩), .pointer (some ⟨w.heap.size + 1 + 1 + 1, 0, none⟩)], .int .i64 ((y.1 : Nat) : Int), .int .u8 ((y.2.val : Nat) : Int), .pointer (some ⟨bx, 0, none⟩), .int .i64 i, .func (.func 52) #[] #[.pointer (some ⟨w.heap.size + 1 + 1 + 1 + 1, 0, none⟩), .pointer (some ⟨w.heap.size + 1 + 1 + 1, 0, none⟩)], .func (.func 52) #[] #[.pointer (some ⟨w.heap.size + 1 + 1 + 1 + 1, 0, none⟩), .pointer (some ⟨w.heap.size + 1 + 1 + 1, 0, none⟩)], .bool false, .func (.func 52) #[] #[.pointer (some ⟨w.heap.size + 1 + 1 + 1 + 1, 0, none⟩), .pointer (some ⟨w.heap.size + 1 + 1 + 1, 0, none⟩)], .int .i64 ((y.1 : Nat) : Int), .int .u8 ((y.2.val : Nat) : Int), undef, undef, undef, undef, undef, undef, undef, undef, undef, undef, undef, undef, undef, undef, undef], defers := [] }) ?assign ?body ?done ?stop
  case assign =>
    intro l x W K hK
    unfold bwV
    gi_wp2
    exact hK
  case body =>
    rintro l pre x W ⟨⟨⟨v, hv, hrow, hle⟩, ⟨u, hu, hru, _⟩⟩, hM, hB⟩ hlt
    obtain ⟨x1, x2⟩ := x
    have hc := hv.cell
    have hcu := hu.cell
    have hcM := hM.cell
    have hs := hB.size
    have hlt2 : pre.length < 100000 := by omega
    obtain ⟨a', cap', rfl, _⟩ := Row.of_owns hrow
    obtain ⟨ua, uc, rfl, _⟩ := Row.of_owns hru
    have HV2 := Lib.hid hv
    have HU2 := Lib.hid hu
    have HM2 := Lib.hid hM
    have HO := Lib.hid hrow
    have HP := Lib.hid hru
    have HB2 := Lib.hid hB
    clear hv hM hrow hB hu hru
    by_cases hge : (most : Int) ≤ (pre.length : Int)
    · gi_wp2
      have e : (pre ++ [(x1, x2)]).take most = pre := by rw [List.take_append_of_le_length (by omega), List.take_of_length_le (by omega)]
      refine ⟨KeepsFrom.refl _ _, ⟨⟨_, HV2.out, ?_, rfl, by simp; omega⟩, ⟨_, HU2.out, ?_⟩⟩, HB2.out⟩
      · rw [e]; exact HO.out
      · rw [e]; exact ⟨HP.out, trivial⟩
    · gi_wp2_with (first
        | (gi_at_builtin; refine wpListIn_append_own _ rfl _ _ 50 rfl w4.heap.size 3 i0 (.int .i64 0) 1 8 Try.underlying50 hi0 hz0 hz1 hz2 rfl (by decide) _ _ _ rfl (HO.out.alloc _) ⟨W.heap.size, 0, none⟩ 1 1 [.int .i64 ((x1 : Nat) : Int)] rfl rfl (cell_one_new _ _ _) (by simp [Value.oneCell']) (by simp only [maxLen]; omega) (by omega) (by simp; omega) ?_; intro v' w1 hown' hgrow _; obtain ⟨g', cap2, rfl⟩ := ownsRow_succ hown'; obtain ⟨hv1, hv2, hr2, hk2, hb2, hb3⟩ := boxed_appended (n0 := w.heap.size) HV2.out HO.out (by omega) (by omega) (by omega) hown' hgrow; have hP2 := other_row (by decide) HP.out HO.out (v' := .slice (some ⟨g', 0, none⟩) (pre.length + 1) cap2) hgrow (show w.heap.size + 1 < w4.heap.size by omega); have hu1 : Boxed w1 (w.heap.size + 1 + 1) 23 (.slice ua pre.length uc) := (HU2.out.alloc _).kept hgrow (fun h => by have := (HO.out.lt _ h.symm).1; omega); have hcu1 := hu1.cell; have hfu1 := hu1.frozen; have hc1 := hv1.cell; have hf1 := hv1.frozen; have HR2 := Lib.hid hr2; have HK2 := Lib.hid hk2; have HBB := Lib.hid hb2; have HB3 := Lib.hid hb3; have HP2 := Lib.hid hP2; have HVB := Lib.hid hv2; clear hr2 hk2 hb2 hb3 hP2 hv2 hown' hgrow; have HU3 : Hid (Boxed (w1.setCell ⟨w.heap.size + 1, 0, none⟩ (.slice (some ⟨g', 0, none⟩) (pre.length + 1) cap2)) (w.heap.size + 1 + 1) 23 (.slice ua pre.length uc)) := (HBB.out _ (by omega) (by omega)).trans HU2.out; have HM3 : Hid (Boxed (w1.setCell ⟨w.heap.size + 1, 0, none⟩ (.slice (some ⟨g', 0, none⟩) (pre.length + 1) cap2)) w.heap.size 3 (.int .i64 most)) := (HBB.out _ (by omega) (by omega)).trans HM2.out; have HSZ1 := Lib.hid (show (w1.setCell ⟨w.heap.size + 1, 0, none⟩ (.slice (some ⟨g', 0, none⟩) (pre.length + 1) cap2)).heap.size = w1.heap.size by simp [World.setCell]); have hsW1 : w4.heap.size ≤ (w1.setCell ⟨w.heap.size + 1, 0, none⟩ (.slice (some ⟨g', 0, none⟩) (pre.length + 1) cap2)).heap.size := Nat.le_trans hs HK2.out.size; have hsW2 : w4.heap.size ≤ w1.heap.size := (by have := hsW1; rw [HSZ1.out] at this; exact this))
        | (gi_at_builtin; refine wpListIn_append_own _ rfl _ _ 23 rfl w4.heap.size 5 i1 (.int .u8 0) 1 1 Try.underlying23 hi1 hy0 hy1 hy2 rfl (by decide) _ _ _ rfl (HP2.out.alloc _) ⟨w1.heap.size, 0, none⟩ 1 1 [.int .u8 ((x2.val : Nat) : Int)] rfl rfl (cell_one_new' HSZ1.out _ _) (by simp [Value.oneCell']) (by simp only [maxLen]; omega) (by omega) (by simp; omega) ?_; intro v' w2 hown' hgrow _; obtain ⟨g2, cap3, rfl⟩ := ownsRow_succ hown'; obtain ⟨hv1, hv2, hr2, hk2, hb2, hb3⟩ := boxed_appended (n0 := w.heap.size) HU3.out HP2.out (by omega) (by omega) (by omega) hown' hgrow; have hP3 := other_row (by decide) HR2.out HP2.out (v' := .slice (some ⟨g2, 0, none⟩) (pre.length + 1) cap3) hgrow (show w.heap.size + 1 + 1 < w4.heap.size by omega); have hc1 := hv1.cell; have hf1 := hv1.frozen; have HR3 := Lib.hid hr2; have HK3 := Lib.hid hk2; have HBC := Lib.hid hb2; have HB4 := Lib.hid hb3; have HP3 := Lib.hid hP3; have HVC := Lib.hid hv2; clear hr2 hk2 hb2 hb3 hP3 hv2 hown' hgrow))
      refine ⟨(HK2.out.trans HK3.out).from _, fun b hb hx => (HBC.out b hb (fun e => hx (.inr e))).trans (HBB.out b hb (fun e => hx (.inl e))), ⟨⟨_, (HBC.out _ (by omega) (by omega)).trans HVB.out, ?_, by simp; omega⟩, ⟨_, HVC.out, ?_⟩⟩, (HBC.out _ (by omega) (by omega)).trans HM3.out, (HB2.out.trans HB3.out).trans HB4.out⟩
      · rw [rowsW_snoc, List.length_append]; exact HP3.out
      · rw [bytsW_snoc, List.length_append]; exact HR3.out
  case done =>
    rintro D zs W hD rfl ⟨⟨⟨v, hv, hrow, hle⟩, ⟨u, hu, hru, _⟩⟩, hM, hB⟩ hK
    have hc := hv.cell
    have hcu := hu.cell
    obtain ⟨a', cap', rfl, _⟩ := Row.of_owns hrow
    obtain ⟨ua, uc, rfl, _⟩ := Row.of_owns hru
    have hle' := hle
    have em : min most zs.length = zs.length := Nat.min_eq_right hle
    clear hM
    have hKq : ∀ q, (W.drewN q).heap[D]? = some (.deferred (some [])) := fun _ => hK
    have hrb : ∀ q, Row (W.drewN q) ua (bytsW zs).length (byteV (bytsW zs)) := fun q => byteVs_row (by rw [bytsW_len, (rfl : zs.length = zs.length)]; exact (owns_row (owns_drewN hru q)).1)
    have hcv : ∀ q, (convert 23 9 (.slice ua zs.length uc)).run Try.prog (W.drewN q) = .ok (.string (sB (bytsW zs))) (W.drewN q) := fun q => by
      have := conv_str (W.drewN q) ua (bytsW zs) uc (hrb q)
      rw [bytsW_len, (rfl : zs.length = zs.length)] at this
      exact this
    have hrow2 := fun q => owns_lower (ownsRow_putObj (owns_drewN hrow q) (.deferred none) (hKq q) rfl) (show w.heap.size ≤ w4.heap.size by omega)
    have hb2 : ∀ q, Below w.heap.size w ((W.drewN q).putObj D (.deferred none)) := fun q => (hB4.trans (below_drewN hB q)).trans (belowK_b (w := w) (Nat.le_refl _) (W.drewN q) D _ _ (by omega) (hKq q) rfl rfl)
    have HR2 := Lib.hid hrow2
    have HB2 := Lib.hid hb2
    have HKq := Lib.hid hKq
    have HEM := Lib.hid em
    clear hrow2 hb2 hKq hrow hru hv hu hB hK hrb em
    generalize hsb : sB (bytsW zs) = sb at *
    have HSB := Lib.hid hsb
    clear hsb
    gi_wp2
    gi_big_quiet_th (fail)
    gi_wp2
    refine ⟨by simp, .inl ⟨_, _, rfl, run_takeDeferred (HKq.out nq), ?_⟩⟩
    exact ⟨_, results_tmp2 rfl _ _ _, .slice a' zs.length cap', zs.length, by rw [List.take_length, HSB.out]; rfl, HEM.out.symm, by rw [List.take_length]; exact HR2.out nq, HB2.out nq⟩
  case stop =>
    rintro D c pre W hD hpre ⟨⟨⟨v, hv, hrow, rfl, hlt⟩, ⟨u, hu, hru, _⟩⟩, hB⟩ hK
    have hpl : pre.length ≤ ys.length := hpre.length_le
    have e : pre.take most = ys.take most := by
      obtain ⟨t, ht⟩ := hpre
      rw [← ht, List.take_append_of_le_length (by omega)]
    have el : (ys.take most).length = most := by rw [List.length_take]; omega
    rw [e, el] at hrow hru
    have hc := hv.cell
    have hcu := hu.cell
    obtain ⟨a', cap', rfl, _⟩ := Row.of_owns hrow
    obtain ⟨ua, uc, rfl, _⟩ := Row.of_owns hru
    have em : min most ys.length = most := Nat.min_eq_left (by omega)
    have HEL := Lib.hid el
    clear e el
    have hKq : ∀ q, (W.drewN q).heap[D]? = some (.deferred (some [])) := fun _ => hK
    have hrb : ∀ q, Row (W.drewN q) ua (bytsW (ys.take most)).length (byteV (bytsW (ys.take most))) := fun q => byteVs_row (by rw [bytsW_len, HEL.out]; exact (owns_row (owns_drewN hru q)).1)
    have hcv : ∀ q, (convert 23 9 (.slice ua most uc)).run Try.prog (W.drewN q) = .ok (.string (sB (bytsW (ys.take most)))) (W.drewN q) := fun q => by
      have := conv_str (W.drewN q) ua (bytsW (ys.take most)) uc (hrb q)
      rw [bytsW_len, HEL.out] at this
      exact this
    have hrow2 := fun q => owns_lower (ownsRow_putObj (owns_drewN hrow q) (.deferred none) (hKq q) rfl) (show w.heap.size ≤ w4.heap.size by omega)
    have hb2 : ∀ q, Below w.heap.size w ((W.drewN q).putObj D (.deferred none)) := fun q => (hB4.trans (below_drewN hB q)).trans (belowK_b (w := w) (Nat.le_refl _) (W.drewN q) D _ _ (by omega) (hKq q) rfl rfl)
    have HR2 := Lib.hid hrow2
    have HB2 := Lib.hid hb2
    have HKq := Lib.hid hKq
    have HEM := Lib.hid em
    clear hrow2 hb2 hKq hrow hru hv hu hB hK hrb em
    generalize hsb : sB (bytsW (ys.take most)) = sb at *
    have HSB := Lib.hid hsb
    clear hsb
    gi_wp2
    gi_big_quiet_th (fail)
    gi_wp2
    refine ⟨by simp, .inl ⟨_, _, rfl, run_takeDeferred (HKq.out nq), ?_⟩⟩
    exact ⟨_, results_tmp2 rfl _ _ _, .slice a' most cap', most, by rw [(rfl : ys.take most = ys.take most), HSB.out]; rfl, HEM.out.symm, by rw [(rfl : ys.take most = ys.take most)]; exact HR2.out nq, HB2.out nq⟩
end Go.Proofs.Ytckmabdphdcpmaa
