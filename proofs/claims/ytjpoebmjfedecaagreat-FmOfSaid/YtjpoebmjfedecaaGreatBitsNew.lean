/-
  The contracts of package bits that make memory: empty, count, New.
-/
import Derived.Test.YtjpoebmjfedecaaGreatBitsWalk
namespace Go.Proofs.YtjpoebmjfedecaaGreat.Wv
open Go.RowKit

theorem info_u64 : (Tryz.prog.info? 145).map (fun i => (i.zero, i.size, i.bytes)) = some (some (.int .u64 0), 1, 8) := by kernel_rfl
theorem info_int : (Tryz.prog.info? 3).map (fun i => (i.zero, i.size, i.bytes)) = some (some (.int .i64 0), 1, 8) := by kernel_rfl

theorem info_bool : (Tryz.prog.info? 4).map (fun i => (i.zero, i.size, i.bytes)) = some (some (.bool false), 1, 1) := by kernel_rfl

theorem make_u64 (N : Nat) (h : N ≤ 1000000) : ∀ W : World, (Instr.makeSlice 146 (.int .i64 (N : Int)) (.int .i64 (N : Int))).run Tryz.prog W = .ok (.slice (some ⟨W.heap.size, 0, none⟩) N N) (W.alloc (.cells (madeCells #[.int .u64 0] N) 145)) := by
  intro W
  obtain ⟨i0, hi, hz0, hz1, hz2⟩ := info_parts info_u64
  have := run_make (P := Tryz.prog) W 146 145 i0 _ Tryz.underlying146 hi hz0 .i64 .i64 N N (by omega) (by omega) (by rw [hz2]; omega) (by omega)
  rw [hz1] at this
  simpa [Value.cells] using this
theorem make_int (N : Nat) (h : N ≤ 1000000) : ∀ W : World, (Instr.makeSlice 51 (.int .i64 (N : Int)) (.int .i64 (N : Int))).run Tryz.prog W = .ok (.slice (some ⟨W.heap.size, 0, none⟩) N N) (W.alloc (.cells (madeCells #[.int .i64 0] N) 3)) := by
  intro W
  obtain ⟨i0, hi, hz0, hz1, hz2⟩ := info_parts info_int
  have := run_make (P := Tryz.prog) W 51 3 i0 _ Tryz.underlying51 hi hz0 .i64 .i64 N N (by omega) (by omega) (by rw [hz2]; omega) (by omega)
  rw [hz1] at this
  simpa [Value.cells] using this

/-- what empty leaves: a box of three cells, a row of words, a row of counts, all noughts, all new -/
structure EmptyAt (w w' : World) (bv bw ba n : Nat) : Prop where
  bel : Below w.heap.size w w'
  cv : w'.rowIs bv 148 3 (fun k => if k = 0 then .int .i64 n else if k = 1 then .slice (some ⟨bw, 0, none⟩) (nw n) (nw n) else .slice (some ⟨ba, 0, none⟩) (nw n + 1) (nw n + 1))
  cw : w'.rowIs bw 145 (nw n) (fun _ => .int .u64 0)
  ca : w'.rowIs ba 3 (nw n + 1) (fun _ => .int .i64 0)
  gv : w.heap.size ≤ bv
  gw : w.heap.size ≤ bw
  ga : w.heap.size ≤ ba
  nvw : bv ≠ bw
  nva : bv ≠ ba
  nwa : bw ≠ ba

theorem vec_cells (n : Nat) (x y : Value) : ∀ i, i < (#[Value.int .i64 n, x, y] : Array Value).size → (#[Value.int .i64 n, x, y] : Array Value)[i]? = some (if i = 0 then .int .i64 n else if i = 1 then x else y) := by
  intro i hi
  match i, hi with
  | 0, _ => rfl
  | 1, _ => rfl
  | 2, _ => rfl

theorem empty_one (w : World) (n : Nat) :
    EmptyAt w (((w.alloc (Obj.cells (madeCells #[Value.int IntKind.u64 0] (nw n)) 145)).alloc (Obj.cells (madeCells #[Value.int IntKind.i64 0] (nw n + 1)) 3)).alloc
        (Obj.cells #[Value.int IntKind.i64 ↑n, Value.slice (some { block := w.heap.size, off := 0 }) (nw n) (nw n), Value.slice (some { block := w.heap.size + 1, off := 0 }) (nw n + 1) (nw n + 1)] 148)).drew
      (w.heap.size + 1 + 1) w.heap.size (w.heap.size + 1) n := by
  have r1 := World.rowIs_made w (.int .u64 0) (nw n) 145
  have r2 := World.rowIs_made (w.alloc (Obj.cells (madeCells #[Value.int IntKind.u64 0] (nw n)) 145)) (.int .i64 0) (nw n + 1) 3
  have r3 := World.rowIs_alloc ((w.alloc (Obj.cells (madeCells #[Value.int IntKind.u64 0] (nw n)) 145)).alloc (Obj.cells (madeCells #[Value.int IntKind.i64 0] (nw n + 1)) 3)) #[Value.int IntKind.i64 ↑n, Value.slice (some { block := w.heap.size, off := 0 }) (nw n) (nw n), Value.slice (some { block := w.heap.size + 1, off := 0 }) (nw n + 1) (nw n + 1)] 148 _ (vec_cells n _ _)
  simp only [World.size_alloc] at r2 r3
  exact ⟨((((Below.refl _ w).alloc (Nat.le_refl _) _).alloc (by simp) _).alloc (by simp; omega) _).drew, r3.drew, ((r1.alloc _).alloc _).drew, (r2.alloc _).drew, by omega, by omega, by omega, by omega, by omega, by omega⟩

theorem empty_two (w : World) (n : Nat) :
    EmptyAt w (((w.alloc (Obj.cells (madeCells #[Value.int IntKind.i64 0] (nw n + 1)) 3)).alloc (Obj.cells (madeCells #[Value.int IntKind.u64 0] (nw n)) 145)).alloc
        (Obj.cells #[Value.int IntKind.i64 ↑n, Value.slice (some { block := w.heap.size + 1, off := 0 }) (nw n) (nw n), Value.slice (some { block := w.heap.size, off := 0 }) (nw n + 1) (nw n + 1)] 148)).drew
      (w.heap.size + 1 + 1) (w.heap.size + 1) w.heap.size n := by
  have r1 := World.rowIs_made w (.int .i64 0) (nw n + 1) 3
  have r2 := World.rowIs_made (w.alloc (Obj.cells (madeCells #[Value.int IntKind.i64 0] (nw n + 1)) 3)) (.int .u64 0) (nw n) 145
  have r3 := World.rowIs_alloc ((w.alloc (Obj.cells (madeCells #[Value.int IntKind.i64 0] (nw n + 1)) 3)).alloc (Obj.cells (madeCells #[Value.int IntKind.u64 0] (nw n)) 145)) #[Value.int IntKind.i64 ↑n, Value.slice (some { block := w.heap.size + 1, off := 0 }) (nw n) (nw n), Value.slice (some { block := w.heap.size, off := 0 }) (nw n + 1) (nw n + 1)] 148 _ (vec_cells n _ _)
  simp only [World.size_alloc] at r2 r3
  exact ⟨((((Below.refl _ w).alloc (Nat.le_refl _) _).alloc (by simp) _).alloc (by simp; omega) _).drew, r3.drew, (r2.alloc _).drew, ((r1.alloc _).alloc _).drew, by omega, by omega, by omega, by omega, by omega, by omega⟩

set_option maxRecDepth 100000 in
set_option maxHeartbeats 400000 in
theorem empty_any (n : Nat) (w : World) (hn : n ≤ 100000) :
    Calls Tryz.prog 82 #[.int .i64 n] w fun e w' => ∃ bv bw ba, e = .returned (.pointer (some ⟨bv, 0, none⟩)) ∧ EmptyAt w w' bv bw ba n := by
  have e1 : ((n : Int) + 64 - 1) / 64 = (nw n : Nat) := by unfold nw; omega
  have hN : nw n ≤ 100000 := by unfold nw; omega
  have m1 := make_u64 (nw n) (by omega)
  have m2 := make_int (nw n + 1) (by omega)
  have ec : ((nw n + 1 : Nat) : Int) = (nw n : Int) + 1 := by omega
  rw [ec] at m2
  clear ec
  have e2 : IntKind.i64.wrap ((nw n : Int) + 1) = (nw n : Int) + 1 := IntWalk.i64_in _ (by omega)
  go_enter Tryz.func82, Tryz.ntmps82
  go_wp2
  go_region
  · go_wp2
    go_ret
    exact ⟨_, _, _, rfl, empty_one w n⟩
  · go_wp2
    go_ret
    exact ⟨_, _, _, rfl, empty_two w n⟩
set_option maxRecDepth 100000 in
set_option maxHeartbeats 400000 in
theorem count_any (w : World) (bv bw ba n : Nat) (p : Nat → Bool) (V : Nat → Value) (hn : n ≤ 100000) (hv : w.rowIs bv 148 3 V)
    (h1 : V 1 = .slice (some ⟨bw, 0, none⟩) (nw n) (nw n)) (h2 : V 2 = .slice (some ⟨ba, 0, none⟩) (nw n + 1) (nw n + 1))
    (hw : w.rowIs bw 145 (nw n) (fun k => .int .u64 (wd p k))) (ha : w.rowIs ba 3 (nw n + 1) (fun _ => .int .i64 0)) (nva : bv ≠ ba) (nwa : bw ≠ ba) :
    Calls Tryz.prog 83 #[.pointer (some ⟨bv, 0, none⟩)] w fun e w' => e = .returned (.tuple #[]) ∧ w.grownBy w' (some ba) ∧ w'.rowIs ba 3 (nw n + 1) (fun k => .int .i64 (cnt p (64 * k))) := by
  have hN : nw n ≤ 100000 := by unfold nw; omega
  have c1 := hv.cell (i := 1) (by omega)
  have c2 := hv.cell (i := 2) (by omega)
  rw [h1] at c1
  rw [h2] at c2
  generalize nw n = N at *
  clear h1 h2 hn
  go_enter Tryz.func83, Tryz.ntmps83
  go_wp2
  go_loopw [9] (fun i wr => ∃ k : Nat, k ≤ N ∧ i = .int .i64 k ∧ w.grownBy wr (some ba) ∧ wr.rowIs ba 3 (N + 1) (fun j => if j ≤ k then .int .i64 (cnt p (64 * j)) else .int .i64 0)) (fun i _ => N - (intOf i).toNat)
  case atStart =>
    refine ⟨0, Nat.zero_le _, rfl, ⟨rfl, rfl, rfl, Nat.le_refl _, fun _ _ _ => rfl⟩, ha.congr fun j hj => ?_⟩
    by_cases e : j ≤ 0
    · obtain rfl : j = 0 := by omega
      simp [cnt_zero]
    · simp [e]
  case round =>
    obtain ⟨k, hk, rfl, hg, hr⟩ := hrel
    by_cases hlt : k < N
    · have d1 : wr.cell? ⟨bv, 2, none⟩ = some (.slice (some ⟨ba, 0, none⟩) (N + 1) (N + 1)) := hg.cell c2 (by simpa using nva)
      have d2 : wr.cell? ⟨bw, k, none⟩ = some (.int .u64 (wd p k)) := hg.cell (hw.cell hlt) (by simpa using nwa)
      have d3 := hr.cell (i := k) (by omega)
      have d4 := hr.cell (i := k + 1) (by omega)
      have d5 := hr.frozen (k + 1)
      simp only [Nat.le_refl, if_true, show ¬ k + 1 ≤ k by omega, if_false] at d3 d4
      have q1 : (k : Int) < (N : Int) + 1 := by omega
      have q2 : (0 : Int) ≤ (k : Int) + 1 := by omega
      have q3 : ((k : Int) + 1).toNat = k + 1 := by omega
      have hcw := cnt_word p k
      have hset := hr.set (k + 1) (.int .i64 (cnt p (64 * (k + 1))))
      have hx := wd_lt p k
      have hcl := cnt_le p (64 * (k + 1))
      have e0 : IntKind.i64.wrap ((k : Int) + 1) = (k : Int) + 1 := IntWalk.i64_in _ (by omega)
      have e1 : IntKind.i64.wrap (((cnt p (64 * k) : Nat) : Int) + ((pc 64 (wd p k) : Nat) : Int)) = ((cnt p (64 * (k + 1)) : Nat) : Int) := by rw [hcw]; exact IntWalk.i64_in _ (by omega)
      have HE := fun W : World => Lib.hid (ones64_any (wd p k : Int) W (by omega) (by omega))
      have HS := Lib.hid hset
      have HR := Lib.hid hr
      have HG := Lib.hid hg
      generalize wd p k = x at *
      generalize hy : cnt p (64 * (k + 1)) = y at *
      have HY := Lib.hid hy
      clear hy
      clear hcw hset hr hg hcl hx
      go_wp2
      refine wp_region_still_tail 17 (by kernel_rfl) (by kernel_rfl) ?_
      simp only [List.take_succ_cons, List.take_zero, List.drop_succ_cons, List.drop_zero]
      repeat still_step
      still_call (HE _).out
      rw [Int.toNat_natCast]
      repeat still_step
      refine wpStill_nil ?_
      change wpList _ _ _ _ _ wr.drew
      go_wp2
      go_roundw
      case rel =>
        refine ⟨k + 1, by omega, rfl, ?_, ?_⟩
        · exact gb_drew (gb_set HG.out _ _)
        · refine (HS.out.drew).congr fun j hj => ?_
          by_cases ej : j = k + 1
          · subst ej; simp [HY.out]
          · simp only [ej, if_false]
            by_cases ek : j ≤ k
            · simp [ek, show j ≤ k + 1 by omega]
            · simp [ek, show ¬ j ≤ k + 1 by omega]
      case measure => simp [intOf]; omega
    · have hk' : k = N := by omega
      have HK := Lib.hid hk'
      clear hk'
      have HR := Lib.hid hr
      have HG := Lib.hid hg
      clear hr hg
      go_wp2
      go_end0
      refine ⟨rfl, HG.out, HR.out.congr fun j hj => ?_⟩
      rw [if_pos (by have := HK.out; omega)]
theorem or_wd (x m : Nat) (hx : x < 18446744073709551616) (hm : m < 64) : bits .or .u64 (x : Int) (IntKind.u64.wrap (2 ^ m)) = ((x ||| 2 ^ m : Nat) : Int) := by
  have h1 : 2 ^ m ≤ 2 ^ 63 := Nat.pow_le_pow_right (by omega) (by omega)
  have h2 : 0 < 2 ^ m := Nat.two_pow_pos m
  have e : ((2 : Int) ^ m) = ((2 ^ m : Nat) : Int) := by simp
  rw [e, IntWalk.u64_in ((2 ^ m : Nat) : Int) (by omega)]
  exact u64_or_nat x (2 ^ m) hx (by omega)

theorem size_bool (w : World) : (sizeOf (Tryz.prog.elem 132)).run Tryz.prog w = .ok 1 w := by kernel_rfl

set_option maxRecDepth 100000 in
set_option maxHeartbeats 400000 in
theorem new_low (w : World) (a : Option Addr) (n cap : Nat) (p : Nat → Bool) (hn : n ≤ 100000) (hr : Row w a n (fun k => .bool (p k))) :
    Calls Tryz.prog 72 #[.slice a n cap] w fun e w' => ∃ bv bw ba, e = .returned (.tuple #[.pointer (some ⟨bv, 0, none⟩), .int .i64 0]) ∧ VecAt w' bv bw ba n (cut n p) ∧ Below w.heap.size w w' ∧ w.heap.size ≤ bv ∧ w.heap.size ≤ bw ∧ w.heap.size ≤ ba := by
  have hix := run_ix (P := Tryz.prog) 132 (by kernel_rfl) size_bool a n cap hr.at_ .i64
  have HR := Lib.hid hr
  have h1 : ¬ (100000 < n) := by omega
  have HE := Lib.hid (empty_any n w hn)
  have hl : 0 < n → bOf a < w.heap.size := hr.lt
  clear hr
  go_enter Tryz.func72, Tryz.ntmps72
  go_wp2_with (go_at_call 82; refine HE.out.mono ?_; rintro e w1 ⟨bv, bw, ba, rfl, he⟩)
  obtain ⟨bel, cv, cw, ca, gv, gw, ga, nvw, nva, nwa⟩ := he
  have hN : nw n ≤ 100000 := by unfold nw; omega
  have hN2 : n ≤ 64 * nw n := by unfold nw; omega
  have HB := Lib.hid bel
  have HCV := Lib.hid cv
  have HCW := Lib.hid cw
  have HCA := Lib.hid ca
  have hs1 := bel.size
  clear bel cv cw ca HE
  go_loopw [15] (fun i wr => ∃ k : Nat, k ≤ n ∧ i = .int .i64 k ∧ w1.grownBy wr (some bw) ∧ wr.rowIs bw 145 (nw n) (fun j => .int .u64 (wd (cut k p) j))) (fun i _ => n - (intOf i).toNat)
  case atStart => exact ⟨0, Nat.zero_le _, rfl, gb_refl _ _, HCW.out.congr fun j _ => by simp [wd_cut_zero]⟩
  case round =>
    obtain ⟨k, hk, rfl, hg, hw⟩ := hrel
    by_cases hlt : k < n
    · have d0 : wr.cell? ⟨bOf a, oOf a + k, none⟩ = some (.bool (p k)) := hg.cell (((HB.out.cell (p := ⟨bOf a, oOf a + k, none⟩) (hl (by omega))).trans (HR.out.cell k hlt))) (by have := hl (by omega); simp; omega)
      cases hp : p k
      · have hnx : wr.rowIs bw 145 (nw n) (fun j => .int .u64 (wd (cut (k + 1) p) j)) := hw.congr fun j _ => by rw [wd_cut_succ_false k p hp]
        have HW := Lib.hid hnx
        have HG := Lib.hid hg
        clear hw hg hnx
        rw [hp] at d0
        clear hp
        go_wp2
        go_roundw
        case rel => exact ⟨k + 1, by omega, rfl, HG.out, HW.out⟩
        case measure => simp [intOf]; omega
      · obtain ⟨q, m, hc, hm⟩ : ∃ q m, k = 64 * q + m ∧ m < 64 := ⟨k / 64, k % 64, by omega, by omega⟩
        have hnx := hw.set q (.int .u64 ((wd (cut k p) q ||| 2 ^ m : Nat) : Int))
        have hnx2 : (wr.setCell ⟨bw, q, none⟩ (.int .u64 ((wd (cut k p) q ||| 2 ^ m : Nat) : Int))).rowIs bw 145 (nw n) (fun j => .int .u64 (wd (cut (k + 1) p) j)) := hnx.congr fun j _ => by
          rw [wd_cut_succ_true k p hp q m hc hm j]
          split <;> rfl
        have d1 : wr.cell? ⟨bv, 1, none⟩ = some (.slice (some ⟨bw, 0, none⟩) (nw n) (nw n)) := hg.cell (HCV.out.cell (i := 1) (by omega)) (by simpa using nvw)
        have d2 := hw.cell (i := q) (by omega)
        have d3 := hw.frozen q
        have e1 : (k:Int).tdiv 64 = q := by rw [Int.tdiv_eq_ediv_of_nonneg (by omega)]; omega
        have e2 : (k:Int).tmod 64 = m := by rw [Int.tmod_eq_emod_of_nonneg (by omega)]; omega
        have e3 : (k:Int) / 64 = q := by omega
        have e4 : (k:Int) % 64 = m := by omega
        have e5 : IntKind.i64.wrap (q:Int) = q := IntWalk.i64_in _ (by omega)
        have e6 := or_wd (wd (cut k p) q) m (wd_lt _ _) hm
        have q1 : q < nw n := by omega
        have HW := Lib.hid hnx2
        have HG := Lib.hid hg
        clear hnx hnx2 hw hg
        rw [hp] at d0
        clear hp hc
        generalize wd (cut k p) q ||| 2 ^ m = y at *
        generalize wd (cut k p) q = x at *
        go_wp2
        go_region
        go_wp2
        go_roundw
        case rel => exact ⟨k + 1, by omega, rfl, gb_drew (gb_set HG.out _ _), HW.out.drew⟩
        case measure => simp [intOf]; omega
    · obtain rfl : k = n := by omega
      have HC := Lib.hid (count_any wr bv bw ba k (cut k p) _ hn (row_gb HCV.out hg (by simpa using nvw)) rfl rfl hw (row_gb HCA.out hg (by simpa using Ne.symm nwa)) nva nwa)
      have HG := Lib.hid hg
      have HW := Lib.hid hw
      clear hg hw
      go_wp2_with (go_at_call 83; refine HC.out.mono ?_; rintro e w2 ⟨rfl, hg2, ha2⟩)
      go_ret2
      have hv2 := row_gb (row_gb HCV.out HG.out (by simpa using nvw)) hg2 (by simpa using nva)
      have hw2 := row_gb HW.out hg2 (by simpa using nwa)
      refine ⟨bv, bw, ba, rfl, ⟨hv2.cell (i := 0) (by omega), hv2.cell (i := 1) (by omega), hv2.cell (i := 2) (by omega), fun j hj => hw2.cell hj, fun j hj => ha2.cell hj, hw2.lt, fun j hj => by simp [cut, show ¬ j < k by omega], hn⟩, ?_⟩
      exact ⟨below_gb (below_gb HB.out HG.out hs1 gw) hg2 (Nat.le_trans hs1 HG.out.size) ga, gv, gw, ga⟩

theorem new_any (w : World) (a : Option Addr) (n cap : Nat) (p : Nat → Bool) (hn : n ≤ 100000) (hr : Row w a n (fun k => .bool (p k))) :
    Calls Tryz.prog 72 #[.slice a n cap] w fun e w' => ∃ bv bw ba, e = .returned (.tuple #[.pointer (some ⟨bv, 0, none⟩), .int .i64 0]) ∧ VecAt w' bv bw ba n (cut n p) ∧ Below w.heap.size w w' :=
  (new_low w a n cap p hn hr).mono fun _ _ ⟨bv, bw, ba, he, hv, hb, _⟩ => ⟨bv, bw, ba, he, hv, hb⟩
end Go.Proofs.YtjpoebmjfedecaaGreat.Wv
