/-
  Remove, Rename: a name taken away, a name that leads to another one's file.
-/
import Derived.Test.YtelndbjjkhlacaaDkOk
import Derived.StillTailTactics
namespace Go.Proofs.Ytelndbjjkhlacaa
open Go.RowKit Go.Maps

def moveR (S : DSt) (t : Turn) (z : Int) (S' : DSt) : Prop := z = 0 ∧ S' = { S with names := leadD S.names t, turns := S.turns ++ [t] }
set_option maxRecDepth 100000 in
set_option maxHeartbeats 2000000 in
theorem remove1_any (B : Nat) (W : World) (bd : Nat) (S : DSt) (A : Nat → Prop) (h : DiskAv B W bd S A) (hAl : ∀ b, A b → b < W.heap.size) (hok : DOk S) (hB : B ≤ W.heap.size) (f : Nat) (s : ByteArray) (hs : s.size ≤ maxLen) (b0 : Nat) (c0 : W.cell? ⟨b0, 0, none⟩ = some (.string s)) (b1 : Nat) (ha1 : A b1) (c1 : W.cell? ⟨b1, 0, none⟩ = some (.pointer (some ⟨bd, 0, none⟩))) :
    Calls Try.prog 47 #[ptrB f, .pointer (some ⟨b0, 0, none⟩), .pointer (some ⟨b1, 0, none⟩)] W (DPost B A W bd (moveR S ⟨2, s, ⟨#[]⟩, none⟩)) := by
  have HAL := Lib.hid hAl
  clear hAl
  obtain ⟨ρ, vf, vt, bn, bl, V, hd, hav⟩ := h
  have HAV := Lib.hid hav
  have HA1 := Lib.hid (hav b1 ha1)
  have HD := Lib.hid hd
  have HOK := Lib.hid hok
  have hb0 : Below W.heap.size W (W.alloc (.cells #[.int .i64 2, .string s, .string ⟨#[]⟩, .pointer none] 66)) := (Below.refl _ W).alloc (Nat.le_refl _) _
  have hd1 := hd.below hb0
  have htl : ∀ i, i < 4 → (W.alloc (.cells #[.int .i64 2, .string s, .string ⟨#[]⟩, .pointer none] 66)).cell? ⟨W.heap.size, i, none⟩ = some (#[Value.int .i64 2, .string s, .string ⟨#[]⟩, .pointer none].getD i undef) := fun i hi => by
    refine (cell_of_row _ _ i _ _ _ (heap_alloc_new W _)).trans ?_
    match i, hi with
    | 0, _ => rfl
    | 1, _ => rfl
    | 2, _ => rfl
    | 3, _ => rfl
  have HTL := Lib.hid htl
  have c1a : (W.alloc (.cells #[.int .i64 2, .string s, .string ⟨#[]⟩, .pointer none] 66)).cell? ⟨b1, 0, none⟩ = some (.pointer (some ⟨bd, 0, none⟩)) := (hb0.cell (p := ⟨b1, 0, none⟩) (World.block_lt_of_cell? W _ c1)).trans c1
  have c7 : (W.alloc (.cells #[.int .i64 2, .string s, .string ⟨#[]⟩, .pointer none] 66)).cell? ⟨bd, 7, none⟩ = some (.map (some bn)) := hd1.head.cell (i := 7) (by omega)
  have hld := lead_any (W.alloc (.cells #[.int .i64 2, .string s, .string ⟨#[]⟩, .pointer none] 66)).drew bn S.names (hd1.names.of_block rfl) (by have := hok.small.1; simp only [maxLen]; omega) ⟨2, s, ⟨#[]⟩, none⟩ hs (by show 0 ≤ _; omega) (fun h => absurd h (show ¬ (2 : Int) = 0 by omega))
  unfold turnA pF at hld
  simp only at hld
  have HLD := Lib.hid hld
  have l1 := World.block_lt_of_cell? W _ c1
  simp only at l1
  clear hd hok hav ha1 hb0 hd1 htl hld
  skip
  go_enter Try.func47, Try.ntmps47
  go_wp2_with fail
  skip
  refine wp_region_still_tail 5 (by kernel_rfl) (by kernel_rfl) ?_
  simp only [List.take_succ_cons, List.take_zero, List.drop_succ_cons, List.drop_zero]
  change wpStill _ _ (W.alloc (.cells #[.int .i64 2, .string s, .string ⟨#[]⟩, .pointer none] 66)).drew (fun a' => wpList _ _ _ _ a' (W.alloc (.cells #[.int .i64 2, .string s, .string ⟨#[]⟩, .pointer none] 66)).drew) _ _
  repeat still_step
  refine wpStill_nil ?_
  go_upto_region 3 with (first | (go_at_call 43; refine HLD.out.mono ?_; rintro e w5 ⟨rfl, hn5, hg5⟩; have HN5 := Lib.hid hn5; have HG5 := Lib.hid hg5; clear hn5 hg5) | fail)
  have hbW : Below W.heap.size W (W.alloc (.cells #[.int .i64 2, .string s, .string ⟨#[]⟩, .pointer none] 66)).drew := ((Below.refl _ W).alloc (Nat.le_refl _) _).drew
  have hsW : (W.alloc (.cells #[.int .i64 2, .string s, .string ⟨#[]⟩, .pointer none] 66)).drew.heap.size = W.heap.size + 1 := by show (W.alloc _).heap.size = _; simp
  have kn : KeepX (fun b => b ≠ bn) (W.alloc (.cells #[.int .i64 2, .string s, .string ⟨#[]⟩, .pointer none] 66)).drew w5 := KeepX.gb HG5.out (fun r e h => by cases e; exact h rfl)
  have hd5 := (HD.out.below hbW).setNames kn HN5.out
  have hou5 : Out ρ ρ W w5 := (Out.below hbW).trans (Out.same kn fun b h e => by rw [e, HD.out.rn] at h; cases h)
  have hbnl := HD.out.names.lt
  have hB5 : Below B W w5 := (hbW.mono hB).grown HG5.out (by omega) (fun k e => by cases e; exact (HD.out.base bn (by rw [HD.out.rn]; simp)).1)
  have tb : w5.heap[W.heap.size]? = (W.alloc (.cells #[.int .i64 2, .string s, .string ⟨#[]⟩, .pointer none] 66)).heap[W.heap.size]? := kn.block W.heap.size (by omega) (by omega)
  have tb0 := (World.cell?_of_block (a := ⟨W.heap.size, 0, none⟩) tb).trans (HTL.out 0 (by omega))
  have tb1 := (World.cell?_of_block (a := ⟨W.heap.size, 1, none⟩) tb).trans (HTL.out 1 (by omega))
  have tb2 := (World.cell?_of_block (a := ⟨W.heap.size, 2, none⟩) tb).trans (HTL.out 2 (by omega))
  have tb3 := (World.cell?_of_block (a := ⟨W.heap.size, 3, none⟩) tb).trans (HTL.out 3 (by omega))
  have hs5 := kn.size
  have nb1 : b1 ≠ bn := fun e => by have := HA1.out; rw [e, HD.out.rn] at this; cases this
  have q1 : w5.cell? ⟨b1, 0, none⟩ = some (.pointer (some ⟨bd, 0, none⟩)) := (World.cell?_of_block (a := ⟨b1, 0, none⟩) (kn.block b1 (by omega) nb1)).trans c1a
  obtain ⟨at', ct, hvt⟩ := owns_slice HD.out.turns
  subst hvt
  have hd6 := hd5.below ((Below.refl _ w5).drew)
  have hz5 : (w5.drew).heap.size = w5.heap.size := rfl
  obtain ⟨a6, cap6, w6, hrun, hh6, ⟨ρ6, hd7, ho7⟩, hb7, hk7⟩ := hd6.turn_append HOK.out.many.2 (by rw [hz5]; omega) ⟨2, s, ⟨#[]⟩, none⟩
  have y9 : w5.cell? ⟨bd, 9, none⟩ = some (.slice at' S.turns.length ct) := hd5.head.cell (i := 9) (by omega)
  have x9 : w6.cell? ⟨bd, 9, none⟩ = some (.slice at' S.turns.length ct) := hh6.cell (i := 9) (by omega)
  have f9 := hh6.frozen 9
  have hno : b1 ≠ bd ∧ some b1 ≠ (Value.slice at' S.turns.length ct).ownBlock := ⟨fun e => (by have := HA1.out; rw [e, HD.out.rd] at this; cases this), fun e => (by have := HD.out.rt b1 e.symm; rw [HA1.out] at this; cases this)⟩
  have q1b : w6.cell? ⟨b1, 0, none⟩ = some (.pointer (some ⟨bd, 0, none⟩)) := (World.cell?_of_block (a := ⟨b1, 0, none⟩) (hk7.block b1 (World.block_lt_of_cell? w5 _ q1) hno)).trans q1
  have hba : Below w5.heap.size w5 (w5.alloc (.cells #[.int .i64 2, .string s, .string ⟨#[]⟩, .pointer none] 66)) := (Below.refl _ w5).alloc (Nat.le_refl _) _
  have y9a := (hba.cell (p := ⟨bd, 9, none⟩) (World.block_lt_of_cell? w5 _ y9)).trans y9
  have q1a := (hba.cell (p := ⟨b1, 0, none⟩) (World.block_lt_of_cell? w5 _ q1)).trans q1
  simp only [turnC, pF, hz5] at hrun
  have HRUN := Lib.hid hrun
  have HD7 := Lib.hid hd7
  have HB7 := Lib.hid ((hB5.trans ((Below.refl B w5).drew)).trans hb7)
  have HO7 := Lib.hid ((hou5.trans (Out.below ((Below.refl _ w5).drew))).trans ho7)
  clear hbW hsW kn hd5 hou5 hbnl hB5 tb hs5 nb1 hd6 hz5 hrun hh6 hd7 ho7 hb7 hk7 hno hba c0 c1 c1a c7 HLD HTL
  simp only [Array.getD_eq_getD_getElem?, List.getElem?_toArray, List.getElem?_cons_zero, List.getElem?_cons_succ, Option.getD_some] at tb0 tb1 tb2 tb3
  go_cut [] (fun wx => wx = w6.setCell ⟨bd, 9, none⟩ (.slice a6 (S.turns.length + 1) cap6))
  case first =>
    go_region_law ((with_reducible refine step_append_run rfl _ _ _ rfl HRUN.out rfl rfl ?_))
    all_goals
      go_wp2_with fail
      go_meet
      exact rfl
  case rest =>
    subst hcut
    clear HRUN x9 y9 f9 q1a q1b y9a q1 tb0 tb1 tb2 tb3
    go_wp2
    go_ret
    exact ⟨0, _, rfl, ⟨rfl, rfl⟩, ⟨ρ6, _, _, _, _, _, HD7.out, fun b hb => HO7.out.role b (HAL.out b hb) (HAV.out b hb)⟩, HB7.out, HO7.out.keep.mono fun b _ hb => HAV.out b hb⟩
set_option maxRecDepth 100000 in
set_option maxHeartbeats 2000000 in
theorem rename1_any (B : Nat) (W : World) (bd : Nat) (S : DSt) (A : Nat → Prop) (h : DiskAv B W bd S A) (hAl : ∀ b, A b → b < W.heap.size) (hok : DOk S) (hB : B ≤ W.heap.size) (f : Nat) (sa sb : ByteArray) (hsa : sa.size ≤ maxLen) (hsb : sb.size ≤ maxLen) (hn : (sa.toList == sb.toList) = false) (b0 b2 : Nat) (c0 : W.cell? ⟨b0, 0, none⟩ = some (.string sa)) (c2 : W.cell? ⟨b2, 0, none⟩ = some (.string sb)) (b1 : Nat) (ha1 : A b1) (c1 : W.cell? ⟨b1, 0, none⟩ = some (.pointer (some ⟨bd, 0, none⟩))) :
    Calls Try.prog 48 #[ptrB f, .pointer (some ⟨b0, 0, none⟩), .pointer (some ⟨b2, 0, none⟩), .pointer (some ⟨b1, 0, none⟩)] W (DPost B A W bd (moveR S ⟨1, sa, sb, none⟩)) := by
  have HAL := Lib.hid hAl
  clear hAl
  obtain ⟨ρ, vf, vt, bn, bl, V, hd, hav⟩ := h
  have HAV := Lib.hid hav
  have HA1 := Lib.hid (hav b1 ha1)
  have HD := Lib.hid hd
  have HOK := Lib.hid hok
  have hb0 : Below W.heap.size W (W.alloc (.cells #[.int .i64 1, .string sa, .string sb, .pointer none] 66)) := (Below.refl _ W).alloc (Nat.le_refl _) _
  have hd1 := hd.below hb0
  have htl : ∀ i, i < 4 → (W.alloc (.cells #[.int .i64 1, .string sa, .string sb, .pointer none] 66)).cell? ⟨W.heap.size, i, none⟩ = some (#[Value.int .i64 1, .string sa, .string sb, .pointer none].getD i undef) := fun i hi => by
    refine (cell_of_row _ _ i _ _ _ (heap_alloc_new W _)).trans ?_
    match i, hi with
    | 0, _ => rfl
    | 1, _ => rfl
    | 2, _ => rfl
    | 3, _ => rfl
  have HTL := Lib.hid htl
  have c1a : (W.alloc (.cells #[.int .i64 1, .string sa, .string sb, .pointer none] 66)).cell? ⟨b1, 0, none⟩ = some (.pointer (some ⟨bd, 0, none⟩)) := (hb0.cell (p := ⟨b1, 0, none⟩) (World.block_lt_of_cell? W _ c1)).trans c1
  have c7 : (W.alloc (.cells #[.int .i64 1, .string sa, .string sb, .pointer none] 66)).cell? ⟨bd, 7, none⟩ = some (.map (some bn)) := hd1.head.cell (i := 7) (by omega)
  have hld := lead_any (W.alloc (.cells #[.int .i64 1, .string sa, .string sb, .pointer none] 66)).drew bn S.names (hd1.names.of_block rfl) (by have := hok.small.1; simp only [maxLen]; omega) ⟨1, sa, sb, none⟩ hsa hsb (fun h => absurd h (show ¬ (1 : Int) = 0 by omega))
  unfold turnA pF at hld
  simp only at hld
  have HLD := Lib.hid hld
  have l1 := World.block_lt_of_cell? W _ c1
  simp only at l1
  clear hd hok hav ha1 hb0 hd1 htl hld
  (have hn2 : (sa.toList != sb.toList) = true := by simpa using hn)
  go_enter Try.func48, Try.ntmps48
  go_wp2_with fail
  skip
  refine wp_region_still_tail 5 (by kernel_rfl) (by kernel_rfl) ?_
  simp only [List.take_succ_cons, List.take_zero, List.drop_succ_cons, List.drop_zero]
  change wpStill _ _ (W.alloc (.cells #[.int .i64 1, .string sa, .string sb, .pointer none] 66)).drew (fun a' => wpList _ _ _ _ a' (W.alloc (.cells #[.int .i64 1, .string sa, .string sb, .pointer none] 66)).drew) _ _
  repeat still_step
  refine wpStill_nil ?_
  go_upto_region 4 with (first | (go_at_call 43; refine HLD.out.mono ?_; rintro e w5 ⟨rfl, hn5, hg5⟩; have HN5 := Lib.hid hn5; have HG5 := Lib.hid hg5; clear hn5 hg5) | fail)
  have hbW : Below W.heap.size W (W.alloc (.cells #[.int .i64 1, .string sa, .string sb, .pointer none] 66)).drew := ((Below.refl _ W).alloc (Nat.le_refl _) _).drew
  have hsW : (W.alloc (.cells #[.int .i64 1, .string sa, .string sb, .pointer none] 66)).drew.heap.size = W.heap.size + 1 := by show (W.alloc _).heap.size = _; simp
  have kn : KeepX (fun b => b ≠ bn) (W.alloc (.cells #[.int .i64 1, .string sa, .string sb, .pointer none] 66)).drew w5 := KeepX.gb HG5.out (fun r e h => by cases e; exact h rfl)
  have hd5 := (HD.out.below hbW).setNames kn HN5.out
  have hou5 : Out ρ ρ W w5 := (Out.below hbW).trans (Out.same kn fun b h e => by rw [e, HD.out.rn] at h; cases h)
  have hbnl := HD.out.names.lt
  have hB5 : Below B W w5 := (hbW.mono hB).grown HG5.out (by omega) (fun k e => by cases e; exact (HD.out.base bn (by rw [HD.out.rn]; simp)).1)
  have tb : w5.heap[W.heap.size]? = (W.alloc (.cells #[.int .i64 1, .string sa, .string sb, .pointer none] 66)).heap[W.heap.size]? := kn.block W.heap.size (by omega) (by omega)
  have tb0 := (World.cell?_of_block (a := ⟨W.heap.size, 0, none⟩) tb).trans (HTL.out 0 (by omega))
  have tb1 := (World.cell?_of_block (a := ⟨W.heap.size, 1, none⟩) tb).trans (HTL.out 1 (by omega))
  have tb2 := (World.cell?_of_block (a := ⟨W.heap.size, 2, none⟩) tb).trans (HTL.out 2 (by omega))
  have tb3 := (World.cell?_of_block (a := ⟨W.heap.size, 3, none⟩) tb).trans (HTL.out 3 (by omega))
  have hs5 := kn.size
  have nb1 : b1 ≠ bn := fun e => by have := HA1.out; rw [e, HD.out.rn] at this; cases this
  have q1 : w5.cell? ⟨b1, 0, none⟩ = some (.pointer (some ⟨bd, 0, none⟩)) := (World.cell?_of_block (a := ⟨b1, 0, none⟩) (kn.block b1 (by omega) nb1)).trans c1a
  obtain ⟨at', ct, hvt⟩ := owns_slice HD.out.turns
  subst hvt
  have hd6 := hd5.below ((Below.refl _ w5).drew)
  have hz5 : (w5.drew).heap.size = w5.heap.size := rfl
  obtain ⟨a6, cap6, w6, hrun, hh6, ⟨ρ6, hd7, ho7⟩, hb7, hk7⟩ := hd6.turn_append HOK.out.many.2 (by rw [hz5]; omega) ⟨1, sa, sb, none⟩
  have y9 : w5.cell? ⟨bd, 9, none⟩ = some (.slice at' S.turns.length ct) := hd5.head.cell (i := 9) (by omega)
  have x9 : w6.cell? ⟨bd, 9, none⟩ = some (.slice at' S.turns.length ct) := hh6.cell (i := 9) (by omega)
  have f9 := hh6.frozen 9
  have hno : b1 ≠ bd ∧ some b1 ≠ (Value.slice at' S.turns.length ct).ownBlock := ⟨fun e => (by have := HA1.out; rw [e, HD.out.rd] at this; cases this), fun e => (by have := HD.out.rt b1 e.symm; rw [HA1.out] at this; cases this)⟩
  have q1b : w6.cell? ⟨b1, 0, none⟩ = some (.pointer (some ⟨bd, 0, none⟩)) := (World.cell?_of_block (a := ⟨b1, 0, none⟩) (hk7.block b1 (World.block_lt_of_cell? w5 _ q1) hno)).trans q1
  have hba : Below w5.heap.size w5 (w5.alloc (.cells #[.int .i64 1, .string sa, .string sb, .pointer none] 66)) := (Below.refl _ w5).alloc (Nat.le_refl _) _
  have y9a := (hba.cell (p := ⟨bd, 9, none⟩) (World.block_lt_of_cell? w5 _ y9)).trans y9
  have q1a := (hba.cell (p := ⟨b1, 0, none⟩) (World.block_lt_of_cell? w5 _ q1)).trans q1
  simp only [turnC, pF, hz5] at hrun
  have HRUN := Lib.hid hrun
  have HD7 := Lib.hid hd7
  have HB7 := Lib.hid ((hB5.trans ((Below.refl B w5).drew)).trans hb7)
  have HO7 := Lib.hid ((hou5.trans (Out.below ((Below.refl _ w5).drew))).trans ho7)
  clear hbW hsW kn hd5 hou5 hbnl hB5 tb hs5 nb1 hd6 hz5 hrun hh6 hd7 ho7 hb7 hk7 hno hba c0 c1 c1a c7 HLD HTL
  simp only [Array.getD_eq_getD_getElem?, List.getElem?_toArray, List.getElem?_cons_zero, List.getElem?_cons_succ, Option.getD_some] at tb0 tb1 tb2 tb3
  go_cut [] (fun wx => wx = w6.setCell ⟨bd, 9, none⟩ (.slice a6 (S.turns.length + 1) cap6))
  case first =>
    go_region_law ((with_reducible refine step_append_run rfl _ _ _ rfl HRUN.out rfl rfl ?_))
    all_goals
      go_wp2_with fail
      go_meet
      exact rfl
  case rest =>
    subst hcut
    clear HRUN x9 y9 f9 q1a q1b y9a q1 tb0 tb1 tb2 tb3
    go_wp2
    go_ret
    exact ⟨0, _, rfl, ⟨rfl, rfl⟩, ⟨ρ6, _, _, _, _, _, HD7.out, fun b hb => HO7.out.role b (HAL.out b hb) (HAV.out b hb)⟩, HB7.out, HO7.out.keep.mono fun b _ hb => HAV.out b hb⟩
end Go.Proofs.Ytelndbjjkhlacaa
