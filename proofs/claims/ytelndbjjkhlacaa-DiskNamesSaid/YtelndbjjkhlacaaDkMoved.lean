/-
  Remove, Rename: a name taken away, a name that leads to another one's file.
  Remove and Rename: the calls.
-/
import Derived.Test.YtelndbjjkhlacaaDkOk
import Derived.StillTailTactics
namespace Go.Proofs.Ytelndbjjkhlacaa
open Go.RowKit Go.Maps

def moveR (S : DSt) (t : Turn) (z : Int) (S' : DSt) : Prop := z = 0 ∧ S' = { S with names := leadD S.names t, turns := S.turns ++ [t] }
set_option maxRecDepth 100000 in
set_option maxHeartbeats 2000000 in
theorem remove1_any (B : Nat) (W : World) (bd : Nat) (S : DSt) (A : Nat → Prop) (h : DiskAv B W bd S A) (hAl : ∀ b, A b → b < W.heap.size) (hok : DOk S) (hB : B ≤ W.heap.size) (f : Nat) (s : ByteArray) (hs : s.size ≤ maxLen) (b0 : Nat) (c0 : W.cell? ⟨b0, 0, none⟩ = some (.string s)) (b1 : Nat) (ha1 : A b1) (c1 : W.cell? ⟨b1, 0, none⟩ = some (.pointer (some ⟨bd, 0, none⟩))) :
    Calls Try.prog 47 #[ptrB f, .pointer (some ⟨b0, 0, none⟩), .pointer (some ⟨b1, 0, none⟩)] W (DPost B A W bd (moveR S ⟨2, s, ⟨#[]⟩, none⟩)) := by
  have HAL := Lib.hid hAl
  clear hAl
  obtain ⟨ρ, vf, vt, bn, bl, V, hd, hav⟩ := h
  have HAV := Lib.hid hav
  have HA1 := Lib.hid (hav b1 ha1)
  have HD := Lib.hid hd
  have HOK := Lib.hid hok
  have hb0 : Below W.heap.size W (W.alloc (.cells #[.int .i64 2, .string s, .string ⟨#[]⟩, .pointer none] 66)) := (Below.refl _ W).alloc (Nat.le_refl _) _
  have hd1 := hd.below hb0
  have htl : ∀ i, i < 4 → (W.alloc (.cells #[.int .i64 2, .string s, .string ⟨#[]⟩, .pointer none] 66)).cell? ⟨W.heap.size, i, none⟩ = some (#[Value.int .i64 2, .string s, .string ⟨#[]⟩, .pointer none].getD i undef) := fun i hi => by
    refine (cell_of_row _ _ i _ _ _ (heap_alloc_new W _)).trans ?_
    match i, hi with
    | 0, _ => rfl
    | 1, _ => rfl
    | 2, _ => rfl
    | 3, _ => rfl
  have HTL := Lib.hid htl
  have c1a : (W.alloc (.cells #[.int .i64 2, .string s, .string ⟨#[]⟩, .pointer none] 66)).cell? ⟨b1, 0, none⟩ = some (.pointer (some ⟨bd, 0, none⟩)) := (hb0.cell (p := ⟨b1, 0, none⟩) (World.block_lt_of_cell? W _ c1)).trans c1
  have c7 : (W.alloc (.cells #[.int .i64 2, .string s, .string ⟨#[]⟩, .pointer none] 66)).cell? ⟨bd, 7, none⟩ = some (.map (some bn)) := hd1.head.cell (i := 7) (by omega)
  have hld := lead_any (W.alloc (.cells #[.int .i64 2, .string s, .string ⟨#[]⟩, .pointer none] 66)).drew bn S.names (hd1.names.of_block rfl) (by have := hok.small.1; simp only [maxLen]; omega) ⟨2, s, ⟨#[]⟩, none⟩ hs (by show 0 ≤ _; omega) (fun h => absurd h (show ¬ (2 : Int) = 0 by omega))
  unfold turnA pF at hld
  simp only at hld
  have HLD := Lib.hid hld
  have l1 := World.block_lt_of_cell? W _ c1
  simp only at l1
  clear hd hok hav ha1 hb0 hd1 htl hld
  skip
  go_enter Try.func47, Try.ntmps47
  go_wp2_with fail
  skip
  refine wp_region_still_tail 5 (by kernel_rfl) (by kernel_rfl) ?_
  simp only [List.take_succ_cons, List.take_zero, List.drop_succ_cons, List.drop_zero]
  change wpStill _ _ (W.alloc (.cells #[.int .i64 2, .string s, .string ⟨#[]⟩, .pointer none] 66)).drew (fun a' => wpList _ _ _ _ a' (W.alloc (.cells #[.int .i64 2, .string s, .string ⟨#[]⟩, .pointer none] 66)).drew) _ _
  repeat still_step
  refine wpStill_nil ?_
  go_upto_region 3 with (first | (go_at_call 43; refine HLD.out.mono ?_; rintro e w5 ⟨rfl, hn5, hg5⟩; have HN5 := Lib.hid hn5; have HG5 := Lib.hid hg5; clear hn5 hg5) | fail)
  have hbW : Below W.heap.size W (W.alloc (.cells #[.int .i64 2, .string s, .string ⟨#[]⟩, .pointer none] 66)).drew := ((Below.refl _ W).alloc (Nat.le_refl _) _).drew
  have hsW : (W.alloc (.cells #[.int .i64 2, .string s, .string ⟨#[]⟩, .pointer none] 66)).drew.heap.size = W.heap.size + 1 := by show (W.alloc _).heap.size = _; simp
  have kn : KeepX (fun b => b ≠ bn) (W.alloc (.cells #[.int .i64 2, .string s, .string ⟨#[]⟩, .pointer none] 66)).drew w5 := KeepX.gb HG5.out (fun r e h => by cases e; exact h rfl)
  have hd5 := (HD.out.below hbW).setNames kn HN5.out
  have hou5 : Out ρ ρ W w5 := (Out.below hbW).trans (Out.same kn fun b h e => by rw [e, HD.out.rn] at h; cases h)
  have hbnl := HD.out.names.lt
  have hB5 : Below B W w5 := (hbW.mono hB).grown HG5.out (by omega) (fun k e => by cases e; exact (HD.out.base bn (by rw [HD.out.rn]; simp)).1)
  have tb : w5.heap[W.heap.size]? = (W.alloc (.cells #[.int .i64 2, .string s, .string ⟨#[]⟩, .pointer none] 66)).heap[W.heap.size]? := kn.block W.heap.size (by omega) (by omega)
  have tb0 := (World.cell?_of_block (a := ⟨W.heap.size, 0, none⟩) tb).trans (HTL.out 0 (by omega))
  have tb1 := (World.cell?_of_block (a := ⟨W.heap.size, 1, none⟩) tb).trans (HTL.out 1 (by omega))
  have tb2 := (World.cell?_of_block (a := ⟨W.heap.size, 2, none⟩) tb).trans (HTL.out 2 (by omega))
  have tb3 := (World.cell?_of_block (a := ⟨W.heap.size, 3, none⟩) tb).trans (HTL.out 3 (by omega))
  have hs5 := kn.size
  have nb1 : b1 ≠ bn := fun e => by have := HA1.out; rw [e, HD.out.rn] at this; cases this
  have q1 : w5.cell? ⟨b1, 0, none⟩ = some (.pointer (some ⟨bd, 0, none⟩)) := (World.cell?_of_block (a := ⟨b1, 0, none⟩) (kn.block b1 (by omega) nb1)).trans c1a
  obtain ⟨at', ct, hvt⟩ := owns_slice HD.out.turns
  subst hvt
  have hd6 := hd5.below ((Below.refl _ w5).drew)
  have hz5 : (w5.drew).heap.size = w5.heap.size := rfl
  obtain ⟨a6, cap6, w6, hrun, hh6, ⟨ρ6, hd7, ho7⟩, hb7, hk7⟩ := hd6.turn_append HOK.out.many.2 (by rw [hz5]; omega) ⟨2, s, ⟨#[]⟩, none⟩
  have y9 : w5.cell? ⟨bd, 9, none⟩ = some (.slice at' S.turns.length ct) := hd5.head.cell (i := 9) (by omega)
  have x9 : w6.cell? ⟨bd, 9, none⟩ = some (.slice at' S.turns.length ct) := hh6.cell (i := 9) (by omega)
  have f9 := hh6.frozen 9
  have hno : b1 ≠ bd ∧ some b1 ≠ (Value.slice at' S.turns.length ct).ownBlock := ⟨fun e => (by have := HA1.out; rw [e, HD.out.rd] at this; cases this), fun e => (by have := HD.out.rt b1 e.symm; rw [HA1.out] at this; cases this)⟩
  have q1b : w6.cell? ⟨b1, 0, none⟩ = some (.pointer (some ⟨bd, 0, none⟩)) := (World.cell?_of_block (a := ⟨b1, 0, none⟩) (hk7.block b1 (World.block_lt_of_cell? w5 _ q1) hno)).trans q1
  have hba : Below w5.heap.size w5 (w5.alloc (.cells #[.int .i64 2, .string s, .string ⟨#[]⟩, .pointer none] 66)) := (Below.refl _ w5).alloc (Nat.le_refl _) _
  have y9a := (hba.cell (p := ⟨bd, 9, none⟩) (World.block_lt_of_cell? w5 _ y9)).trans y9
  have q1a := (hba.cell (p := ⟨b1, 0, none⟩) (World.block_lt_of_cell? w5 _ q1)).trans q1
  simp only [turnC, pF, hz5] at hrun
  have HRUN := Lib.hid hrun
  have HD7 := Lib.hid hd7
  have HB7 := Lib.hid ((hB5.trans ((Below.refl B w5).drew)).trans hb7)
  have HO7 := Lib.hid ((hou5.trans (Out.below ((Below.refl _ w5).drew))).trans ho7)
  clear hbW hsW kn hd5 hou5 hbnl hB5 tb hs5 nb1 hd6 hz5 hrun hh6 hd7 ho7 hb7 hk7 hno hba c0 c1 c1a c7 HLD HTL
  simp only [Array.getD_eq_getD_getElem?, List.getElem?_toArray, List.getElem?_cons_zero, List.getElem?_cons_succ, Option.getD_some] at tb0 tb1 tb2 tb3
  go_cut [] (fun wx => wx = w6.setCell ⟨bd, 9, none⟩ (.slice a6 (S.turns.length + 1) cap6))
  case first =>
    go_region_law ((with_reducible refine step_append_run rfl _ _ _ rfl HRUN.out rfl rfl ?_))
    all_goals
      go_wp2_with fail
      go_meet
      exact rfl
  case rest =>
    subst hcut
    clear HRUN x9 y9 f9 q1a q1b y9a q1 tb0 tb1 tb2 tb3
    go_wp2
    go_ret
    exact ⟨0, _, rfl, ⟨rfl, rfl⟩, ⟨ρ6, _, _, _, _, _, HD7.out, fun b hb => HO7.out.role b (HAL.out b hb) (HAV.out b hb)⟩, HB7.out, HO7.out.keep.mono fun b _ hb => HAV.out b hb⟩
set_option maxRecDepth 100000 in
set_option maxHeartbeats 2000000 in
theorem rename1_any (B : Nat) (W : World) (bd : Nat) (S : DSt) (A : Nat → Prop) (h : DiskAv B W bd S A) (hAl : ∀ b, A b → b < W.heap.size) (hok : DOk S) (hB : B ≤ W.heap.size) (f : Nat) (sa sb : ByteArray) (hsa : sa.size ≤ maxLen) (hsb : sb.size ≤ maxLen) (hn : (sa.toList == sb.toList) = false) (b0 b2 : Nat) (c0 : W.cell? ⟨b0, 0, none⟩ = some (.string sa)) (c2 : W.cell? ⟨b2, 0, none⟩ = some (.string sb)) (b1 : Nat) (ha1 : A b1) (c1 : W.cell? ⟨b1, 0, none⟩ = some (.pointer (some ⟨bd, 0, none⟩))) :
    Calls Try.prog 48 #[ptrB f, .pointer (some ⟨b0, 0, none⟩), .pointer (some ⟨b2, 0, none⟩), .pointer (some ⟨b1, 0, none⟩)] W (DPost B A W bd (moveR S ⟨1, sa, sb, none⟩)) := by
  have HAL := Lib.hid hAl
  clear hAl
  obtain ⟨ρ, vf, vt, bn, bl, V, hd, hav⟩ := h
  have HAV := Lib.hid hav
  have HA1 := Lib.hid (hav b1 ha1)
  have HD := Lib.hid hd
  have HOK := Lib.hid hok
  have hb0 : Below W.heap.size W (W.alloc (.cells #[.int .i64 1, .string sa, .string sb, .pointer none] 66)) := (Below.refl _ W).alloc (Nat.le_refl _) _
  have hd1 := hd.below hb0
  have htl : ∀ i, i < 4 → (W.alloc (.cells #[.int .i64 1, .string sa, .string sb, .pointer none] 66)).cell? ⟨W.heap.size, i, none⟩ = some (#[Value.int .i64 1, .string sa, .string sb, .pointer none].getD i undef) := fun i hi => by
    refine (cell_of_row _ _ i _ _ _ (heap_alloc_new W _)).trans ?_
    match i, hi with
    | 0, _ => rfl
    | 1, _ => rfl
    | 2, _ => rfl
    | 3, _ => rfl
  have HTL := Lib.hid htl
  have c1a : (W.alloc (.cells #[.int .i64 1, .string sa, .string sb, .pointer none] 66)).cell? ⟨b1, 0, none⟩ = some (.pointer (some ⟨bd, 0, none⟩)) := (hb0.cell (p := ⟨b1, 0, none⟩) (World.block_lt_of_cell? W _ c1)).trans c1
  have c7 : (W.alloc (.cells #[.int .i64 1, .string sa, .string sb, .pointer none] 66)).cell? ⟨bd, 7, none⟩ = some (.map (some bn)) := hd1.head.cell (i := 7) (by omega)
  have hld := lead_any (W.alloc (.cells #[.int .i64 1, .string sa, .string sb, .pointer none] 66)).drew bn S.names (hd1.names.of_block rfl) (by have := hok.small.1; simp only [maxLen]; omega) ⟨1, sa, sb, none⟩ hsa hsb (fun h => absurd h (show ¬ (1 : Int) = 0 by omega))
  unfold turnA pF at hld
  simp only at hld
  have HLD := Lib.hid hld
  have l1 := World.block_lt_of_cell? W _ c1
  simp only at l1
  clear hd hok hav ha1 hb0 hd1 htl hld
  (have hn2 : (sa.toList != sb.toList) = true := by simpa using hn)
  go_enter Try.func48, Try.ntmps48
  go_wp2_with fail
  skip
  refine wp_region_still_tail 5 (by kernel_rfl) (by kernel_rfl) ?_
  simp only [List.take_succ_cons, List.take_zero, List.drop_succ_cons, List.drop_zero]
  change wpStill _ _ (W.alloc (.cells #[.int .i64 1, .string sa, .string sb, .pointer none] 66)).drew (fun a' => wpList _ _ _ _ a' (W.alloc (.cells #[.int .i64 1, .string sa, .string sb, .pointer none] 66)).drew) _ _
  repeat still_step
  refine wpStill_nil ?_
  go_upto_region 4 with (first | (go_at_call 43; refine HLD.out.mono ?_; rintro e w5 ⟨rfl, hn5, hg5⟩; have HN5 := Lib.hid hn5; have HG5 := Lib.hid hg5; clear hn5 hg5) | fail)
  have hbW : Below W.heap.size W (W.alloc (.cells #[.int .i64 1, .string sa, .string sb, .pointer none] 66)).drew := ((Below.refl _ W).alloc (Nat.le_refl _) _).drew
  have hsW : (W.alloc (.cells #[.int .i64 1, .string sa, .string sb, .pointer none] 66)).drew.heap.size = W.heap.size + 1 := by show (W.alloc _).heap.size = _; simp
  have kn : KeepX (fun b => b ≠ bn) (W.alloc (.cells #[.int .i64 1, .string sa, .string sb, .pointer none] 66)).drew w5 := KeepX.gb HG5.out (fun r e h => by cases e; exact h rfl)
  have hd5 := (HD.out.below hbW).setNames kn HN5.out
  have hou5 : Out ρ ρ W w5 := (Out.below hbW).trans (Out.same kn fun b h e => by rw [e, HD.out.rn] at h; cases h)
  have hbnl := HD.out.names.lt
  have hB5 : Below B W w5 := (hbW.mono hB).grown HG5.out (by omega) (fun k e => by cases e; exact (HD.out.base bn (by rw [HD.out.rn]; simp)).1)
  have tb : w5.heap[W.heap.size]? = (W.alloc (.cells #[.int .i64 1, .string sa, .string sb, .pointer none] 66)).heap[W.heap.size]? := kn.block W.heap.size (by omega) (by omega)
  have tb0 := (World.cell?_of_block (a := ⟨W.heap.size, 0, none⟩) tb).trans (HTL.out 0 (by omega))
  have tb1 := (World.cell?_of_block (a := ⟨W.heap.size, 1, none⟩) tb).trans (HTL.out 1 (by omega))
  have tb2 := (World.cell?_of_block (a := ⟨W.heap.size, 2, none⟩) tb).trans (HTL.out 2 (by omega))
  have tb3 := (World.cell?_of_block (a := ⟨W.heap.size, 3, none⟩) tb).trans (HTL.out 3 (by omega))
  have hs5 := kn.size
  have nb1 : b1 ≠ bn := fun e => by have := HA1.out; rw [e, HD.out.rn] at this; cases this
  have q1 : w5.cell? ⟨b1, 0, none⟩ = some (.pointer (some ⟨bd, 0, none⟩)) := (World.cell?_of_block (a := ⟨b1, 0, none⟩) (kn.block b1 (by omega) nb1)).trans c1a
  obtain ⟨at', ct, hvt⟩ := owns_slice HD.out.turns
  subst hvt
  have hd6 := hd5.below ((Below.refl _ w5).drew)
  have hz5 : (w5.drew).heap.size = w5.heap.size := rfl
  obtain ⟨a6, cap6, w6, hrun, hh6, ⟨ρ6, hd7, ho7⟩, hb7, hk7⟩ := hd6.turn_append HOK.out.many.2 (by rw [hz5]; omega) ⟨1, sa, sb, none⟩
  have y9 : w5.cell? ⟨bd, 9, none⟩ = some (.slice at' S.turns.length ct) := hd5.head.cell (i := 9) (by omega)
  have x9 : w6.cell? ⟨bd, 9, none⟩ = some (.slice at' S.turns.length ct) := hh6.cell (i := 9) (by omega)
  have f9 := hh6.frozen 9
  have hno : b1 ≠ bd ∧ some b1 ≠ (Value.slice at' S.turns.length ct).ownBlock := ⟨fun e => (by have := HA1.out; rw [e, HD.out.rd] at this; cases this), fun e => (by have := HD.out.rt b1 e.symm; rw [HA1.out] at this; cases this)⟩
  have q1b : w6.cell? ⟨b1, 0, none⟩ = some (.pointer (some ⟨bd, 0, none⟩)) := (World.cell?_of_block (a := ⟨b1, 0, none⟩) (hk7.block b1 (World.block_lt_of_cell? w5 _ q1) hno)).trans q1
  have hba : Below w5.heap.size w5 (w5.alloc (.cells #[.int .i64 1, .string sa, .string sb, .pointer none] 66)) := (Below.refl _ w5).alloc (Nat.le_refl _) _
  have y9a := (hba.cell (p := ⟨bd, 9, none⟩) (World.block_lt_of_cell? w5 _ y9)).trans y9
  have q1a := (hba.cell (p := ⟨b1, 0, none⟩) (World.block_lt_of_cell? w5 _ q1)).trans q1
  simp only [turnC, pF, hz5] at hrun
  have HRUN := Lib.hid hrun
  have HD7 := Lib.hid hd7
  have HB7 := Lib.hid ((hB5.trans ((Below.refl B w5).drew)).trans hb7)
  have HO7 := Lib.hid ((hou5.trans (Out.below ((Below.refl _ w5).drew))).trans ho7)
  clear hbW hsW kn hd5 hou5 hbnl hB5 tb hs5 nb1 hd6 hz5 hrun hh6 hd7 ho7 hb7 hk7 hno hba c0 c1 c1a c7 HLD HTL
  simp only [Array.getD_eq_getD_getElem?, List.getElem?_toArray, List.getElem?_cons_zero, List.getElem?_cons_succ, Option.getD_some] at tb0 tb1 tb2 tb3
  go_cut [] (fun wx => wx = w6.setCell ⟨bd, 9, none⟩ (.slice a6 (S.turns.length + 1) cap6))
  case first =>
    go_region_law ((with_reducible refine step_append_run rfl _ _ _ rfl HRUN.out rfl rfl ?_))
    all_goals
      go_wp2_with fail
      go_meet
      exact rfl
  case rest =>
    subst hcut
    clear HRUN x9 y9 f9 q1a q1b y9a q1 tb0 tb1 tb2 tb3
    go_wp2
    go_ret
    exact ⟨0, _, rfl, ⟨rfl, rfl⟩, ⟨ρ6, _, _, _, _, _, HD7.out, fun b hb => HO7.out.role b (HAL.out b hb) (HAV.out b hb)⟩, HB7.out, HO7.out.keep.mono fun b _ hb => HAV.out b hb⟩
end Go.Proofs.Ytelndbjjkhlacaa
namespace Go.Proofs.Ytelndbjjkhlacaa
open Go.RowKit Go.Maps

set_option maxRecDepth 100000 in
set_option maxHeartbeats 1000000 in
theorem rename1_same (B : Nat) (W : World) (bd : Nat) (S : DSt) (A : Nat → Prop) (h : DiskAv B W bd S A) (f : Nat) (s : ByteArray) (b0 b1 b2 : Nat) (c0 : W.cell? ⟨b0, 0, none⟩ = some (.string s)) (c2 : W.cell? ⟨b2, 0, none⟩ = some (.string s)) :
    Calls Try.prog 48 #[ptrB f, .pointer (some ⟨b0, 0, none⟩), .pointer (some ⟨b2, 0, none⟩), .pointer (some ⟨b1, 0, none⟩)] W (DPost B A W bd (fun z S' => z = 0 ∧ S' = S)) := by
  have H := Lib.hid h
  clear h
  go_enter Try.func48, Try.ntmps48
  go_wp2
  go_ret
  exact ⟨0, S, rfl, ⟨rfl, rfl⟩, H.out, Below.refl _ _, KeepX.refl _ _⟩
set_option maxRecDepth 100000 in
set_option maxHeartbeats 1000000 in
theorem remove_any (B : Nat) (w : World) (bd : Nat) (S : DSt) (A : Nat → Prop) (h : DiskAv B w bd S A) (hAl : ∀ b, A b → b < w.heap.size) (hok : DOk S) (h1 : S.dead = false) (h2 : S.stop ≤ 0) (h3 : S.fail ≤ 0) (hB : B ≤ w.heap.size) (hc : S.calls < 100000) (s : ByteArray) (hs : s.size ≤ maxLen) :
    Calls Try.prog 26 #[.pointer (some ⟨bd, 0, none⟩), .string s] w (DPost B A w bd (onR S s (fun _ => moveR (callS S) ⟨2, s, ⟨#[]⟩, none⟩))) := by
  have hbl : bd < w.heap.size := by obtain ⟨ρ, vf, vt, bn, bl, V, hd, _⟩ := h; exact hd.lt
  have B0 := Boxed.new w 22 (.pointer (some ⟨bd, 0, none⟩))
  have B1 := Boxed.new (w.alloc (.cells #[.pointer (some ⟨bd, 0, none⟩)] 22)) 9 (.string s)
  simp only [World.size_alloc] at B1
  have B0' := B0.alloc (.cells #[.string s] 9)
  have hb2 : Below w.heap.size w ((w.alloc (.cells #[.pointer (some ⟨bd, 0, none⟩)] 22)).alloc (.cells #[.string s] 9)) := ((Below.refl _ w).alloc (Nat.le_refl _) _).alloc (by simp) _
  have hsz : ((w.alloc (.cells #[.pointer (some ⟨bd, 0, none⟩)] 22)).alloc (.cells #[.string s] 9)).heap.size = w.heap.size + 2 := by simp
  have HON := Lib.hid (on_remove B _ bd S (fun b => A b ∨ (b = w.heap.size ∨ b = w.heap.size + 1)) (h.avoid hb2 (fun b => b = w.heap.size ∨ b = w.heap.size + 1) (fun b hb => by omega)) hok h1 h2 h3 (by rw [hsz]; omega) s hs #[.pointer (some ⟨w.heap.size + 1, 0, none⟩), .pointer (some ⟨w.heap.size, 0, none⟩)] (fun _ => moveR (callS S) ⟨2, s, ⟨#[]⟩, none⟩) (fun W f hW hu hf =>
    remove1_any B W bd (callS S) _ hW (fun b hb => by have := hu.keep.size; rw [hsz] at this; rcases hb with hb | hb; have := hAl b hb; omega; omega) (hok.call hc) (by have := hu.keep.size; rw [hsz] at this; omega) f s hs _ (hu.cell (p := ⟨w.heap.size + 1, 0, none⟩) B1.cell (by show w.heap.size + 1 ≠ bd; omega)) _ (.inr (.inl rfl)) (hu.cell (p := ⟨w.heap.size, 0, none⟩) B0'.cell (by show w.heap.size ≠ bd; omega))))
  have HB2 := Lib.hid hb2
  clear h hAl hok h1 h2 h3 hb2 B0 B1 B0' hsz
  go_enter Try.func26, Try.ntmps26
  go_wp2_with fail
  refine HON.out.mono ?_
  rintro e w4 ⟨z, S2, rfl, hR, hd2, hb4, hk4⟩
  have HK4 := Lib.hid (hk4.mono fun b _ (hb : A b) => .inl hb)
  have HR := Lib.hid hR
  have HD2 := Lib.hid (hd2.mono fun b (hb : A b) => .inl hb)
  have HB4 := Lib.hid hb4
  clear hR hd2 hb4 hk4 HON
  go_wp2
  go_ret
  exact ⟨z, S2, rfl, HR.out, HD2.out, (HB2.out.mono hB).trans HB4.out, (KeepX.of_below HB2.out).trans HK4.out⟩
def renIn (S : DSt) (sa sb : ByteArray) (_ : Nat) (z : Int) (S' : DSt) : Prop := if sa = sb then z = 0 ∧ S' = callS S else moveR (callS S) ⟨1, sa, sb, none⟩ z S'
def renR (S : DSt) (sa sb : ByteArray) (z : Int) (S' : DSt) : Prop := if okN sb = true then onR S sa (renIn S sa sb) z S' else z = 10 ∧ S' = S
set_option maxRecDepth 100000 in
set_option maxHeartbeats 1000000 in
theorem rename_any (B : Nat) (w : World) (bd : Nat) (S : DSt) (A : Nat → Prop) (h : DiskAv B w bd S A) (hAl : ∀ b, A b → b < w.heap.size) (hok : DOk S) (h1 : S.dead = false) (h2 : S.stop ≤ 0) (h3 : S.fail ≤ 0) (hB : B ≤ w.heap.size) (hc : S.calls < 100000) (sa sb : ByteArray) (hsa : sa.size ≤ maxLen) (hsb : sb.size ≤ maxLen) (hn : sa = sb ∨ (sa.toList == sb.toList) = false) :
    Calls Try.prog 27 #[.pointer (some ⟨bd, 0, none⟩), .string sa, .string sb] w (DPost B A w bd (renR S sa sb)) := by
  have hbl : bd < w.heap.size := by obtain ⟨ρ, vf, vt, bn, bl, V, hd, _⟩ := h; exact hd.lt
  have B0 := Boxed.new w 22 (.pointer (some ⟨bd, 0, none⟩))
  have B1 := Boxed.new (w.alloc (.cells #[.pointer (some ⟨bd, 0, none⟩)] 22)) 9 (.string sa)
  have B2 := Boxed.new ((w.alloc (.cells #[.pointer (some ⟨bd, 0, none⟩)] 22)).alloc (.cells #[.string sa] 9)) 9 (.string sb)
  simp only [World.size_alloc] at B1 B2
  have B0' := (B0.alloc (.cells #[.string sa] 9)).alloc (.cells #[.string sb] 9)
  have B1' := B1.alloc (.cells #[.string sb] 9)
  have hb2 : Below w.heap.size w (((w.alloc (.cells #[.pointer (some ⟨bd, 0, none⟩)] 22)).alloc (.cells #[.string sa] 9)).alloc (.cells #[.string sb] 9)) := (((Below.refl _ w).alloc (Nat.le_refl _) _).alloc (by simp) _).alloc (by simp; omega) _
  have hsz : (((w.alloc (.cells #[.pointer (some ⟨bd, 0, none⟩)] 22)).alloc (.cells #[.string sa] 9)).alloc (.cells #[.string sb] 9)).heap.size = w.heap.size + 3 := by simp
  have HNM := Lib.hid (name_any (((w.alloc (.cells #[.pointer (some ⟨bd, 0, none⟩)] 22)).alloc (.cells #[.string sa] 9)).alloc (.cells #[.string sb] 9)) sb hsb)
  have HAV := Lib.hid (h.below hb2)
  have HON := Lib.hid (fun q => on_rename B ((((w.alloc (.cells #[.pointer (some ⟨bd, 0, none⟩)] 22)).alloc (.cells #[.string sa] 9)).alloc (.cells #[.string sb] 9)).drewN q) bd S (fun b => A b ∨ (b = w.heap.size ∨ b = w.heap.size + 1 ∨ b = w.heap.size + 2)) ((h.avoid hb2 (fun b => b = w.heap.size ∨ b = w.heap.size + 1 ∨ b = w.heap.size + 2) (fun b hb => by omega)).drewN q) hok h1 h2 h3 (by have e : (((((w.alloc (.cells #[.pointer (some ⟨bd, 0, none⟩)] 22)).alloc (.cells #[.string sa] 9)).alloc (.cells #[.string sb] 9)).drewN q)).heap.size = w.heap.size + 3 := hsz; omega) sa hsa
    #[.pointer (some ⟨w.heap.size + 1, 0, none⟩), .pointer (some ⟨w.heap.size + 1 + 1, 0, none⟩), .pointer (some ⟨w.heap.size, 0, none⟩)] (renIn S sa sb) (fun W f hW hu hf => by
      have hsu : w.heap.size + 3 ≤ W.heap.size := by
        have h9 := hu.keep.size
        have e : (((((w.alloc (.cells #[.pointer (some ⟨bd, 0, none⟩)] 22)).alloc (.cells #[.string sa] 9)).alloc (.cells #[.string sb] 9)).drewN q)).heap.size = w.heap.size + 3 := hsz
        omega
      have k0 := hu.cell (p := ⟨w.heap.size, 0, none⟩) B0'.cell (by show w.heap.size ≠ bd; omega)
      have k1 := hu.cell (p := ⟨w.heap.size + 1, 0, none⟩) B1'.cell (by show w.heap.size + 1 ≠ bd; omega)
      have k2 := hu.cell (p := ⟨w.heap.size + 1 + 1, 0, none⟩) B2.cell (by show w.heap.size + 1 + 1 ≠ bd; omega)
      by_cases e : sa = sb
      · subst e
        have er : renIn S sa sa f = fun z S' => z = 0 ∧ S' = callS S := by funext z S'; unfold renIn; rw [if_pos rfl]
        rw [er]
        exact rename1_same B W bd (callS S) _ hW f sa _ _ _ k1 k2
      · have er : renIn S sa sb f = moveR (callS S) ⟨1, sa, sb, none⟩ := by funext z S'; unfold renIn; rw [if_neg e]
        rw [er]
        exact rename1_any B W bd (callS S) _ hW (fun b hb => by rcases hb with hb | hb; have := hAl b hb; omega; omega) (hok.call hc) (by omega) f sa sb hsa hsb (hn.resolve_left e) _ _ k1 k2 _ (.inr (.inl rfl)) k0))
  have HB2 := Lib.hid hb2
  have HNE := Lib.hid h.ne
  clear h hAl hok h1 h2 h3 hb2 B0 B1 B2 B0' B1' hsz hn
  unfold renR
  cases hk : okN sb with
  | false =>
    rw [hk] at HNM
    clear hk HON
    go_enter Try.func27, Try.ntmps27
    go_wp2_with fail
    refine HNM.out.mono ?_
    rintro e w' ⟨rfl, j, rfl⟩
    clear HNM
    go_wp2
    go_ret
    exact ⟨10, S, rfl, ⟨rfl, rfl⟩, HAV.out.drewN j, below_drewN (HB2.out.mono hB) j, (KeepX.of_below HB2.out).drewN j⟩
  | true =>
    rw [hk] at HNM
    clear hk
    go_enter Try.func27, Try.ntmps27
    go_wp2_with fail
    refine HNM.out.mono ?_
    rintro e w' ⟨rfl, j, rfl⟩
    clear HNM
    go_wp2_with fail
    refine (HON.out j).mono ?_
    rintro e w4 ⟨z, S2, rfl, hR, hd2, hb4, hk4⟩
    have HK4 := Lib.hid (hk4.mono fun b _ (hb : A b) => .inl hb)
    have HR := Lib.hid hR
    have HD2 := Lib.hid (hd2.mono fun b (hb : A b) => .inl hb)
    have HB4 := Lib.hid hb4
    clear hR hd2 hb4 hk4 HON
    go_wp2
    go_ret
    exact ⟨z, S2, rfl, HR.out, HD2.out, (below_drewN (HB2.out.mono hB) j).trans HB4.out, ((KeepX.of_below HB2.out).drewN j).trans HK4.out⟩
end Go.Proofs.Ytelndbjjkhlacaa
