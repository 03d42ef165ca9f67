/-
  The contracts of package suffix that sort: sortBy, second, ranks.
-/
import Derived.Test.YtjpoebmjfedecaaPlainFmTells
import Derived.Test.YtjpoebmjfedecaaPureFmTells
import Derived.Test.YtjpoebmjfedecaaSameInts
namespace Go.Proofs.Ytjpoebmjfedecaa
open Go.RowKit

theorem size_u16 (w : World) : (sizeOf (Try.prog.elem 70)).run Try.prog w = .ok 1 w := by kernel_rfl
theorem info_int : (Try.prog.info? 3).map (fun i => (i.zero, i.size, i.bytes)) = some (some (.int .i64 0), 1, 8) := by kernel_rfl
theorem make_int (N : Nat) (h : N ≤ 1000000) : ∀ W : World, (Instr.makeSlice 30 (.int .i64 (N : Int)) (.int .i64 (N : Int))).run Try.prog W = .ok (.slice (some ⟨W.heap.size, 0, none⟩) N N) (W.alloc (.cells (madeCells #[.int .i64 0] N) 3)) := by
  intro W
  obtain ⟨i0, hi, hz0, hz1, hz2⟩ := info_parts info_int
  have := run_make (P := Try.prog) W 30 3 i0 _ Try.underlying30 hi hz0 .i64 .i64 N N (by omega) (by omega) (by rw [hz2]; omega) (by omega)
  rw [hz1] at this
  simpa [Value.cells] using this

/-- a row of numbers that is read -/
abbrev natV (l : List Nat) : Nat → Value := fun j => .int .i64 ((l.getD j 0 : Nat) : Int)
def IntsPost (w : World) (l : List Nat) (e : Ending) (w' : World) : Prop :=
  ∃ a cap, e = .returned (.slice a l.length cap) ∧ Row w' a l.length (natV l) ∧ Below w.heap.size w w' ∧ (l.length = 0 ∨ w.heap.size ≤ bOf a)
/-- how many are in the class ahead -/
def cls1 (l : List Nat) (r : Nat → Nat) (i c : Nat) : Nat := if c = 0 then 0 else inK (l.take i) r (c - 1)
theorem cls1_zero (l : List Nat) (r : Nat → Nat) (c : Nat) : cls1 l r 0 c = 0 := by unfold cls1; rw [List.take_zero, inK_nil]; split <;> rfl
theorem cls1_succ (l : List Nat) (r : Nat → Nat) (i c : Nat) (hi : i < l.length) : cls1 l r (i + 1) c = if c = r (l.getD i 0) + 1 then cls1 l r i (r (l.getD i 0) + 1) + 1 else cls1 l r i c := by
  unfold cls1
  by_cases h : c = 0
  · subst h; rw [if_pos rfl, if_pos rfl, if_neg (by omega)]
  · by_cases e : c = r (l.getD i 0) + 1
    · rw [if_neg h, if_pos e, if_neg (by omega), inK_take l r (c - 1) i hi, if_pos (by omega), e]
    · rw [if_neg h, if_neg e, if_neg h, inK_take l r (c - 1) i hi, if_neg (by omega)]; rfl
theorem cls1_le (l : List Nat) (r : Nat → Nat) (i c : Nat) : cls1 l r i c ≤ l.length := by
  unfold cls1; split
  · omega
  · exact Nat.le_trans (inK_le _ _ _) (List.length_take_le' _ _)
/-- .. summed up behind k of them -/
def cls2 (l : List Nat) (r : Nat → Nat) (k c : Nat) : Nat := if c ≤ k then below l r c else cls1 l r l.length c
theorem cls2_zero (l : List Nat) (r : Nat → Nat) (c : Nat) : cls2 l r 0 c = cls1 l r l.length c := by
  unfold cls2; split
  · obtain rfl : c = 0 := by omega
    simp [below_zero, cls1]
  · rfl
theorem cls2_at (l : List Nat) (r : Nat → Nat) (k : Nat) : cls2 l r k k = below l r k ∧ cls2 l r k (k + 1) = inK l r k := by
  unfold cls2
  rw [if_pos (Nat.le_refl _), if_neg (by omega)]
  refine ⟨rfl, ?_⟩
  unfold cls1
  rw [if_neg (by omega), List.take_length]; rfl
theorem cls2_succ (l : List Nat) (r : Nat → Nat) (k c : Nat) : cls2 l r (k + 1) c = if c = k + 1 then below l r (k + 1) else cls2 l r k c := by
  unfold cls2
  by_cases e : c = k + 1
  · subst e; rw [if_pos (Nat.le_refl _), if_pos rfl]
  · rw [if_neg e]
    by_cases h : c ≤ k
    · rw [if_pos (by omega), if_pos h]
    · rw [if_neg (by omega), if_neg h]
theorem cls2_end (l : List Nat) (r : Nat → Nat) (K c : Nat) (h : c ≤ K) : cls2 l r K c = below l r c := by unfold cls2; rw [if_pos h]
theorem cls2_le (l : List Nat) (r : Nat → Nat) (k c : Nat) : cls2 l r k c ≤ l.length := by
  unfold cls2; split
  · exact below_le _ _ _
  · exact cls1_le _ _ _ _
/-- where the next of a class goes -/
def cls3 (l : List Nat) (r : Nat → Nat) (i c : Nat) : Nat := below l r c + inK (l.take i) r c
theorem cls3_zero (l : List Nat) (r : Nat → Nat) (c : Nat) : cls3 l r 0 c = below l r c := by unfold cls3; rw [List.take_zero, inK_nil]; rfl
theorem cls3_at (l : List Nat) (r : Nat → Nat) (i : Nat) : cls3 l r i (r (l.getD i 0)) = posK l r i := by rw [posK_def]; rfl
theorem cls3_succ (l : List Nat) (r : Nat → Nat) (i c : Nat) (hi : i < l.length) : cls3 l r (i + 1) c = if c = r (l.getD i 0) then posK l r i + 1 else cls3 l r i c := by
  unfold cls3
  rw [inK_take l r c i hi]
  by_cases e : c = r (l.getD i 0)
  · rw [if_pos e, if_pos e.symm, e, posK_def]; omega
  · rw [if_neg e, if_neg (fun h => e h.symm)]; rfl
theorem getD_mem {l : List Nat} {i : Nat} (h : i < l.length) : l.getD i 0 ∈ l := by
  rw [List.getD_eq_getElem?_getD, List.getElem?_eq_getElem h]; exact List.getElem_mem _
attribute [irreducible] cls1 cls2 cls3

set_option maxRecDepth 100000 in
set_option maxHeartbeats 1000000 in
theorem sortBy_any (w : World) (al ar : Option Addr) (cl n cr : Nat) (l : List Nat) (r : Nat → Nat) (K : Nat) (hl : l.length ≤ 100000) (hK : K ≤ 100000) (hn : n ≤ 100000)
    (ha : Row w al l.length (natV l)) (hb : Row w ar n (fun p => .int .i64 ((r p : Nat) : Int))) (hx : ∀ x ∈ l, x < n) (hr : ∀ x ∈ l, r x < K) (hnd : l.Nodup) :
    Calls Try.prog 87 #[.slice al l.length cl, .slice ar n cr, .int .i64 K] w (IntsPost w (byK l r K)) := by
  have hixl := run_ix (P := Try.prog) 30 (by kernel_rfl) size_int al l.length cl ha.at_ .i64
  have hixr := run_ix (P := Try.prog) 30 (by kernel_rfl) size_int ar n cr hb.at_ .i64
  have hmk := make_int (K + 1) (by omega)
  have ec : ((K + 1 : Nat) : Int) = (K : Int) + 1 := by omega
  rw [ec] at hmk
  clear ec
  have HA := Lib.hid ha
  have HB := Lib.hid hb
  have HX := Lib.hid hx
  have HR := Lib.hid hr
  have HND := Lib.hid hnd
  have hset0 := World.rowIs_made w (.int .i64 0) (K + 1) 3
  have HS0 := Lib.hid hset0
  have HBS : Hid (Below w.heap.size w (w.alloc (.cells (madeCells #[.int .i64 0] (K + 1)) 3))) := (Below.refl _ _).alloc (Nat.le_refl _) _
  clear ha hb hx hr hnd hset0
  go_enter Try.func87, Try.ntmps87
  go_wp2
  clear hmk
  go_loopw [19] (fun ii wr => ∃ i : Nat, i ≤ l.length ∧ ii = .int .i64 i ∧ wr.rowIs w.heap.size 3 (K + 1) (fun c => .int .i64 ((cls1 l r i c : Nat) : Int)) ∧ Below w.heap.size w wr) (fun ii _ => l.length - (intOf ii).toNat)
  case atStart => exact ⟨0, Nat.zero_le _, rfl, HS0.out.congr fun c _ => by rw [cls1_zero]; rfl, HBS.out⟩
  case round =>
    obtain ⟨i, hi, rfl, hrow, hbw⟩ := hrel
    by_cases hlt : i < l.length
    · have d0 : wr.cell? ⟨bOf al, oOf al + i, none⟩ = some (.int .i64 ((l.getD i 0 : Nat) : Int)) := (HA.out.kept hbw).cell i hlt
      have hxm := getD_mem hlt
      have hx1 := HX.out _ hxm
      have hx2 := HR.out _ hxm
      have d1 := (HB.out.kept hbw).cell _ hx1
      have HN := Lib.hid (fun c => cls1_succ l r i c hlt)
      have hle := cls1_le l r i (r (l.getD i 0) + 1)
      generalize l.getD i 0 = x at *
      have d2 := hrow.cell (i := r x + 1) (by omega)
      have d3 := hrow.frozen (r x + 1)
      generalize r x = c at *
      generalize hy : cls1 l r i (c + 1) = y at *
      have q1 : (c : Int) < (K : Int) := by omega
      have q2 : (0 : Int) ≤ (c : Int) + 1 := by omega
      have q3 : ((c : Int) + 1).toNat = c + 1 := by omega
      have HROW := Lib.hid hrow
      have HBW := Lib.hid hbw
      clear hrow hbw hxm hy
      go_wp2
      go_roundw
      case rel => exact ⟨i + 1, by omega, by go_num, (HROW.out.set (c + 1) (.int .i64 ((y : Int) + 1))).congr fun j hj => by
        rw [HN.out j]
        by_cases ej : j = c + 1
        · simp [ej]
        · simp [ej], HBW.out.setCell (p := ⟨w.heap.size, c + 1, none⟩) (Nat.le_refl _) _⟩
      case measure => simp [intOf]; omega
    · obtain rfl : i = l.length := by omega
      have HROW := Lib.hid hrow
      have HBW := Lib.hid hbw
      clear hrow hbw HS0 HBS hi hlt
      obtain ⟨w1, hw1⟩ : ∃ w1 : World, w1 = wr := ⟨_, rfl⟩
      subst hw1
      have hd : decide ((l.length : Int) < l.length) = false := by simp
      go_wp2
      clear hd
      go_loopw [35] (fun ii wr => ∃ i : Nat, i ≤ K ∧ ii = .int .i64 i ∧ wr.rowIs w.heap.size 3 (K + 1) (fun c => .int .i64 ((cls2 l r i c : Nat) : Int)) ∧ Below w.heap.size w wr) (fun ii _ => K - (intOf ii).toNat)
      case atStart => exact ⟨0, Nat.zero_le _, rfl, HROW.out.congr fun c _ => by rw [cls2_zero], HBW.out⟩
      case round =>
        obtain ⟨i, hi, rfl, hrow, hbw⟩ := hrel
        by_cases hlt : i < K
        · have d1 := hrow.cell (i := i) (by omega)
          have d2 := hrow.cell (i := i + 1) (by omega)
          have d3 := hrow.frozen (i + 1)
          have hle1 := cls2_le l r i i
          have hle2 := cls2_le l r i (i + 1)
          have hs : below l r (i + 1) = cls2 l r i (i + 1) + cls2 l r i i := by rw [(cls2_at l r i).1, (cls2_at l r i).2, below_succ]; omega
          have HN := Lib.hid (fun c => cls2_succ l r i c)
          rw [hs] at HN
          clear hs
          generalize cls2 l r i i = x at *
          generalize cls2 l r i (i + 1) = y at *
          have q1 : (i : Int) < (K : Int) + 1 := by omega
          have q2 : (0 : Int) ≤ (i : Int) + 1 := by omega
          have q3 : ((i : Int) + 1).toNat = i + 1 := by omega
          have e0 : IntKind.i64.wrap ((i : Int) + 1) = (i : Int) + 1 := IntWalk.i64_in _ (by omega)
          have e1 : IntKind.i64.wrap ((y : Int) + (x : Int)) = (y : Int) + (x : Int) := IntWalk.i64_in _ (by omega)
          have HROW2 := Lib.hid hrow
          have HBW2 := Lib.hid hbw
          clear hrow hbw
          go_wp2
          go_region
          clear e0 e1
          go_wp2
          go_roundw
          case rel => exact ⟨i + 1, by omega, by go_num, ((HROW2.out.set (i + 1) (.int .i64 ((y : Int) + (x : Int)))).drew).congr fun j hj => by
            rw [HN.out j]
            by_cases ej : j = i + 1
            · simp [ej]
            · simp [ej], (HBW2.out.setCell (p := ⟨w.heap.size, i + 1, none⟩) (Nat.le_refl _) _).drew⟩
          case measure => simp [intOf]; omega
        · obtain rfl : i = K := by omega
          have hmk := make_int l.length (by omega)
          have hrow3 : wr.rowIs w.heap.size 3 (i + 1) (fun c => .int .i64 ((cls3 l r 0 c : Nat) : Int)) := hrow.congr fun c hc => by rw [cls2_end l r i c (by omega), cls3_zero]
          have hsz := hrow.lt
          have HS1 := Lib.hid (World.rowIs_made wr (.int .i64 0) l.length 3)
          have HR1 := Lib.hid (hrow3.alloc (.cells (madeCells #[.int .i64 0] l.length) 3))
          have HB1 : Hid (Below w.heap.size w (wr.alloc (.cells (madeCells #[.int .i64 0] l.length) 3))) := hbw.alloc (by omega) _
          clear hrow hrow3 hbw HROW HBW hi hlt
          obtain ⟨w2, hw2⟩ : ∃ w2 : World, w2 = wr := ⟨_, rfl⟩
          subst hw2
          have hd : decide ((i : Int) < i) = false := by simp
          go_wp2
          clear hd hmk
          go_loopw [55] (fun ii wr => ∃ j : Nat, j ≤ l.length ∧ ii = .int .i64 j ∧ wr.rowIs w.heap.size 3 (i + 1) (fun c => .int .i64 ((cls3 l r j c : Nat) : Int)) ∧ wr.rowIs w2.heap.size 3 l.length (fun p => .int .i64 ((outK l r i j p : Nat) : Int)) ∧ Below w.heap.size w wr) (fun ii _ => l.length - (intOf ii).toNat)
          case atStart => exact ⟨0, Nat.zero_le _, rfl, HR1.out, HS1.out.congr fun c _ => by rw [outK_zero]; rfl, HB1.out⟩
          case round =>
            obtain ⟨j, hj, rfl, hrow, hout, hbw⟩ := hrel
            by_cases hlt : j < l.length
            · have d0 : wr.cell? ⟨bOf al, oOf al + j, none⟩ = some (.int .i64 ((l.getD j 0 : Nat) : Int)) := (HA.out.kept hbw).cell j hlt
              have hxm := getD_mem hlt
              have hx1 := HX.out _ hxm
              have hx2 := HR.out _ hxm
              have d1 := (HB.out.kept hbw).cell _ hx1
              have HN := Lib.hid (fun c => cls3_succ l r j c hlt)
              have HNO := Lib.hid (outK_succ l r i HND.out HR.out j hlt)
              have hpl := posK_lt l r i HR.out j hlt
              have d2 := hrow.cell (i := r (l.getD j 0)) (by omega)
              rw [cls3_at] at d2
              have d3 := hrow.frozen (r (l.getD j 0))
              have d4 := hout.cell (i := posK l r j) hpl
              have d5 := hout.frozen (posK l r j)
              generalize posK l r j = y at *
              generalize l.getD j 0 = x at *
              generalize r x = c at *
              generalize outK l r i j y = o at *
              have q1 : (c : Int) < (i : Int) + 1 := by omega
              have hne : w2.heap.size ≠ w.heap.size := by omega
              have hra : bOf ar < w.heap.size := HB.out.lt (by omega)
              have d6 : (wr.setCell ⟨w2.heap.size, y, none⟩ (.int .i64 (x : Int))).cell? ⟨w.heap.size, c, none⟩ = some (.int .i64 (y : Int)) := (World.cell?_of_block (w := wr) (a := ⟨w.heap.size, c, none⟩) (Below.heap_setCell _ _ _ _ (by show w.heap.size ≠ w2.heap.size; omega))).trans d2
              have d7 : (wr.setCell ⟨w2.heap.size, y, none⟩ (.int .i64 (x : Int))).cell? ⟨bOf ar, oOf ar + x, none⟩ = some (.int .i64 (c : Int)) := (World.cell?_of_block (w := wr) (a := ⟨bOf ar, oOf ar + x, none⟩) (Below.heap_setCell _ _ _ _ (by show bOf ar ≠ w2.heap.size; omega))).trans d1
              have HROW2 := Lib.hid hrow
              have HOUT2 := Lib.hid hout
              have HBW2 := Lib.hid hbw
              clear hrow hbw hout
              go_wp2
              go_roundw
              case rel =>
                refine ⟨j + 1, by omega, by go_num, ?_, ?_, (HBW2.out.setCell (p := ⟨w2.heap.size, y, none⟩) (by show w.heap.size ≤ w2.heap.size; omega) _).setCell (p := ⟨w.heap.size, c, none⟩) (Nat.le_refl _) _⟩
                · refine ((HROW2.out.setOther (a := ⟨w2.heap.size, y, none⟩) hne.symm _).set c (.int .i64 ((y : Int) + 1))).congr fun j' hj' => ?_
                  rw [HN.out j']
                  by_cases ej : j' = c
                  · simp [ej]
                  · simp [ej]
                · refine ((HOUT2.out.set y (.int .i64 (x : Int))).setOther (a := ⟨w.heap.size, c, none⟩) hne _).congr fun j' hj' => ?_
                  rw [HNO.out j' hj']
                  by_cases ej : j' = y
                  · simp [ej]
                  · simp [ej]
              case measure => simp [intOf]; omega
            · obtain rfl : j = l.length := by omega
              have HOUT2 := Lib.hid hout
              have HBW2 := Lib.hid hbw
              clear hrow hbw hout
              have hd : decide ((l.length : Int) < l.length) = false := by simp
              go_wp2
              go_ret
              have hlen : (byK l r i).length = l.length := by rw [byK_length, below_all l r i HR.out]
              refine ⟨some ⟨w2.heap.size, 0, none⟩, l.length, by rw [hlen]; rfl, ?_, HBW2.out, .inr (by show w.heap.size ≤ w2.heap.size; omega)⟩
              rw [hlen]
              exact (Row.of_row HOUT2.out (Nat.le_refl _)).congr fun p hp => by rw [outK_all l r i HR.out p hp]
/-- the first places of second -/
theorem make_cap (N : Nat) (h : N ≤ 1000000) : ∀ W : World, (Instr.makeSlice 30 (.int .i64 0) (.int .i64 (N : Int))).run Try.prog W = .ok (.slice (some ⟨W.heap.size, 0, none⟩) 0 N) (W.alloc (.cells (madeCells #[.int .i64 0] N) 3)) := by
  intro W
  obtain ⟨i0, hi, hz0, hz1, hz2⟩ := info_parts info_int
  have := run_make (P := Try.prog) W 30 3 i0 _ Try.underlying30 hi hz0 .i64 .i64 0 N (by omega) (by omega) (by rw [hz2]; omega) (by omega)
  rw [hz1] at this
  simpa [Value.cells] using this
abbrev intVs (l : List Nat) : List Value := l.map fun x : Nat => Value.int .i64 (x : Int)
theorem owns_natV {w : World} {base cap : Nat} {a : Option Addr} {l : List Nat} (h : w.ownsRow base 3 1 (.slice a l.length cap) l.length (intVs l)) : Row w a l.length (natV l) ∧ (l.length = 0 ∨ base ≤ bOf a) := by
  obtain ⟨h1, h2⟩ := owns_row h
  exact ⟨h1.congr fun k hk => by simp [List.getD_eq_getElem?_getD, hk], h2⟩
/-- second's row behind its first loop / behind i of the second one's rounds -/
def snd1 (n k i : Nat) : List Nat := (List.range i).map fun j => n - k + j
def snd2 (sa : List Nat) (n k i : Nat) : List Nat := snd1 n k k ++ ((sa.take i).filter fun p => decide (k ≤ p)).map fun p => p - k
theorem snd1_zero (n k : Nat) : snd1 n k 0 = [] := rfl
theorem snd1_succ (n k i : Nat) : snd1 n k (i + 1) = snd1 n k i ++ [n - k + i] := by simp [snd1, List.range_succ]
theorem snd1_len (n k i : Nat) : (snd1 n k i).length = i := by simp [snd1]
theorem snd2_zero (sa : List Nat) (n k : Nat) : snd2 sa n k 0 = snd1 n k k := by simp [snd2]
theorem snd2_succ (sa : List Nat) (n k i : Nat) (hi : i < sa.length) : snd2 sa n k (i + 1) = if k ≤ sa.getD i 0 then snd2 sa n k i ++ [sa.getD i 0 - k] else snd2 sa n k i := by
  unfold snd2
  rw [take_succ_getD sa i hi, List.filter_append, List.map_append]
  generalize sa.getD i 0 = x
  by_cases e : k ≤ x
  · rw [if_pos e]; simp [e]
  · rw [if_neg e]; simp [e]
theorem snd2_len (sa : List Nat) (n k i : Nat) : (snd2 sa n k i).length ≤ k + i := by
  unfold snd2
  rw [List.length_append, snd1_len, List.length_map]
  have h1 := List.length_filter_le (fun p => decide (k ≤ p)) (sa.take i)
  have h2 : (sa.take i).length ≤ i := List.length_take_le _ _
  omega
theorem snd2_all (sa : List Nat) (k : Nat) : snd2 sa sa.length k sa.length = sndK sa sa.length k := by
  unfold snd2 snd1 sndK; rw [List.take_length]
attribute [irreducible] snd1 snd2

set_option maxRecDepth 100000 in
set_option maxHeartbeats 1000000 in
theorem second_any (w : World) (a : Option Addr) (cap : Nat) (sa : List Nat) (k : Nat) (hl : sa.length ≤ 100000) (hk : k ≤ sa.length) (ha : Row w a sa.length (natV sa)) (hx : ∀ x ∈ sa, x < sa.length) :
    Calls Try.prog 88 #[.slice a sa.length cap, .int .i64 k] w (IntsPost w (sndK sa sa.length k)) := by
  have hix := run_ix (P := Try.prog) 30 (by kernel_rfl) size_int a sa.length cap ha.at_ .i64
  have hmk := make_cap sa.length (by omega)
  have HA := Lib.hid ha
  have HX := Lib.hid hx
  have HB0 : Hid (Below w.heap.size w (w.alloc (.cells (madeCells #[.int .i64 0] sa.length) 3))) := (Below.refl _ _).alloc (Nat.le_refl _) _
  have HO0 : Hid ((w.alloc (.cells (madeCells #[.int .i64 0] sa.length) 3)).ownsRow w.heap.size 3 1 (.slice (some ⟨w.heap.size, 0, none⟩) 0 sa.length) 0 []) := World.ownsRow_made w _ sa.length (Nat.le_refl _) (by simp only [maxLen]; omega) (by rw [size_madeCells, Nat.mul_one])
  obtain ⟨i0, hi0, hz0, hz1, hz2⟩ := info_parts info_int
  obtain ⟨m, hm⟩ : ∃ m, m = sa.length - k := ⟨_, rfl⟩
  have em : (sa.length : Int) - (k : Int) = (m : Int) := by omega
  have hmk2 : m + k = sa.length := by omega
  have HM := Lib.hid hm
  have HMK := Lib.hid hmk2
  have hml : m ≤ sa.length := by omega
  clear ha hx hm hmk2
  go_enter Try.func88, Try.ntmps88
  go_wp2
  clear hmk em
  go_loopw [5, 6] (fun v ii wr => ∃ i : Nat, i ≤ k ∧ ii = .int .i64 ((m + i : Nat) : Int) ∧ wr.ownsRow w.heap.size 3 1 v i (intVs (snd1 sa.length k i)) ∧ Below w.heap.size w wr) (fun _ ii _ => sa.length - (intOf ii).toNat)
  case atStart => exact ⟨0, Nat.zero_le _, rfl, by rw [snd1_zero]; exact HO0.out, HB0.out⟩
  case round =>
    obtain ⟨i, hi, rfl, hown, hbel⟩ := hrel
    have hs := hbel.size
    have HO := Lib.hid hown
    have HB := Lib.hid hbel
    clear hown hbel
    by_cases hlt : i < k
    · have hlt2 : m + i < sa.length := by have := HMK.out; omega
      have hfin : snd1 sa.length k (i + 1) = snd1 sa.length k i ++ [m + i] := by rw [snd1_succ, HM.out]
      have HFIN := Lib.hid hfin
      clear hfin
      obtain ⟨q, hq⟩ : ∃ q, q = m + i := ⟨_, rfl⟩
      rw [← hq] at HFIN hlt2
      have HQ := Lib.hid hq
      rw [← hq]
      clear hq
      go_wp2_with (at_builtin; refine wpList_append_own _ rfl _ _ 30 rfl w.heap.size 3 i0 (.int .i64 0) 1 8 Try.underlying30 hi0 hz0 hz1 hz2 rfl (by decide) _ _ _ rfl (HO.out.alloc _) ⟨wr.heap.size, 0, none⟩ 1 1 [.int .i64 (q : Int)] rfl rfl (cell_one_new _ _ _) (by simp [Value.oneCell']) (by simp only [maxLen]; omega) (by omega) (by simp; omega) ?_; intro v' w1 hown' hgrow _)
      have hlt' := HO.out.lt
      have ho1 : w1.ownsRow w.heap.size 3 1 v' (i + 1) (intVs (snd1 sa.length k (i + 1))) := by rw [HFIN.out]; simpa [intVs] using hown'
      have HO1 := Lib.hid ho1
      clear ho1
      have HB1 : Hid (Below w.heap.size w w1) := (HB.out.alloc hs _).grown hgrow (by simp; omega) (fun g hg => (hlt' g hg).1)
      clear hown' hgrow hlt'
      go_wp2
      go_roundw
      case rel => exact ⟨i + 1, by omega, by rw [HQ.out]; go_num, HO1.out, HB1.out⟩
      case measure => simp [intOf]; omega
    · obtain rfl : i = k := by omega
      have hd : decide (((m + i : Nat) : Int) < sa.length) = false := by have := HMK.out; simp; omega
      clear HO0 HB0
      obtain ⟨w2, hw2⟩ : ∃ w2 : World, w2 = wr := ⟨_, rfl⟩
      subst hw2
      have e0 : ((m + i : Nat) : Int) = (sa.length : Int) := by have := HMK.out; omega
      rw [e0]
      clear e0 hd
      have hd : decide ((sa.length : Int) < sa.length) = false := by simp
      have hsl := snd1_len sa.length i i
      have HSL := Lib.hid hsl
      clear hsl
      go_wp2
      go_loopw [5, 28] (fun v ii wr => ∃ j : Nat, j ≤ sa.length ∧ ii = .int .i64 j ∧ wr.ownsRow w.heap.size 3 1 v (snd2 sa sa.length i j).length (intVs (snd2 sa sa.length i j)) ∧ Below w.heap.size w wr) (fun _ ii _ => sa.length - (intOf ii).toNat)
      case atStart => exact ⟨0, Nat.zero_le _, rfl, by rw [snd2_zero, HSL.out]; exact HO.out, HB.out⟩
      case round =>
        obtain ⟨j, hj, rfl, hown, hbel⟩ := hrel
        have hs2 := hbel.size
        by_cases hlt2 : j < sa.length
        · have d0 : wr.cell? ⟨bOf a, oOf a + j, none⟩ = some (.int .i64 ((sa.getD j 0 : Nat) : Int)) := (HA.out.kept hbel).cell j hlt2
          have hxx := HX.out _ (getD_mem hlt2)
          have hst := snd2_succ sa sa.length i j hlt2
          have hll := snd2_len sa sa.length i j
          generalize sa.getD j 0 = x at *
          have HO := Lib.hid hown
          have HB := Lib.hid hbel
          by_cases hx : i ≤ x
          · rw [if_pos hx] at hst
            have HST := Lib.hid hst
            obtain ⟨q, hq⟩ : ∃ q : Nat, (x : Int) - (i : Int) = (q : Int) := ⟨x - i, by omega⟩
            have hq2 : q = x - i := by omega
            have HQ := Lib.hid hq2
            generalize snd2 sa sa.length i j = L at *
            clear hst hown hbel hq2
            go_wp2_with (at_builtin; refine wpList_append_own _ rfl _ _ 30 rfl w.heap.size 3 i0 (.int .i64 0) 1 8 Try.underlying30 hi0 hz0 hz1 hz2 rfl (by decide) _ _ _ rfl (HO.out.alloc _) ⟨wr.heap.size, 0, none⟩ 1 1 [.int .i64 (q : Int)] rfl rfl (cell_one_new _ _ _) (by simp [Value.oneCell']) (by simp only [maxLen]; omega) (by omega) (by simp; omega) ?_; intro v' w1 hown' hgrow _)
            have hlt' := HO.out.lt
            have ho1 : w1.ownsRow w.heap.size 3 1 v' (snd2 sa sa.length i (j + 1)).length (intVs (snd2 sa sa.length i (j + 1))) := by rw [HST.out, ← HQ.out]; simpa [intVs] using hown'
            have HO1 := Lib.hid ho1
            have HB1 : Hid (Below w.heap.size w w1) := (HB.out.alloc hs2 _).grown hgrow (by simp; omega) (fun g hg => (hlt' g hg).1)
            clear hown' hgrow hlt' ho1 hq
            go_wp2
            go_roundw
            case rel => exact ⟨j + 1, by omega, by go_num, HO1.out, HB1.out⟩
            case measure => simp [intOf]; omega
          · rw [if_neg hx] at hst
            have HST := Lib.hid hst
            clear hst hown hbel
            go_wp2
            go_roundw
            case rel => exact ⟨j + 1, by omega, by go_num, by rw [HST.out]; exact HO.out, HB.out⟩
            case measure => simp [intOf]; omega
        · obtain rfl : j = sa.length := by omega
          have hd : decide ((sa.length : Int) < sa.length) = false := by simp
          rw [snd2_all] at hown
          obtain ⟨a', cap', rfl, _⟩ := Row.of_owns hown
          have HO2 := Lib.hid (owns_natV hown)
          have HB2 := Lib.hid hbel
          clear hown hbel
          go_wp2
          go_ret
          exact ⟨a', cap', rfl, HO2.out.1, HB2.out, HO2.out.2⟩
/-- what ranks' own function tells -/
theorem behind_any (w : World) (bk br : Nat) (ar : Option Addr) (n cr k p : Nat) (r : Nat → Nat) (hn : n ≤ 100000) (hk : k ≤ 100000) (hp : p < n)
    (ck : w.cell? ⟨bk, 0, none⟩ = some (.int .i64 k)) (cb : w.cell? ⟨br, 0, none⟩ = some (.slice ar n cr)) (hr : Row w ar n (fun p => .int .i64 ((r p : Nat) : Int))) :
    Calls Try.prog 102 #[.int .i64 p, .pointer (some ⟨bk, 0, none⟩), .pointer (some ⟨br, 0, none⟩)] w fun e w' => e = .returned (.int .i64 (behK r n k p)) ∧ ∃ j, w' = w.drewN j := by
  have hix := run_ix (P := Try.prog) 30 (by kernel_rfl) size_int ar n cr hr.at_ .i64
  by_cases h : p + k < n
  · have d := hr.cell _ h
    have e : behK r n k p = (r (p + k) : Int) := by unfold behK; rw [if_pos h]
    rw [e]
    have hix2 := fun W => hix W (p + k) h
    rw [Int.natCast_add] at hix2
    generalize r (p + k) = x at *
    have q : (p : Int) + (k : Int) < n := by omega
    clear hr e hix
    go_enter Try.func102, Try.ntmps102
    go_wp2
    go_ret
    exact ⟨rfl, 0, rfl⟩
  · have e : behK r n k p = -1 := by unfold behK; rw [if_neg h]
    rw [e]
    have q : ¬ (p : Int) + (k : Int) < n := by omega
    clear hr e hix
    go_enter Try.func102, Try.ntmps102
    go_wp2
    go_ret
    exact ⟨rfl, 0, rfl⟩
def RanksPost (w : World) (n : Nat) (cls : Nat → Nat) (K : Nat) (e : Ending) (w' : World) : Prop :=
  ∃ a cap, e = .returned (.tuple #[.slice a n cap, .int .i64 (K : Int)]) ∧ Row w' a n (fun p => .int .i64 ((cls p : Nat) : Int)) ∧ Below w.heap.size w w'
set_option maxRecDepth 100000 in
set_option maxHeartbeats 1000000 in
theorem ranks_any (w : World) (a ar : Option Addr) (ca cr : Nat) (sa : List Nat) (r : Nat → Nat) (k : Nat) (hl : sa.length ≤ 100000) (h1 : 1 ≤ sa.length) (hk : k ≤ 100000)
    (ha : Row w a sa.length (natV sa)) (hb : Row w ar sa.length (fun p => .int .i64 ((r p : Nat) : Int))) (hx : ∀ x ∈ sa, x < sa.length) (hnd : sa.Nodup) (hall : ∀ x, x < sa.length → x ∈ sa) :
    Calls Try.prog 89 #[.slice a sa.length ca, .slice ar sa.length cr, .int .i64 k] w (RanksPost w sa.length (clsK (difK r sa.length k) sa) (chg (difK r sa.length k) sa (sa.length - 1) + 1)) := by
  have hixa := run_ix (P := Try.prog) 30 (by kernel_rfl) size_int a sa.length ca ha.at_ .i64
  have hixr := run_ix (P := Try.prog) 30 (by kernel_rfl) size_int ar sa.length cr hb.at_ .i64
  have hmk := make_int sa.length (by omega)
  obtain ⟨W0, hW0⟩ : ∃ W0 : World, W0 = (w.alloc (.cells #[.slice ar sa.length cr] 30)).alloc (.cells #[.int .i64 k] 3) := ⟨_, rfl⟩
  have hB0 : Below w.heap.size w W0 := by rw [hW0]; exact ((Below.refl _ _).alloc (Nat.le_refl _) _).alloc (by simp) _
  have hc1 : W0.cell? ⟨w.heap.size, 0, none⟩ = some (.slice ar sa.length cr) := by rw [hW0]; simp
  have hc2 : W0.cell? ⟨w.heap.size + 1, 0, none⟩ = some (.int .i64 k) := by rw [hW0]; simp
  have hs0 : W0.heap.size = w.heap.size + 1 + 1 := by rw [hW0]; simp
  have HA := Lib.hid (ha.kept hB0)
  have HB := Lib.hid (hb.kept hB0)
  have HX := Lib.hid hx
  have HND := Lib.hid hnd
  have HALL := Lib.hid hall
  have HC1 := Lib.hid hc1
  have HC2 := Lib.hid hc2
  have HS0 := Lib.hid hs0
  have HBB := Lib.hid hB0
  have hr0 := World.rowIs_made W0 (.int .i64 0) sa.length 3
  have hb1 : Below W0.heap.size W0 (W0.alloc (.cells (madeCells #[.int .i64 0] sa.length) 3)) := (Below.refl _ _).alloc (Nat.le_refl _) _
  rw [hs0] at hr0 hb1
  have HR0 := Lib.hid hr0
  have HB1 := Lib.hid hb1
  have HW0 := Lib.hid hW0
  clear hr0 hb1
  clear ha hb hx hnd hall hc1 hc2 hs0 hB0 hW0
  go_enter Try.func89, Try.ntmps89
  go_wp2
  clear hmk
  rw [← HW0.out]
  clear HW0
  have hd0 := chg_zero (difK r sa.length k) sa
  have hdl := chg_le (difK r sa.length k) sa
  generalize hdd : difK r sa.length k = d at *
  have HDD := Lib.hid hdd
  have HD0 := Lib.hid hd0
  have HDL := Lib.hid hdl
  clear hdd hd0 hdl
  go_loopw [7, 18] (fun kk ii wr => ∃ i : Nat, i ≤ sa.length ∧ ii = .int .i64 i ∧ kk = .int .i64 ((chg d sa (i - 1) : Nat) : Int) ∧ wr.rowIs (w.heap.size + 1 + 1) 3 sa.length (fun p => .int .i64 ((nxtK d sa i p : Nat) : Int)) ∧ Below (w.heap.size + 1 + 1) W0 wr) (fun _ ii _ => sa.length - (intOf ii).toNat)
  case atStart => exact ⟨0, Nat.zero_le _, rfl, by rw [HD0.out]; rfl, HR0.out.congr fun c _ => by rw [nxtK_zero]; rfl, HB1.out⟩
  case round =>
    obtain ⟨i, hi, rfl, rfl, hrow, hbw⟩ := hrel
    have hbw2 : Below W0.heap.size W0 wr := by rw [HS0.out]; exact hbw
    by_cases hlt : i < sa.length
    · have d0 : wr.cell? ⟨bOf a, oOf a + i, none⟩ = some (.int .i64 ((sa.getD i 0 : Nat) : Int)) := (HA.out.kept hbw2).cell i hlt
      have hpx := HX.out _ (getD_mem hlt)
      have HNX := Lib.hid (fun j => nxtK_succ d sa HND.out i hlt j)
      have d4 := hrow.cell (i := sa.getD i 0) hpx
      have d5 := hrow.frozen (sa.getD i 0)
      have dr := (HB.out.kept hbw2).cell _ hpx
      have hcl := HDL.out i
      have HROW := Lib.hid hrow
      have HBW := Lib.hid hbw
      clear hrow hbw
      by_cases h0 : i = 0
      · have hk1 : chg d sa (i - 1) = chg d sa i := by rw [h0]
        rw [hk1]
        have hni : ¬ (0 : Int) < (i : Int) := by omega
        obtain ⟨y, hy⟩ : ∃ y, y = chg d sa i := ⟨_, rfl⟩
        rw [← hy]
        have HCY := Lib.hid hy.symm
        rw [← hy] at hcl
        generalize sa.getD i 0 = p at *
        generalize nxtK d sa i p = o at *
        clear hbw2 h0 hk1 hy
        go_wp2
        go_roundw
        case rel =>
          refine ⟨i + 1, by omega, by go_num, by (rw [Nat.add_sub_cancel, HCY.out]) <;> go_num, ?_, (below_drewN HBW.out 0).setCell (p := ⟨w.heap.size + 1 + 1, p, none⟩) (Nat.le_refl _) _⟩
          refine ((row_drewN HROW.out 0).set p (.int .i64 (y : Int))).congr fun j hj => ?_
          rw [HNX.out j]
          by_cases ej : j = p
          · (rw [if_pos ej, if_pos ej, HCY.out]) <;> go_num
          · rw [if_neg ej, if_neg ej]
        case measure => simp [intOf]; omega
      · obtain ⟨m, hm⟩ : ∃ m, m = i - 1 := ⟨_, rfl⟩
        have em : (i : Int) - 1 = (m : Int) := by omega
        have hmi : i = m + 1 := by omega
        have hml : m < sa.length := by omega
        have hpos : (0 : Int) < (i : Int) := by omega
        have dq : wr.cell? ⟨bOf a, oOf a + m, none⟩ = some (.int .i64 ((sa.getD m 0 : Nat) : Int)) := (HA.out.kept hbw2).cell m hml
        have hqx := HX.out _ (getD_mem hml)
        have drq := (HB.out.kept hbw2).cell _ hqx
        have HCS : Hid (chg d sa i = chg d sa m + (d (sa.getD i 0) (sa.getD m 0)).toNat) := by rw [hmi]; exact chg_succ d sa m
        have hcl2 := HDL.out m
        have HRW := Lib.hid (HB.out.kept hbw2)
        have c1 : wr.cell? ⟨w.heap.size, 0, none⟩ = some (.slice ar sa.length cr) := (hbw2.cell (p := ⟨w.heap.size, 0, none⟩) (by show w.heap.size < _; have := HS0.out; omega)).trans HC1.out
        have HC2' : Hid (wr.cell? ⟨w.heap.size + 1, 0, none⟩ = some (.int .i64 k)) := (hbw2.cell (p := ⟨w.heap.size + 1, 0, none⟩) (by show w.heap.size + 1 < _; have := HS0.out; omega)).trans HC2.out
        have HC1' := Lib.hid c1
        rw [← hm]
        have hdy := difK_yes r sa.length k (sa.getD i 0) (sa.getD m 0)
        have hdn := difK_no r sa.length k (sa.getD i 0) (sa.getD m 0)
        rw [HDD.out] at hdy hdn
        clear hbw2 h0 hm hmi
        generalize sa.getD i 0 = p at *
        generalize sa.getD m 0 = q at *
        generalize nxtK d sa i p = o at *
        by_cases hrr : r p = r q
        · have hdn := hdn hrr
          rw [← hrr] at drq
          have HBH := fun (nq x : Nat) (hx : x < sa.length) => Lib.hid (behind_any (wr.drewN nq) (w.heap.size + 1) w.heap.size ar sa.length cr k x r (by omega) hk hx HC2'.out HC1'.out (HRW.out.drewN _))
          by_cases hbb : behK r sa.length k p = behK r sa.length k q
          · rw [hbb, bne_self_eq_false] at hdn
            rw [hdn, Bool.toNat_false, Nat.add_zero] at HCS
            have hbb2 : (behK r sa.length k p != behK r sa.length k q) = false := by rw [hbb, bne_self_eq_false]
            generalize hcy : chg d sa m = y at *
            have HCY : Hid (chg d sa i = y) := HCS.out
            generalize r p = x at *
            clear hdn hdy hrr hcy hbb
            go_wp2
            go_quiet ((go_at_call 102; exact Calls.quiet_of (HBH _ _ (by omega)).out))
            clear hbb2
            go_wp2
            go_roundw
            case rel =>
              refine ⟨i + 1, by omega, by go_num, by (rw [Nat.add_sub_cancel, HCY.out]) <;> go_num, ?_, (below_drewN HBW.out _).setCell (p := ⟨w.heap.size + 1 + 1, p, none⟩) (Nat.le_refl _) _⟩
              refine ((row_drewN HROW.out _).set p (.int .i64 (y : Int))).congr fun j hj => ?_
              rw [HNX.out j]
              by_cases ej : j = p
              · (rw [if_pos ej, if_pos ej, HCY.out]) <;> go_num
              · rw [if_neg ej, if_neg ej]
            case measure => simp [intOf]; omega
          · have hbb2 : (behK r sa.length k p != behK r sa.length k q) = true := by simpa using hbb
            rw [hbb2] at hdn
            rw [hdn, Bool.toNat_true] at HCS
            generalize hcy : chg d sa m = y at *
            have HCY : Hid (chg d sa i = y + 1) := HCS.out
            generalize r p = x at *
            clear hdn hdy hrr hcy hbb
            go_wp2
            go_quiet ((go_at_call 102; exact Calls.quiet_of (HBH _ _ (by omega)).out))
            clear hbb2
            go_wp2
            go_roundw
            case rel =>
              refine ⟨i + 1, by omega, by go_num, by (rw [Nat.add_sub_cancel, HCY.out]) <;> go_num, ?_, (below_drewN HBW.out _).setCell (p := ⟨w.heap.size + 1 + 1, p, none⟩) (Nat.le_refl _) _⟩
              refine ((row_drewN HROW.out _).set p (.int .i64 ((y : Int) + 1))).congr fun j hj => ?_
              rw [HNX.out j]
              by_cases ej : j = p
              · (rw [if_pos ej, if_pos ej, HCY.out]) <;> go_num
              · rw [if_neg ej, if_neg ej]
            case measure => simp [intOf]; omega
        · have hdy := hdy hrr
          rw [hdy, Bool.toNat_true] at HCS
          generalize hcy : chg d sa m = y at *
          have HCY : Hid (chg d sa i = y + 1) := HCS.out
          have g1 : ((r p : Int) != (r q : Int)) = true := by simp; omega
          generalize r p = x at *
          generalize r q = x2 at *
          clear hdn hdy hrr hcy
          go_wp2
          go_quiet (fail)
          clear g1
          go_wp2
          go_roundw
          case rel =>
            refine ⟨i + 1, by omega, by go_num, by (rw [Nat.add_sub_cancel, HCY.out]) <;> go_num, ?_, (below_drewN HBW.out _).setCell (p := ⟨w.heap.size + 1 + 1, p, none⟩) (Nat.le_refl _) _⟩
            refine ((row_drewN HROW.out _).set p (.int .i64 ((y : Int) + 1))).congr fun j hj => ?_
            rw [HNX.out j]
            by_cases ej : j = p
            · (rw [if_pos ej, if_pos ej, HCY.out]) <;> go_num
            · rw [if_neg ej, if_neg ej]
          case measure => simp [intOf]; omega
    · obtain rfl : i = sa.length := by omega
      have HROW := Lib.hid hrow
      have HBW := Lib.hid hbw
      have hcl := HDL.out (sa.length - 1)
      have hd : decide ((sa.length : Int) < sa.length) = false := by simp
      obtain ⟨y, hy⟩ : ∃ y, y = chg d sa (sa.length - 1) := ⟨_, rfl⟩
      rw [← hy]
      rw [← hy] at hcl
      have HY := Lib.hid hy
      clear hrow hbw hbw2 hy
      go_wp2
      go_ret2
      refine ⟨some ⟨w.heap.size + 1 + 1, 0, none⟩, sa.length, by rw [← HY.out]; rfl, ?_, HBB.out.trans (HBW.out.mono (by omega))⟩
      exact (Row.of_row HROW.out (Nat.le_refl _)).congr fun p hp => by rw [nxtK_all d sa p (HALL.out p hp)]
end Go.Proofs.Ytjpoebmjfedecaa
