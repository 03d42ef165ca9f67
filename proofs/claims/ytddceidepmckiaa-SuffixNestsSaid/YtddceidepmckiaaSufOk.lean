/-
  suffix.Inverse and suffix.Ok at an order that is right.
-/
import Derived.Test.YtddceidepmckiaaSufLaw
namespace Go.Proofs.Ytddceidepmckiaa
open Go.RowKit

theorem info_bool : (Try.prog.info? 4).map (fun i => (i.zero, i.size, i.bytes)) = some (some (.bool false), 1, 1) := by kernel_rfl
theorem make_bools (N : Nat) (h : N ≤ 1000000) : ∀ W : World, (Instr.makeSlice 74 (.int .i64 (N : Int)) (.int .i64 (N : Int))).run Try.prog W = .ok (.slice (some ⟨W.heap.size, 0, none⟩) N N) (W.alloc (.cells (madeCells #[.bool false] N) 4)) := by
  intro W
  obtain ⟨i0, hi, hz0, hz1, hz2⟩ := info_parts info_bool
  have := run_make (P := Try.prog) W 74 4 i0 _ Try.underlying74 hi hz0 .i64 .i64 N N (by omega) (by omega) (by rw [hz2]; omega) (by omega)
  rw [hz1] at this
  simpa [Value.cells] using this
/-- where places stand, behind i of them -/
def invK (sa : List Nat) (i p : Nat) : Nat := if p ∈ sa.take i then sa.idxOf p else 0
def seenK (sa : List Nat) (i p : Nat) : Bool := decide (p ∈ sa.take i)
theorem invK_zero (sa : List Nat) (p : Nat) : invK sa 0 p = 0 := by unfold invK; simp
theorem seenK_zero (sa : List Nat) (p : Nat) : seenK sa 0 p = false := by unfold seenK; simp
theorem seenK_at (sa : List Nat) (hn : sa.Nodup) (i : Nat) (hi : i < sa.length) : seenK sa i (sa.getD i 0) = false := by
  unfold seenK
  rw [decide_eq_false_iff_not]
  intro h
  obtain ⟨j, hj, e⟩ := List.getElem_of_mem h
  rw [List.length_take] at hj
  have h1 : sa[j]? = some (sa.getD i 0) := by
    rw [List.getElem_take] at e
    rw [List.getElem?_eq_getElem (by omega), e]
  have h2 : sa[i]? = some (sa.getD i 0) := by rw [List.getD_eq_getElem?_getD, List.getElem?_eq_getElem hi]; rfl
  have := nodup_getElem? hn h1 h2
  omega
theorem mem_take_succ (sa : List Nat) (i p : Nat) (hi : i < sa.length) : p ∈ sa.take (i + 1) ↔ p ∈ sa.take i ∨ p = sa.getD i 0 := by
  rw [take_succ_getD sa i hi, List.mem_append, List.mem_singleton]
theorem invK_succ (sa : List Nat) (hn : sa.Nodup) (i : Nat) (hi : i < sa.length) (p : Nat) : invK sa (i + 1) p = if p = sa.getD i 0 then i else invK sa i p := by
  unfold invK
  by_cases e : p = sa.getD i 0
  · rw [if_pos e, if_pos ((mem_take_succ sa i p hi).2 (.inr e)), e, idxOf_getD hn i hi]
  · rw [if_neg e]
    by_cases h : p ∈ sa.take i
    · rw [if_pos h, if_pos ((mem_take_succ sa i p hi).2 (.inl h))]
    · rw [if_neg h, if_neg (fun h2 => ((mem_take_succ sa i p hi).1 h2).elim h e)]
theorem seenK_succ (sa : List Nat) (i : Nat) (hi : i < sa.length) (p : Nat) : seenK sa (i + 1) p = if p = sa.getD i 0 then true else seenK sa i p := by
  unfold seenK
  by_cases e : p = sa.getD i 0
  · rw [if_pos e, decide_eq_true ((mem_take_succ sa i p hi).2 (.inr e))]
  · rw [if_neg e, decide_eq_decide, mem_take_succ sa i p hi]
    exact ⟨fun h => h.elim id (fun h => (e h).elim), .inl⟩
theorem invK_all (sa : List Nat) (p : Nat) (h : p ∈ sa) : invK sa sa.length p = sa.idxOf p := by unfold invK; rw [List.take_length, if_pos h]
attribute [irreducible] invK seenK
def InvPost (w : World) (n : Nat) (sa : List Nat) (e : Ending) (w' : World) : Prop :=
  ∃ a cap, e = .returned (.tuple #[.slice a n cap, .bool true]) ∧ Row w' a n (fun p => .int .i64 ((sa.idxOf p : Nat) : Int)) ∧ Below w.heap.size w w'
set_option maxRecDepth 100000 in
set_option maxHeartbeats 1000000 in
theorem inverse_any (w : World) (a : Option Addr) (cap : Nat) (sa : List Nat) (hl : sa.length ≤ 100000) (ha : Row w a sa.length (natV sa)) (hx : ∀ x, x ∈ sa ↔ x < sa.length) (hnd : sa.Nodup) :
    Calls Try.prog 52 #[.slice a sa.length cap] w (InvPost w sa.length sa) := by
  have hix := run_ix (P := Try.prog) 28 (by kernel_rfl) size_int a sa.length cap ha.at_ .i64
  have hmk1 := make_int sa.length (by omega)
  have hmk2 := make_bools sa.length (by omega)
  obtain ⟨W1, hW1⟩ : ∃ W1 : World, W1 = w.alloc (.cells (madeCells #[.int .i64 0] sa.length) 3) := ⟨_, rfl⟩
  have hs1 : W1.heap.size = w.heap.size + 1 := by rw [hW1]; simp
  have r1 := World.rowIs_made w (.int .i64 0) sa.length 3
  rw [← hW1] at r1
  have r2 := World.rowIs_made W1 (.bool false) sa.length 4
  rw [hs1] at r2
  have hb : Below w.heap.size w (W1.alloc (.cells (madeCells #[.bool false] sa.length) 4)) := by rw [hW1]; exact ((Below.refl _ _).alloc (Nat.le_refl _) _).alloc (by simp) _
  have HA := Lib.hid ha
  have HX := Lib.hid hx
  have HND := Lib.hid hnd
  have HR1 := Lib.hid (r1.alloc (.cells (madeCells #[.bool false] sa.length) 4))
  have HR2 := Lib.hid r2
  have HB := Lib.hid hb
  have HW1 := Lib.hid hW1
  clear ha hx hnd r1 r2 hb hs1 hW1
  go_enter Try.func52, Try.ntmps52
  go_wp2
  rw [← HW1.out]
  clear hmk1 hmk2 HW1
  go_loopw [16] (fun ii wr => ∃ i : Nat, i ≤ sa.length ∧ ii = .int .i64 i ∧ wr.rowIs w.heap.size 3 sa.length (fun p => .int .i64 ((invK sa i p : Nat) : Int)) ∧ wr.rowIs (w.heap.size + 1) 4 sa.length (fun p => .bool (seenK sa i p)) ∧ Below w.heap.size w wr) (fun ii _ => sa.length - (intOf ii).toNat)
  case atStart => exact ⟨0, Nat.zero_le _, rfl, HR1.out.congr fun p _ => by rw [invK_zero]; rfl, HR2.out.congr fun p _ => by rw [seenK_zero], HB.out⟩
  case round =>
    obtain ⟨i, hi, rfl, hinv, hseen, hbw⟩ := hrel
    by_cases hlt : i < sa.length
    · have d0 : wr.cell? ⟨bOf a, oOf a + i, none⟩ = some (.int .i64 ((sa.getD i 0 : Nat) : Int)) := (HA.out.kept hbw).cell i hlt
      have hpx := (HX.out _).1 (getD_mem hlt)
      have d1 := hseen.cell (i := sa.getD i 0) hpx
      rw [seenK_at sa HND.out i hlt] at d1
      have d2 := hseen.frozen (sa.getD i 0)
      have d3 := hinv.cell (i := sa.getD i 0) hpx
      have d4 := hinv.frozen (sa.getD i 0)
      have HN1 := Lib.hid (fun p => invK_succ sa HND.out i hlt p)
      have HN2 := Lib.hid (fun p => seenK_succ sa i hlt p)
      generalize sa.getD i 0 = p at *
      generalize invK sa i p = o at *
      have d5 : (wr.setCell ⟨w.heap.size + 1, p, none⟩ (.bool true)).cell? ⟨w.heap.size, p, none⟩ = some (.int .i64 (o : Int)) := (World.cell?_of_block (w := wr) (a := ⟨w.heap.size, p, none⟩) (Below.heap_setCell _ _ _ _ (by show w.heap.size ≠ w.heap.size + 1; omega))).trans d3
      have t1 : ¬ ((p : Int) < 0) := by omega
      have HI := Lib.hid hinv
      have HS := Lib.hid hseen
      have HBW := Lib.hid hbw
      clear hinv hseen hbw
      go_wp2
      go_roundw
      case rel =>
        refine ⟨i + 1, by omega, by go_num, ?_, ?_, (HBW.out.setCell (p := ⟨w.heap.size + 1, p, none⟩) (by show w.heap.size ≤ w.heap.size + 1; omega) _).setCell (p := ⟨w.heap.size, p, none⟩) (Nat.le_refl _) _⟩
        · refine ((HI.out.setOther (a := ⟨w.heap.size + 1, p, none⟩) (by show w.heap.size ≠ w.heap.size + 1; omega) _).set p (.int .i64 (i : Int))).congr fun j hj => ?_
          rw [HN1.out j]
          by_cases ej : j = p
          · simp [ej]
          · simp [ej]
        · refine ((HS.out.set p (.bool true)).setOther (a := ⟨w.heap.size, p, none⟩) (by show w.heap.size + 1 ≠ w.heap.size; omega) _).congr fun j hj => ?_
          rw [HN2.out j]
          by_cases ej : j = p
          · simp [ej]
          · simp [ej]
      case measure => simp [intOf]; omega
    · obtain rfl : i = sa.length := by omega
      have HI := Lib.hid hinv
      have HBW := Lib.hid hbw
      have hd : decide ((sa.length : Int) < sa.length) = false := by simp
      clear hinv hseen hbw
      go_wp2
      go_ret2
      exact ⟨some ⟨w.heap.size, 0, none⟩, sa.length, rfl, (Row.of_row HI.out (Nat.le_refl _)).congr fun p hp => by rw [invK_all sa p ((HX.out p).2 hp)], HBW.out⟩

/-- neighbours of a right order -/
theorem order_next (ds : List (List Nat)) (sa : List Nat) (h : IsSA (ordS ds) (rowOf ds).length sa) (i : Nat) (hi : i + 1 < sa.length) :
    symP (rowOf ds) ds.length (sa.getD i 0) ≤ symP (rowOf ds) ds.length (sa.getD (i + 1) 0) ∧
    (symP (rowOf ds) ds.length (sa.getD i 0) = symP (rowOf ds) ds.length (sa.getD (i + 1) 0) → sa.getD i 0 + 1 < (rowOf ds).length ∧ sa.getD (i + 1) 0 + 1 < (rowOf ds).length ∧ sa.idxOf (sa.getD i 0 + 1) ≤ sa.idxOf (sa.getD (i + 1) 0 + 1)) := by
  have hp := pair_at h.ord (show i < i + 1 by omega) hi
  have hpm := (h.mem _).1 (getD_mem (show i < sa.length by omega))
  have hqm := (h.mem _).1 (getD_mem hi)
  generalize sa.getD i 0 = p at *
  generalize sa.getD (i + 1) 0 = q at *
  have hs : ∀ x, x < (rowOf ds).length → ordS ds x = (symP (rowOf ds) ds.length x : Int) := fun x hx => by unfold ordS symS; rw [if_pos hx]
  have hp0 := hp
  rw [ltS_step, hs p hpm, hs q hqm] at hp
  rcases hp with c | ⟨c, hlt⟩
  · exact ⟨by omega, fun e => by omega⟩
  · refine ⟨by omega, fun _ => ?_⟩
    have hsn := symN_row ds
    have hne : p ≠ q := fun e => by subst e; exact ltS_asymm hp0 hp0
    have hp1 : p + 1 < (rowOf ds).length := by
      rcases Nat.lt_or_ge (p + 1) (rowOf ds).length with g | g
      · exact g
      · exfalso
        have e1 : p = (rowOf ds).length - 1 := by omega
        have := hsn.last q hqm (by omega)
        rw [← e1] at this
        apply this
        show ordS ds q = ordS ds p
        rw [hs q hqm, hs p hpm, c]
    have hq1 : q + 1 < (rowOf ds).length := by
      rcases Nat.lt_or_ge (q + 1) (rowOf ds).length with g | g
      · exact g
      · exfalso
        have e1 : q = (rowOf ds).length - 1 := by omega
        have := hsn.last p hpm (by omega)
        rw [← e1] at this
        apply this
        show ordS ds p = ordS ds q
        rw [hs q hqm, hs p hpm, c]
    refine ⟨hp1, hq1, ?_⟩
    obtain ⟨i1, i2⟩ := idxOf_at ((h.mem (p + 1)).2 hp1)
    obtain ⟨j1, j2⟩ := idxOf_at ((h.mem (q + 1)).2 hq1)
    rcases Nat.lt_or_ge (sa.idxOf (q + 1)) (sa.idxOf (p + 1)) with g | g
    · exfalso
      have := pair_at h.ord g i1
      rw [i2, j2] at this
      exact ltS_asymm this hlt
    · exact g
set_option maxRecDepth 100000 in
set_option maxHeartbeats 2000000 in
theorem ok_yes (w : World) (bt : Nat) (x : TxP) (ds : List (List Nat)) (ht : TextAt w bt x ds) (hok : NewOk ds) (a : Option Addr) (cap : Nat) (sa : List Nat) (hr : Row w a (rowOf ds).length (natV sa)) (hsa : IsSA (ordS ds) (rowOf ds).length sa) :
    Calls Try.prog 23 #[.pointer (some ⟨bt, 0, none⟩), .slice a (rowOf ds).length cap] w fun e w' => e = .returned (.bool true) ∧ Below w.heap.size w w' := by
  have hinv := inverse_any w a cap sa (by rw [hsa.len]; have := hok.all; omega) (by rw [hsa.len]; exact hr) (by rw [hsa.len]; exact hsa.mem) (hsa.ord.imp (fun h e => by subst e; exact ltS_asymm h h))
  rw [hsa.len] at hinv
  have hix := run_ix (P := Try.prog) 28 (by kernel_rfl) size_int a (rowOf ds).length cap hr.at_ .i64
  have HINV := Lib.hid hinv
  have HT := Lib.hid ht
  have HOK := Lib.hid hok
  have HR := Lib.hid hr
  have HSA := Lib.hid hsa
  have hall := hok.all
  have HON := Lib.hid (order_next ds sa hsa)
  clear hinv ht hok hr hsa
  generalize hn : (rowOf ds).length = n at *
  generalize hsp : symP (rowOf ds) ds.length = sp at *
  have HN := Lib.hid hn
  have HSP := Lib.hid hsp
  clear hn hsp
  go_enter Try.func23, Try.ntmps23
  go_wp2_with fail
  refine HINV.out.mono ?_
  rintro e w1 ⟨ai, ci, rfl, hri, hb1⟩
  have HRI := Lib.hid hri
  have HB1 := Lib.hid hb1
  have HT1 := Lib.hid (HT.out.kept hb1)
  clear hri hb1 HINV
  go_wp2_with fail
  refine (tlen_any _ bt x ds HT1.out).mono ?_
  rintro e w' ⟨rfl, rfl⟩
  rw [HN.out]
  go_wp2_with fail
  refine (firsts_any _ bt x ds HT1.out HOK.out).mono ?_
  rintro e w2 ⟨ak, ck, rfl, hrk, hb2⟩
  rw [HN.out, HSP.out] at hrk
  rw [HN.out]
  have HRK := Lib.hid hrk
  have HRI2 := Lib.hid (HRI.out.kept hb2)
  have HR2 := Lib.hid (HR.out.kept (below_next HB1.out hb2 HB1.out.size))
  have HB2 : Hid (Below w.heap.size w w2) := below_next HB1.out hb2 HB1.out.size
  clear hrk hb2 HRI HB1 HT1
  have hixk := run_ix (P := Try.prog) 28 (by kernel_rfl) size_int ak n ck HRK.out.at_ .i64
  have hixi := run_ix (P := Try.prog) 28 (by kernel_rfl) size_int ai n ci HRI2.out.at_ .i64
  go_wp2_with fail
  go_loopw [9] (fun ii wr => ∃ i : Nat, 1 ≤ i ∧ i ≤ n + 1 ∧ ii = .int .i64 i ∧ ∃ j, wr = w2.drewN j) (fun ii _ => n + 1 - (intOf ii).toNat)
  case atStart => exact ⟨1, by omega, by omega, rfl, 0, rfl⟩
  case round =>
    obtain ⟨i, hi1, hi2, rfl, j, hw⟩ := hrel
    have HWJ := Lib.hid hw
    have HRKj : Hid (Row wr ak n (fun p => .int .i64 ((sp p : Nat) : Int))) := by rw [HWJ.out]; exact HRK.out.drewN j
    have HRIj : Hid (Row wr ai n (fun p => .int .i64 ((sa.idxOf p : Nat) : Int))) := by rw [HWJ.out]; exact HRI2.out.drewN j
    have HRj : Hid (Row wr a n (natV sa)) := by rw [HWJ.out]; exact HR2.out.drewN j
    clear hw
    by_cases hlt : (i : Int) < (n : Int)
    · obtain ⟨m, hm⟩ : ∃ m, i = m + 1 := ⟨i - 1, by omega⟩
      have em : (i : Int) - 1 = (m : Int) := by omega
      have hon := HON.out m (by rw [HSA.out.len]; omega)
      rw [← hm] at hon
      have hpm := (HSA.out.mem _).1 (getD_mem (l := sa) (i := m) (by rw [HSA.out.len]; omega))
      have hqm := (HSA.out.mem _).1 (getD_mem (l := sa) (i := i) (by rw [HSA.out.len]; omega))
      have d0 : wr.cell? ⟨bOf a, oOf a + m, none⟩ = some (.int .i64 ((sa.getD m 0 : Nat) : Int)) := HRj.out.cell m (by omega)
      have d1 : wr.cell? ⟨bOf a, oOf a + i, none⟩ = some (.int .i64 ((sa.getD i 0 : Nat) : Int)) := HRj.out.cell i (by omega)
      have d2 := HRKj.out.cell _ hpm
      have d3 := HRKj.out.cell _ hqm
      have hmn : m < n := by omega
      have hin : i < n := by omega
      have ew : IntKind.i64.wrap ((i : Int) - 1) = (m : Int) := by rw [em]; exact IntWalk.i64_in _ (by omega)
      have HM := Lib.hid hm
      clear hm
      obtain ⟨hle, hnx⟩ := hon
      generalize sa.getD m 0 = p at *
      generalize sa.getD i 0 = q at *
      go_wp2_with fail
      go_quiet (fail)
      clear em ew
      have HKq := Lib.hid (HRKj.out.drewN nq)
      have HIq := Lib.hid (HRIj.out.drewN nq)
      have hw9 : wr.drewN nq = w2.drewN (j + nq) := by rw [HWJ.out, World.drewN_drewN]
      have HW9 := Lib.hid hw9
      clear hw9 d0 d1
      have d2' : (wr.drewN nq).cell? ⟨bOf ak, oOf ak + p, none⟩ = some (.int .i64 (sp p : Int)) := d2
      have d3' : (wr.drewN nq).cell? ⟨bOf ak, oOf ak + q, none⟩ = some (.int .i64 (sp q : Int)) := d3
      clear d2 d3
      generalize wr.drewN nq = wq at *
      have g0 : ¬ ((sp q : Int) < (sp p : Int)) := by omega
      by_cases he : sp p = sp q
      · obtain ⟨hp1, hq1, hii⟩ := hnx he
        have d4 := HIq.out.cell _ hp1
        have d5 := HIq.out.cell _ hq1
        have hx1 := fun W => hixi W (p + 1) hp1
        have hx2 := fun W => hixi W (q + 1) hq1
        have ec1 : ((p + 1 : Nat) : Int) = (p : Int) + 1 := by omega
        have ec2 : ((q + 1 : Nat) : Int) = (q : Int) + 1 := by omega
        rw [ec1] at hx1
        rw [ec2] at hx2
        clear ec1 ec2
        have w1' : IntKind.i64.wrap ((p : Int) + 1) = (p : Int) + 1 := IntWalk.i64_in _ (by omega)
        have w2' : IntKind.i64.wrap ((q : Int) + 1) = (q : Int) + 1 := IntWalk.i64_in _ (by omega)
        have g2 : ¬ ((sa.idxOf (q + 1) : Int) < (sa.idxOf (p + 1) : Int)) := by omega
        generalize sa.idxOf (p + 1) = y1 at *
        generalize sa.idxOf (q + 1) = y2 at *
        rw [he] at d2' g0
        generalize sp q = z at *
        clear hnx he hle hii
        go_wp2_with fail
        go_quiet (fail)
        clear w1' w2'
        go_wp2
        go_roundw
        case rel => exact ⟨i + 1, by omega, by omega, by go_num, _, by rw [HW9.out, World.drewN_drewN]⟩
        case measure => simp [intOf]; omega
      · have g1 : ((sp p : Int) == (sp q : Int)) = false := by simp; omega
        have g3 : ((sp p : Nat) == (sp q : Nat)) = false := by simp; omega
        have g4 : decide (sp q < sp p) = false := by simp; omega
        generalize sp p = z1 at *
        generalize sp q = z2 at *
        clear hnx he hixi hix HON HIq
        go_wp2_with fail
        go_quiet (fail)
        clear g3 g4
        go_wp2
        go_roundw
        case rel => exact ⟨i + 1, by omega, by omega, by go_num, _, by rw [HW9.out, World.drewN_drewN]⟩
        case measure => simp [intOf]; omega
    · go_wp2
      go_ret
      have hB9 : Below w.heap.size w wr := by rw [HWJ.out]; exact below_drewN HB2.out j
      exact ⟨rfl, hB9⟩
end Go.Proofs.Ytddceidepmckiaa
