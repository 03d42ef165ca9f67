/-
  bwt.Step, bwt.steps.
-/
import Derived.Test.YtjpoebmjfedecaaGreatBwtStarts
namespace Go.Proofs.YtjpoebmjfedecaaGreat
open Go.RowKit

theorem madeArr : madeCells #[.int .i64 0] 257 = arrV (fun _ => 0) := by unfold arrV; kernel_rfl
theorem store_new (w : World) (f : Nat → Nat) : (Instr.storeAt 98 (.pointer (some ⟨w.heap.size, 0, none⟩)) (.agg (arrV f))).run Tryz.prog (w.alloc (.cells (madeCells #[.int .i64 0] 257) 98)) = .ok () (w.alloc (.cells (arrV f) 98)) :=
  run_storeAt_new w 98 _ (arrV f) (by rw [arrV_size]; exact isz_arr) (by rw [arrV_size, size_madeCells]) (arrV_one f)
theorem arr_new (w : World) (f : Nat → Nat) : (w.alloc (.cells (arrV f) 98)).rowIs w.heap.size 98 257 (fun c => .int .i64 ((f c : Nat) : Int)) := arr_row (heap_alloc_last w _)
def StepPost (w : World) (r : Nat) (e : Ending) (w' : World) : Prop := e = .returned (.tuple #[.int .i64 (r : Int), .bool true]) ∧ Below w.heap.size w w'
/-- all rows' Steps -/
def toZ (L : List Nat) (q : Nat) : Int := if L.getD q 0 = 0 then -1 else (stepL L q : Int)
def StepsPost (w : World) (L : List Nat) (e : Ending) (w' : World) : Prop :=
  ∃ a cap, e = .returned (.slice a L.length cap) ∧ Row w' a L.length (fun q => .int .i64 (toZ L q)) ∧ Below w.heap.size w w'
/-- where the next of a symbol leads -/
def nxC (L : List Nat) (i c : Nat) : Nat := if c = 0 then 0 else stC L c + rkC L c i
theorem nxC_zero (L : List Nat) (c : Nat) : nxC L 0 c = stC L c := by
  unfold nxC
  by_cases e : c = 0
  · subst e; rw [if_pos rfl, stC_zero]
  · rw [if_neg e, rkC_zero]; rfl
theorem nxC_at (L : List Nat) (i : Nat) (h : L.getD i 0 ≠ 0) : nxC L i (L.getD i 0) = stepL L i := by unfold nxC; rw [if_neg h]; rfl
theorem nxC_succ (L : List Nat) (i c : Nat) (hi : i < L.length) : nxC L (i + 1) c = if c = L.getD i 0 ∧ c ≠ 0 then nxC L i c + 1 else nxC L i c := by
  unfold nxC
  by_cases e : c = 0
  · subst e; simp
  · rw [if_neg e, if_neg e, rkC_succ L c i hi]
    by_cases e2 : c = L.getD i 0
    · rw [if_pos e2.symm, if_pos ⟨e2, e⟩]; omega
    · rw [if_neg (fun h => e2 h.symm), if_neg (fun h => e2 h.1)]; omega
theorem nxC_le (L : List Nat) (i c : Nat) (hi : i ≤ L.length) : nxC L i c ≤ L.length + L.length := by
  unfold nxC
  split
  · omega
  · have := stC_le L c
    have := rkC_le L c i
    omega
def toZi (L : List Nat) (i q : Nat) : Int := if q < i then toZ L q else 0
theorem toZi_next (L : List Nat) (i q : Nat) : toZi L (i + 1) q = if q = i then toZ L i else toZi L i q := by
  unfold toZi
  by_cases e : q = i
  · subst e; simp
  · rw [if_neg e]
    by_cases c : q < i
    · rw [if_pos c, if_pos (by omega)]
    · rw [if_neg c, if_neg (by omega)]
attribute [irreducible] nxC toZi toZ
set_option maxRecDepth 100000 in
set_option maxHeartbeats 1000000 in
theorem steps_any (w : World) (a : Option Addr) (cap : Nat) (L : List Nat) (hn : L.length ≤ 1000000) (hr : Row w a L.length (symV L)) (hm : ∀ c ∈ L, c ≤ 256) :
    Calls Tryz.prog 49 #[.slice a L.length cap] w (StepsPost w L) := by
  have hix := run_ix (P := Tryz.prog) 22 (by kernel_rfl) size_u16 a L.length cap hr.at_ .i64
  have HR := Lib.hid hr
  have HM := Lib.hid hm
  have HST := Lib.hid (starts_any w a cap L hn hr)
  have hzv := zero_arr
  have hmk := make_int L.length (by omega)
  clear hr hm
  go_enter Tryz.func49, Tryz.ntmps49
  go_wp2_with fail
  refine HST.out.mono ?_
  rintro e w1 ⟨rfl, hb1⟩
  have HS0 := Lib.hid (store_new w1 (stC L))
  have r1 := (arr_new w1 (stC L)).alloc (.cells (madeCells #[.int .i64 0] L.length) 3)
  have r2 := World.rowIs_made (w1.alloc (.cells (arrV (stC L)) 98)) (.int .i64 0) L.length 3
  have hb2 : Below w.heap.size w ((w1.alloc (.cells (arrV (stC L)) 98)).alloc (.cells (madeCells #[.int .i64 0] L.length) 3)) := (hb1.alloc hb1.size _).alloc (by simp; have := hb1.size; omega) _
  rw [World.size_alloc] at r2
  have hsz := hb1.size
  have HB := Lib.hid hb2
  have H1 := Lib.hid r1
  have H2 := Lib.hid r2
  clear hb1 hb2 r1 r2 HST
  go_wp2_with (with_reducible refine wpList_store_run rfl _ _ _ rfl HS0.out rfl rfl ?_)
  clear hzv hmk HS0
  have hia := ix_arr .u16
  generalize hN : w1.heap.size = N at *
  generalize (w1.alloc (.cells (arrV (stC L)) 98)).alloc (.cells (madeCells #[.int .i64 0] L.length) 3) = w0 at *
  clear hN
  go_loopw [14] (fun ii wr => ∃ i : Nat, i ≤ L.length ∧ ii = .int .i64 i ∧ wr.rowIs N 98 257 (fun c => .int .i64 ((nxC L i c : Nat) : Int)) ∧ wr.rowIs (N + 1) 3 L.length (fun q => .int .i64 (toZi L i q)) ∧ Below w.heap.size w wr) (fun ii _ => L.length - (intOf ii).toNat)
  case atStart => exact ⟨0, Nat.zero_le _, rfl, H1.out.congr fun c _ => by rw [nxC_zero], H2.out.congr fun c _ => by unfold toZi; simp, HB.out⟩
  case round =>
    obtain ⟨i, hi, rfl, r1, r2, hb⟩ := hrel
    clear H1 H2 HB
    have H1 := Lib.hid r1
    have H2 := Lib.hid r2
    have HB := Lib.hid hb
    by_cases hlt : i < L.length
    · have d0 : wr.cell? ⟨bOf a, oOf a + i, none⟩ = some (.int .u16 ((L.getD i 0 : Nat) : Int)) := (HR.out.kept hb).cell i hlt
      have hc := HM.out _ (getD_mem' hlt)
      have d2 : wr.cell? ⟨N + 1, i, none⟩ = some (.int .i64 (toZi L i i)) := r2.cell (i := i) hlt
      have d3 := r2.frozen i
      generalize toZi L i i = oz at *
      have HNX := Lib.hid (fun c => nxC_succ L i c hlt)
      have HTZ := Lib.hid (fun q => toZi_next L i q)
      have hle := nxC_le L i (L.getD i 0) (by omega)
      have d4 : wr.cell? ⟨N, L.getD i 0, none⟩ = some (.int .i64 ((nxC L i (L.getD i 0) : Nat) : Int)) := r1.cell (i := L.getD i 0) (by omega)
      have d5 := r1.frozen (L.getD i 0)
      have HAT := Lib.hid (nxC_at L i)
      have HZZ : Hid (toZ L i = if L.getD i 0 = 0 then -1 else (stepL L i : Int)) := by unfold toZ; rfl
      clear r1 r2 hb
      by_cases h0 : L.getD i 0 = 0
      · have HZ1 : Hid (toZ L i = -1) := by rw [HZZ.out, if_pos h0]; rfl
        rw [h0] at d0
        rw [h0] at HNX
        clear d4 d5 hle hc
        go_wp2
        go_roundw
        case rel => exact ⟨i + 1, by omega, by go_num, (H1.out.setOther (by simp) _).congr fun c _ => by rw [HNX.out, if_neg (fun h => h.2 h.1)], (H2.out.set i (.int .i64 (-1))).congr fun q hq => by
          rw [HTZ.out, HZ1.out]
          by_cases e : q = i
          · rw [if_pos e, if_pos e]
          · rw [if_neg e, if_neg e], HB.out.setCell (p := ⟨N + 1, i, none⟩) (by simp; omega) _⟩
        case measure => simp [intOf]; omega
      · have hst := HAT.out h0
        have HZ1 : Hid (toZ L i = (stepL L i : Int)) := by rw [HZZ.out, if_neg h0]; rfl
        rw [hst] at d4 hle
        have t0 : (0 : Int) < ((L.getD i 0 : Nat) : Int) := by omega
        have HST := Lib.hid hst
        clear hst
        generalize L.getD i 0 = c at *
        generalize stepL L i = s at *
        have hc7 : c < 257 := by omega
        have e3 : wr.cell? ⟨N + 1, i, none⟩ = some (.int .i64 oz) := d2
        go_wp2
        go_roundw
        case rel => exact ⟨i + 1, by omega, by go_num, (((H1.out.setOther (by simp) _).setOther (by simp) _).set c (.int .i64 ((s : Int) + 1))).congr fun j hj => by
          rw [HNX.out]
          by_cases e : j = c
          · subst e; rw [if_pos rfl, if_pos ⟨rfl, h0⟩, HST.out]; rfl
          · rw [if_neg e, if_neg (fun h => e h.1)], (((H2.out.set i (.int .i64 (-1))).set i (.int .i64 (s : Int))).setOther (by simp) _).congr fun q hq => by
          rw [HTZ.out, HZ1.out]
          by_cases e : q = i
          · rw [if_pos e, if_pos e]
          · rw [if_neg e, if_neg e, if_neg e], ((HB.out.setCell (p := ⟨N + 1, i, none⟩) (by simp; omega) _).setCell (p := ⟨N + 1, i, none⟩) (by simp; omega) _).setCell (p := ⟨N, c, none⟩) (by simp; omega) _⟩
        case measure => simp [intOf]; omega
    · obtain rfl : i = L.length := by omega
      have hd : decide ((L.length : Int) < L.length) = false := by simp
      have HRW : Hid (Row wr (some ⟨N + 1, 0, none⟩) L.length (fun q => .int .i64 (toZ L q))) := (Row.of_row r2 (Nat.le_refl _)).congr fun q hq => by unfold toZi; rw [if_pos hq]
      clear r1 r2 hb
      go_wp2
      go_ret
      exact ⟨_, _, rfl, HRW.out, HB.out⟩
end Go.Proofs.YtjpoebmjfedecaaGreat
