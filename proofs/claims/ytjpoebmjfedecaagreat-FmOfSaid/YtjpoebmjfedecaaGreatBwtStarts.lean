/-
  bwt.Starts, Step, steps: arrays by value.
-/
import Derived.Test.YtjpoebmjfedecaaGreatBwtMath
import Derived.Deep.WholeRow
import Derived.Laws.ResultCell
namespace Go.Proofs.YtjpoebmjfedecaaGreat
open Go.RowKit

/-- symbols that are read -/
abbrev symV (L : List Nat) : Nat → Value := fun k => .int .u16 ((L.getD k 0 : Nat) : Int)
theorem info_arr : (Tryz.prog.info? 98).map (fun i => (i.zero, i.size)) = some (some (.agg (madeCells #[.int .i64 0] 257)), 257) := by kernel_rfl
theorem zero_arr : ∀ w, (zeroValue 98).run Tryz.prog w = .ok (.agg (madeCells #[.int .i64 0] 257)) w := (zero_of_info info_arr).1
theorem isz_arr : (Tryz.prog.info? 98).map (·.size) = some 257 := (zero_of_info info_arr).2
def arrV (f : Nat → Nat) : Array Value := ((List.range 257).map fun c => Value.int .i64 ((f c : Nat) : Int)).toArray
theorem arrV_size (f : Nat → Nat) : (arrV f).size = 257 := by simp [arrV]
theorem arrV_at (f : Nat → Nat) (i : Nat) (h : i < 257) : (arrV f)[i]? = some (.int .i64 ((f i : Nat) : Int)) := by simp [arrV, h]
theorem arrV_one (f : Nat → Nat) : (arrV f).all (·.oneCell') = true := by simp [arrV, Value.oneCell']
theorem arr_block {w : World} {b : Nat} {t : TypeId} {f : Nat → Nat} (h : w.rowIs b t 257 (fun c => .int .i64 ((f c : Nat) : Int))) : w.heap[b]? = some (.cells (arrV f) t (0, 0)) := by
  obtain ⟨c, h1, h2, h3⟩ := h
  rw [h1]
  congr 2
  apply Array.ext_getElem?
  intro i
  rcases Nat.lt_or_ge i 257 with hi | hi
  · rw [h3 i hi, arrV_at f i hi]
  · rw [Array.getElem?_eq_none (by omega), Array.getElem?_eq_none (by rw [arrV_size]; omega)]
theorem arr_row {w : World} {b : Nat} {t : TypeId} {f : Nat → Nat} (h : w.heap[b]? = some (.cells (arrV f) t (0, 0))) : w.rowIs b t 257 (fun c => .int .i64 ((f c : Nat) : Int)) :=
  ⟨arrV f, h, arrV_size f, fun i hi => arrV_at f i hi⟩
theorem load_arr {w : World} {b : Nat} {f : Nat → Nat} (h : w.heap[b]? = some (.cells (arrV f) 98 (0, 0))) : (loadVar 98 ⟨b, 0, none⟩).run Tryz.prog w = .ok (.agg (arrV f)) w :=
  run_loadVar_row w b 98 98 (arrV f) (0, 0) _ h Tryz.underlying98 rfl (by rw [arrV_size]; exact isz_arr)
theorem loadAt_arr {w : World} {b : Nat} {f : Nat → Nat} (h : w.heap[b]? = some (.cells (arrV f) 98 (0, 0))) : (Instr.loadAt 98 (.pointer (some ⟨b, 0, none⟩))).run Tryz.prog w = .ok (.agg (arrV f)) w := by
  simp only [Instr.loadAt, Instr.sureAddr, Sem.run_bind, Sem.run_pure, Result.andThen]
  exact load_arr h
theorem storeAt_arr {w : World} {b : Nat} {f g : Nat → Nat} (h : w.heap[b]? = some (.cells (arrV f) 98 (0, 0))) : (Instr.storeAt 98 (.pointer (some ⟨b, 0, none⟩)) (.agg (arrV g))).run Tryz.prog w = .ok () (w.setRow b (arrV g)) := by
  simp only [Instr.storeAt, Instr.sureAddr, Sem.run_bind, Sem.run_pure, Result.andThen]
  exact run_storeVar_row w b 98 98 (arrV f) (arrV g) h (by rw [arrV_size]; exact isz_arr) (by rw [arrV_size, arrV_size]) (arrV_one g)
attribute [irreducible] arrV
/-- a load whose run is known, in a walk; and a store -/
theorem wpList_load_run {P : Program} {w : World} {ops : Array Oper} {rest : List Oper} {o : Oper} {a : Act} {Q : Exit → Act → World → Prop} (hw : Region.wanted o (yielded ops a.tmps) = true) (ty : TypeId) (x : Operand)
    (ho : o.op = .load ty x) {v r : Value} {w' : World} (hrun : (Instr.loadAt ty v).run P w = .ok r w') (hx : a.eval x = v) (h : wpList P ops Q rest (a.put o.dst r) w') : wpList P ops Q (o :: rest) a w := by
  unfold wpList
  rw [if_pos hw]
  refine .inl ?_
  unfold Oper.wp execOp
  simp only [ho, Sem.run_bind, Sem.run_pure, Result.andThen_ok, hx, hrun]
  exact h
theorem wpList_store_run {P : Program} {w : World} {ops : Array Oper} {rest : List Oper} {o : Oper} {a : Act} {Q : Exit → Act → World → Prop} (hw : Region.wanted o (yielded ops a.tmps) = true) (ty : TypeId) (x y : Operand)
    (ho : o.op = .store ty x y) {v u : Value} {w' : World} (hrun : (Instr.storeAt ty v u).run P w = .ok () w') (hx : a.eval x = v) (hy : a.eval y = u) (h : wpList P ops Q rest (a.put o.dst undef) w') : wpList P ops Q (o :: rest) a w := by
  unfold wpList
  rw [if_pos hw]
  refine .inl ?_
  unfold Oper.wp execOp
  simp only [ho, Sem.run_bind, Sem.run_pure, Result.andThen_ok, hx, hy, hrun]
  exact h
theorem results_cell {fn : Func} {p : Tmp} {ty : TypeId} (h : fn.results = #[.cell p ty]) (tmps : Array Value) (P : Program) (w : World) {b : Addr} {v : Value} (hp : tmps.getD p undef = .pointer (some b)) (hl : (loadVar ty b).run P w = .ok v w) :
    (results fn tmps).run P w = .ok v w := by
  have hp' : tmps[p]?.getD undef = .pointer (some b) := by simpa using hp
  simp only [results, h]
  simp [Sem.run_bind, Result.andThen, hp', asAddr, hl]
theorem below_setRow {B : Nat} {a w : World} (h : Below B a w) {g : Nat} (hg : B ≤ g) (cs : Array Value) : Below B a (w.setRow g cs) :=
  ⟨h.os, h.tape, h.output, by simpa using h.size, fun i hi => (setRow_other w g i cs (by omega)).trans (h.block i hi)⟩
theorem ix_arr (kd : IntKind) : ∀ (W : World) (b c : Nat), c < 257 → (Instr.indexAt 98 (.pointer (some ⟨b, 0, none⟩)) (.int kd (c : Int))).run Tryz.prog W = .ok (.pointer (some ⟨b, c, none⟩)) W := by
  intro W b c hc
  have hs : (sizeOf (Tryz.prog.elem 98)).run Tryz.prog W = .ok 1 W := by kernel_rfl
  have hl : Tryz.prog.arrayLen 98 = 257 := by kernel_rfl
  rw [run_indexAt_array (P := Tryz.prog) W 98 ⟨b, 0, none⟩ kd c (by kernel_rfl), hl, if_pos (by omega), hs]
  simp [Addr.add]
  exact fun h => h.symm
set_option maxRecDepth 100000 in
set_option maxHeartbeats 1000000 in
theorem starts_any (w : World) (a : Option Addr) (cap : Nat) (L : List Nat) (hn : L.length ≤ 1000000) (hr : Row w a L.length (symV L)) :
    Calls Tryz.prog 50 #[.slice a L.length cap] w fun e w' => e = .returned (.agg (arrV (stC L))) ∧ Below w.heap.size w w' := by
  have hix := run_ix (P := Tryz.prog) 22 (by kernel_rfl) size_u16 a L.length cap hr.at_ .i64
  have HR := Lib.hid hr
  have hzv := zero_arr
  clear hr
  go_enter Tryz.func50, Tryz.ntmps50
  go_wp2_with fail
  clear hzv
  have hb0 : Below w.heap.size w (((w.alloc (.cells (madeCells #[.int .i64 0] 257) 98)).alloc (.cells (madeCells #[.int .i64 0] 257) 98)).alloc (.cells (madeCells #[.int .i64 0] 257) 98)) := (((Below.refl _ w).alloc (Nat.le_refl _) _).alloc (by simp) _).alloc (by simp; omega) _
  have r0 := ((World.rowIs_made w (.int .i64 0) 257 98).alloc (.cells (madeCells #[.int .i64 0] 257) 98)).alloc (.cells (madeCells #[.int .i64 0] 257) 98)
  have r1 := (World.rowIs_made (w.alloc (.cells (madeCells #[.int .i64 0] 257) 98)) (.int .i64 0) 257 98).alloc (.cells (madeCells #[.int .i64 0] 257) 98)
  have r2 := World.rowIs_made ((w.alloc (.cells (madeCells #[.int .i64 0] 257) 98)).alloc (.cells (madeCells #[.int .i64 0] 257) 98)) (.int .i64 0) 257 98
  simp only [World.size_alloc] at r0 r1 r2
  generalize ((w.alloc (.cells (madeCells #[.int .i64 0] 257) 98)).alloc (.cells (madeCells #[.int .i64 0] 257) 98)).alloc (.cells (madeCells #[.int .i64 0] 257) 98) = w0 at *
  have hia := ix_arr .u16
  have H0 := Lib.hid r0
  have H1 := Lib.hid r1
  have H2 := Lib.hid r2
  have HB := Lib.hid hb0
  clear r0 r1 r2 hb0
  go_loopw [10] (fun ii wr => ∃ i : Nat, i ≤ L.length ∧ ii = .int .i64 i ∧ wr.rowIs w.heap.size 98 257 (fun _ => .int .i64 0) ∧ wr.rowIs (w.heap.size + 1) 98 257 (fun c => .int .i64 ((rkC L c i : Nat) : Int)) ∧ wr.rowIs (w.heap.size + 1 + 1) 98 257 (fun _ => .int .i64 0) ∧ Below w.heap.size w wr) (fun ii _ => L.length - (intOf ii).toNat)
  case atStart => exact ⟨0, Nat.zero_le _, rfl, H0.out, H1.out.congr fun c _ => by rw [rkC_zero]; rfl, H2.out, HB.out⟩
  case round =>
    obtain ⟨i, hi, rfl, r0, r1, r2, hb⟩ := hrel
    clear H0 H1 H2 HB
    have H0 := Lib.hid r0
    have H1 := Lib.hid r1
    have H2 := Lib.hid r2
    have HB := Lib.hid hb
    by_cases hlt : i < L.length
    · have d0 : wr.cell? ⟨bOf a, oOf a + i, none⟩ = some (.int .u16 ((L.getD i 0 : Nat) : Int)) := (HR.out.kept hb).cell i hlt
      have hrk := fun c => rkC_succ L c i hlt
      have HRK := Lib.hid hrk
      clear r0 r1 r2 hb hrk
      generalize L.getD i 0 = c at *
      by_cases hc : (c : Int) ≤ 256
      · have d1 : wr.cell? ⟨w.heap.size + 1, c, none⟩ = some (.int .i64 ((rkC L c i : Nat) : Int)) := H1.out.cell (i := c) (by omega)
        have d2 := H1.out.frozen c
        have hle := rkC_le L c i
        have hc7 : c < 257 := by omega
        obtain ⟨m, hm⟩ : ∃ m, m = rkC L c i := ⟨_, rfl⟩
        rw [← hm] at d1 hle
        have HM := Lib.hid hm
        clear hm
        go_wp2
        go_roundw
        case rel => exact ⟨i + 1, by omega, by go_num, H0.out.setOther (by simp) _, (H1.out.set c (.int .i64 ((m : Int) + 1))).congr fun j hj => by
          rw [HRK.out]
          by_cases ej : j = c
          · subst ej; simp [HM.out]
          · simp [ej, Ne.symm ej], H2.out.setOther (by simp) _, HB.out.setCell (p := ⟨w.heap.size + 1, c, none⟩) (by simp) _⟩
        case measure => simp [intOf]; omega
      · have hcd : decide ((c : Int) ≤ 256) = false := by simp; omega
        go_wp2
        go_roundw
        case rel => exact ⟨i + 1, by omega, by go_num, H0.out, H1.out.congr fun j hj => by rw [HRK.out, if_neg (by omega)]; rfl, H2.out, HB.out⟩
        case measure => simp [intOf]; omega
    · obtain rfl : i = L.length := by omega
      have hd : decide ((L.length : Int) < L.length) = false := by simp
      clear r0 r1 r2 hb
      go_wp2_with fail
      clear hia hix hd hi hlt
      have hia := ix_arr .i64
      go_loopw [22] (fun ii wr => ∃ k : Nat, k ≤ 256 ∧ ii = .int .i64 k ∧ wr.rowIs w.heap.size 98 257 (fun _ => .int .i64 0) ∧ wr.rowIs (w.heap.size + 1) 98 257 (fun c => .int .i64 ((rkC L c L.length : Nat) : Int)) ∧ wr.rowIs (w.heap.size + 1 + 1) 98 257 (fun c => .int .i64 ((if c ≤ k then stC L c else 0 : Nat) : Int)) ∧ Below w.heap.size w wr) (fun ii _ => 256 - (intOf ii).toNat)
      case atStart => exact ⟨0, by omega, rfl, H0.out, H1.out, H2.out.congr fun c _ => by
        by_cases e : c ≤ 0
        · obtain rfl : c = 0 := by omega
          simp [stC_zero]
        · simp [e], HB.out⟩
      case round =>
        obtain ⟨k, hk, rfl, r0, r1, r2, hb⟩ := hrel
        clear H0 H1 H2 HB
        have H0 := Lib.hid r0
        have H1 := Lib.hid r1
        have H2 := Lib.hid r2
        have HB := Lib.hid hb
        by_cases hlt : k < 256
        · have hlz : (k : Int) < 256 := by omega
          have d1 : wr.cell? ⟨w.heap.size + 1, k, none⟩ = some (.int .i64 ((rkC L k L.length : Nat) : Int)) := r1.cell (i := k) (by omega)
          have d2 : wr.cell? ⟨w.heap.size + 1 + 1, k, none⟩ = some (.int .i64 ((stC L k : Nat) : Int)) := (r2.cell (i := k) (by omega)).trans (by simp)
          have d3 : wr.cell? ⟨w.heap.size + 1 + 1, k + 1, none⟩ = some (.int .i64 0) := (r2.cell (i := k + 1) (by omega)).trans (by rw [if_neg (by omega)]; rfl)
          have d4 := r2.frozen (k + 1)
          have hsc : stC L (k + 1) = stC L k + rkC L k L.length := by rw [stC_succ, rkC_all]
          have hle := stC_le L k
          have hle2 := rkC_le L k L.length
          have HSC := Lib.hid hsc
          have e1 : ((k : Int) + 1) = ((k + 1 : Nat) : Int) := by omega
          have e2 : IntKind.i64.wrap ((k : Int) + 1) = ((k + 1 : Nat) : Int) := by rw [e1]; exact IntWalk.i64_in _ (by omega)
          have hk1 : k + 1 < 257 := by omega
          have hk0 : k < 257 := by omega
          obtain ⟨p, hp⟩ : ∃ p, p = stC L k := ⟨_, rfl⟩
          obtain ⟨q, hq⟩ : ∃ q, q = rkC L k L.length := ⟨_, rfl⟩
          rw [← hp] at d2 hle
          rw [← hq] at d1 hle2
          rw [← hp, ← hq] at HSC
          have HP := Lib.hid hp
          have e3 : IntKind.i64.wrap ((p : Int) + (q : Int)) = ((p + q : Nat) : Int) := by rw [show (p : Int) + q = ((p + q : Nat) : Int) by omega]; exact IntWalk.i64_in _ (by omega)
          clear r0 r1 r2 hb hsc hp hq e1
          go_wp2
          go_region
          clear e2 e3
          go_wp2
          go_roundw
          case rel => exact ⟨k + 1, by omega, by go_num, H0.out.setOther (by simp; omega) _, H1.out.setOther (by simp) _, (H2.out.set (k + 1) (.int .i64 ((p + q : Nat) : Int))).congr fun j hj => by
            by_cases ej : j = k + 1
            · subst ej; rw [if_pos rfl, if_pos (Nat.le_refl _), HSC.out]
            · rw [if_neg ej]
              by_cases e : j ≤ k
              · rw [if_pos e, if_pos (by omega)]
              · rw [if_neg e, if_neg (by omega)], (HB.out.setCell (p := ⟨w.heap.size + 1 + 1, k + 1, none⟩) (by simp; omega) _).drew⟩
          case measure => simp [intOf]; omega
        · obtain rfl : k = 256 := by omega
          have hz : decide ((256 : Int) < 256) = false := by decide
          have hm0 : wr.rowIs w.heap.size 98 257 (fun c => .int .i64 (((fun _ => 0) c : Nat) : Int)) := r0
          have hm2 : wr.rowIs (w.heap.size + 1 + 1) 98 257 (fun c => .int .i64 ((stC L c : Nat) : Int)) := r2.congr fun c hc => by rw [if_pos (by omega)]
          have k0 := arr_block hm0
          have k2 := arr_block hm2
          have hl2 := loadAt_arr k2
          have hs0 := storeAt_arr (g := stC L) k0
          have hk9 : (wr.setRow w.heap.size (arrV (stC L))).heap[w.heap.size]? = some (.cells (arrV (stC L)) 98 (0, 0)) := setRow_heap _ _ _ _ _ _ k0
          have HL9 := Lib.hid (load_arr hk9)
          have HB9 := Lib.hid (below_setRow HB.out (Nat.le_refl _) (arrV (stC L)))
          clear r0 r1 r2 hb hm0 hm2 k0 k2 hk9
          have HL2 := Lib.hid hl2
          have HS0 := Lib.hid hs0
          clear hl2 hs0
          go_wp2_with (first
            | (with_reducible refine wpList_load_run rfl _ _ rfl HL2.out rfl ?_)
            | (with_reducible refine wpList_store_run rfl _ _ _ rfl HS0.out rfl rfl ?_))
          refine bodyPost_ret (v := .agg (arrV (stC L))) ?_ rfl ⟨rfl, HB9.out⟩
          exact results_cell (p := 2) (by kernel_rfl) _ _ _ rfl HL9.out
end Go.Proofs.YtjpoebmjfedecaaGreat
