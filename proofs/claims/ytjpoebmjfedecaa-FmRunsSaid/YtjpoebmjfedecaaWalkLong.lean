/-
  The statement WalkLong: its walk.
-/
import Derived.Test.YtjpoebmjfedecaaWalkAsk
import Derived.Test.YtjpoebmjfedecaaWalkAtR
import Derived.Deep.CutBlock
namespace Go.Proofs.Ytjpoebmjfedecaa
open Go.RowKit

theorem docs_pair {w : World} {a1 : Option Addr} {d : List Nat} {cap1 : Nat} (h : Row w a1 d.length (byteV d)) :
    DocsAt (w.alloc (.cells #[.slice a1 d.length cap1, .slice a1 d.length cap1] 22)) (some ⟨w.heap.size, 0, none⟩) (fun _ => a1) (fun _ => cap1) [d, d] := by
  have r := row_marked w #[.slice a1 d.length cap1, .slice a1 d.length cap1] 22 (0, 0) (fun r => .slice a1 (([d, d] : List (List Nat)).getD r []).length cap1) (by
    intro i hi
    match i, hi with
    | 0, _ => rfl
    | 1, _ => rfl)
  refine ⟨r, fun r hr => ?_⟩
  match r, hr with
  | 0, _ => exact row_alloc h _
  | 1, _ => exact row_alloc h _
theorem info_boolL : (Try.prog.info? 4).map (fun i => (i.zero, i.size, i.bytes)) = some (some (.bool false), 1, 1) := by kernel_rfl
theorem size_boolL (w : World) : (sizeOf (Try.prog.elem 32)).run Try.prog w = .ok 1 w := by kernel_rfl
theorem make_boolL (N : Nat) (h : N ≤ 1000000) : ∀ W : World, (Instr.makeSlice 32 (.int .i64 (N : Int)) (.int .i64 (N : Int))).run Try.prog W = .ok (.slice (some ⟨W.heap.size, 0, none⟩) N N) (W.alloc (.cells (madeCells #[.bool false] N) 4)) := by
  intro W
  obtain ⟨i0, hi, hz0, hz1, hz2⟩ := info_parts info_boolL
  have := run_make (P := Try.prog) W 32 4 i0 _ Try.underlying32 hi hz0 .i64 .i64 N N (by omega) (by omega) (by rw [hz2]; omega) (by omega)
  rw [hz1] at this
  simpa [Value.cells] using this
theorem make_u8L (N : Nat) (h : N ≤ 1000000) : ∀ W : World, (Instr.makeSlice 22 (.int .i64 (N : Int)) (.int .i64 (N : Int))).run Try.prog W = .ok (.slice (some ⟨W.heap.size, 0, none⟩) N N) (W.alloc (.cells (madeCells #[.int .u8 0] N) 5)) := by
  intro W
  obtain ⟨i0, hi, hz0, hz1, hz2⟩ := info_parts info_u8
  have := run_make (P := Try.prog) W 22 5 i0 _ Try.underlying22 hi hz0 .i64 .i64 N N (by omega) (by omega) (by rw [hz2]; omega) (by omega)
  rw [hz1] at this
  simpa [Value.cells] using this
def seenL (sa : List Nat) (i p : Nat) : Bool := decide (p ∈ sa.take i)
theorem seenL_zero (sa : List Nat) (p : Nat) : seenL sa 0 p = false := by simp [seenL]
theorem seenL_new (sa : List Nat) (h : sa.Nodup) (i : Nat) (hi : i < sa.length) : seenL sa i (sa.getD i 0) = false := by
  unfold seenL
  rw [decide_eq_false_iff_not, List.getD_eq_getElem?_getD, List.getElem?_eq_getElem hi]
  intro hm
  obtain ⟨j, hj, e⟩ := List.getElem_of_mem hm
  rw [List.length_take] at hj
  rw [List.getElem_take] at e
  exact (List.pairwise_iff_getElem.1 h j i (by omega) hi (by omega)) e
theorem seenL_succ (sa : List Nat) (i : Nat) (hi : i < sa.length) (p : Nat) : seenL sa (i + 1) p = if p = sa.getD i 0 then true else seenL sa i p := by
  unfold seenL
  have e : sa.take (i + 1) = sa.take i ++ [sa.getD i 0] := take_succ_getD sa i hi
  rw [e]
  by_cases h : p = sa.getD i 0
  · rw [if_pos h, h]; simp
  · rw [if_neg h]; simp only [List.mem_append, List.mem_singleton, h, or_false]
/-- bytes told over and over -/
def repL (b : List Nat) (n : Nat) : List Nat := (List.range n).map fun i => b.getD (i % b.length) 0
theorem repL_len (b : List Nat) (n : Nat) : (repL b n).length = n := by simp [repL]
theorem repL_at (b : List Nat) (n j : Nat) (h : j < n) : (repL b n).getD j 0 = b.getD (j % b.length) 0 := by simp [repL, List.getD_eq_getElem?_getD, h]
theorem repL_byte (b : List Nat) (hb : ∀ c ∈ b, c < 256) (n : Nat) : ∀ c ∈ repL b n, c < 256 := by
  intro c hc
  obtain ⟨i, _, rfl⟩ := List.mem_map.1 hc
  by_cases h : i % b.length < b.length
  · exact hb _ (getD_mem' h)
  · rw [List.getD_eq_getElem?_getD, List.getElem?_eq_none (by omega)]; decide
attribute [irreducible] repL
set_option maxRecDepth 100000 in
set_option maxHeartbeats 4000000 in
theorem wlong_walk (w : World) (a : Option Addr) (len cap : Nat) (f : Nat → Int) (hl : len ≤ maxLen) (hr : Row w a len (fun k => .int .u8 (f k)) ∧ ∀ k, k < len → (Lit.int .u8 (f k)).wf = true) (n : Int) (_ : (Lit.int .i64 n).wf = true) :
    Calls Try.prog 3 #[.slice a len cap, .int .i64 n] w fun e w' => e = .returned (.bool true) ∧ Below w.heap.size w w' := by
  obtain ⟨b, hb, hbr, hbb⟩ := bytes_list hr
  subst hb
  clear hr
  have en : bits .and .i64 n 1023 = n % 1024 := i64_mask n 10 (by omega)
  obtain ⟨N, hN, hN2⟩ : ∃ N : Nat, n % 1024 % 600 = N ∧ N < 600 := ⟨(n % 1024 % 600).toNat, by omega, by omega⟩
  have hp0 : 0 ≤ n % 1024 := by omega
  have mk1 := make_u8L N (by omega)
  have HBR := Lib.hid hbr
  have HBB := Lib.hid hbb
  have hM0 := World.rowIs_made w (.int .u8 0) N 5
  have hB0 : Below w.heap.size w (w.alloc (.cells (madeCells #[.int .u8 0] N) 5)) := (Below.refl _ w).alloc (Nat.le_refl _) _
  have HM0 := Lib.hid hM0
  have HB0 := Lib.hid hB0
  unfold maxLen at hl
  clear hbr hbb hM0 hB0
  go_enter Try.func3, Try.ntmps3
  go_upto_block 0 with fail
  generalize hwm : w.alloc (.cells (madeCells #[.int .u8 0] N) 5) = wm at *
  rw [hN]
  clear hwm mk1 en hN hp0
  have hix := run_ix (P := Try.prog) 22 (by kernel_rfl) size_u8 a b.length cap HBR.out.at_ .i64
  have hiy := run_ix (P := Try.prog) 22 (by kernel_rfl) size_u8 (some ⟨w.heap.size, 0, none⟩) N N (.inr rfl) .i64
  simp only [bOf, oOf, Option.map_some, Option.getD_some, Nat.zero_add] at hiy
  have HIX := Lib.hid hix
  have HIY := Lib.hid hiy
  clear hix hiy
  go_cut [6] (fun s6 wx => wx.rowIs w.heap.size 5 N (fun j => .int .u8 (((repL b N).getD j 0 : Nat) : Int)) ∧ Below w.heap.size w wx)
  case first =>
    go_wp2_with fail
    go_loopw [6] (fun v6 wr => ∃ i : Nat, i ≤ N ∧ (b.length = 0 → i = 0) ∧ v6 = .int .i64 (i : Int) ∧ wr.rowIs w.heap.size 5 N (fun j => if j < i then .int .u8 ((b.getD (j % b.length) 0 : Nat) : Int) else .int .u8 0) ∧ Below w.heap.size w wr) (fun v6 _ => N - (intOf v6).toNat)
    case atStart => exact ⟨0, Nat.zero_le _, fun _ => rfl, rfl, HM0.out.congr fun j _ => by simp, HB0.out⟩
    case round =>
      obtain ⟨i, hi, hz, rfl, hrow, hbel⟩ := hrel
      have HROW := Lib.hid hrow
      have HBL := Lib.hid hbel
      by_cases hlt : i < N ∧ 0 < b.length
      · obtain ⟨hlt, hlb⟩ := hlt
        have hml : i % b.length < b.length := Nat.mod_lt _ hlb
        obtain ⟨r, er, hrl⟩ : ∃ r : Nat, (i : Int) % (b.length : Int) = (r : Int) ∧ r < b.length := ⟨i % b.length, by simp, hml⟩
        have er' : r = i % b.length := by have := Int.natCast_emod i b.length; omega
        have ER := Lib.hid er'
        obtain ⟨c, hc⟩ : ∃ c, c = b.getD r 0 := ⟨_, rfl⟩
        have d1 : wr.cell? ⟨bOf a, oOf a + r, none⟩ = some (.int .u8 ((b.getD r 0 : Nat) : Int)) := (HBR.out.kept hbel).cell r hrl
        rw [← hc] at d1
        have HC := Lib.hid hc
        have d2 := hrow.cell (i := i) hlt
        rw [if_neg (by omega)] at d2
        have d3 := hrow.frozen i
        have hx := fun W => HIX.out W r hrl
        have hy := fun W => HIY.out W i hlt
        clear hrow hbel er' hz hml hc
        go_wp2
        go_roundw
        case rel => exact ⟨i + 1, by omega, fun h => by omega, by go_num, (HROW.out.set i _).congr fun j hj => by
          by_cases ej : j = i
          · subst ej; rw [if_pos rfl, if_pos (by omega), ← ER.out, ← HC.out]
          · rw [if_neg ej]
            by_cases e2 : j < i
            · rw [if_pos e2, if_pos (by omega)]
            · rw [if_neg e2, if_neg (by omega)], HBL.out.setCell (p := ⟨w.heap.size, i, none⟩) (Nat.le_refl _) _⟩
        case measure => simp [intOf]; omega
      · have hfin : wr.rowIs w.heap.size 5 N (fun j => .int .u8 (((repL b N).getD j 0 : Nat) : Int)) := hrow.congr fun j hj => by
          rw [repL_at b N j hj]
          by_cases h0 : b.length = 0
          · rw [if_neg (by have := hz h0; omega), List.getD_eq_getElem?_getD, List.getElem?_eq_none (by omega)]; rfl
          · rw [if_pos (by omega)]
        have HFIN := Lib.hid hfin
        clear hrow hbel hfin
        by_cases hiN : i = N
        · subst hiN
          have t1 : decide ((i : Int) < (i : Int)) = false := by simp
          clear hz hlt
          go_wp2
          go_meet
          exact ⟨HFIN.out, HBL.out⟩
        · have hb0 : b.length = 0 := by omega
          have t1 : (i : Int) < (N : Int) := by omega
          have t2 : decide ((0 : Int) < (b.length : Int)) = false := by rw [hb0]; rfl
          have t3 : decide (0 < b.length) = false := by rw [hb0]; rfl
          clear hz hlt hb0 hiN
          go_wp2
          go_meet
          exact ⟨HFIN.out, HBL.out⟩
  case rest =>
    obtain ⟨hrow, hbel⟩ := hcut
    have r7 : Row wc (some ⟨w.heap.size, 0, none⟩) (repL b N).length (byteV (repL b N)) := by rw [repL_len]; exact Row.of_row hrow (Nat.le_refl _)
    obtain ⟨d, hd⟩ : ∃ d, d = repL b N := ⟨_, rfl⟩
    have hdl : d.length = N := by rw [hd, repL_len]
    have hdb : ∀ c ∈ d, c < 256 := by rw [hd]; exact repL_byte b HBB.out N
    rw [← hd] at r7
    have HDR := Lib.hid r7
    clear hrow hd r7 HIX HIY HM0 HB0 HBR HBB hl
    subst hdl
    have hdoc := docs_pair (cap1 := d.length) HDR.out
    have hok : NewOk [d, d] := ⟨by simp, fun y hy => by simp at hy; subst hy; omega, by simp [rowOf]; omega, fun y hy => by simp at hy; subst hy; exact hdb⟩
    have hb1 : Below w.heap.size w (wc.alloc (.cells #[.slice (some ⟨w.heap.size, 0, none⟩) d.length d.length, .slice (some ⟨w.heap.size, 0, none⟩) d.length d.length] 22)) := hbel.alloc hbel.size _
    have HB1 := Lib.hid hb1
    have HMD := Lib.hid (bmade_any _ _ 2 _ _ [d, d] hdoc hok)
    have HDR1 := Lib.hid (HDR.out.kept ((Below.refl _ wc).alloc (Nat.le_refl _) (.cells #[.slice (some ⟨w.heap.size, 0, none⟩) d.length d.length, .slice (some ⟨w.heap.size, 0, none⟩) d.length d.length] 22)))
    have HOK := Lib.hid hok
    clear hdoc hb1 hok hbel HDR
    go_wp2_with fail
    generalize wc.alloc (.cells #[.slice (some ⟨w.heap.size, 0, none⟩) d.length d.length, .slice (some ⟨w.heap.size, 0, none⟩) d.length d.length] 22) = w1 at *
    refine (show Calls Try.prog _ _ w1 _ from HMD.out.mono ?_)
    rintro e w2 ⟨bx, bm, al, cl, rfl, hi, hb2, -⟩
    have HI2 := Lib.hid hi
    have HB2 : Hid (Below w.heap.size w w2) := below_next HB1.out hb2 HB1.out.size
    have HDR2 := Lib.hid (HDR1.out.kept hb2)
    clear hi hb2 HDR1 HMD HB1
    go_wp2_with fail
    refine (wnew_any w2 bx bm al cl [d, d] HOK.out HI2.out).mono ?_
    rintro e w3 ⟨bp, bq, vS, vZ, Y, rfl, hp, hb3, -⟩
    have HP3 := Lib.hid hp
    have HI3 := Lib.hid (HI2.out.kept hb3)
    have HB3 : Hid (Below w.heap.size w w3) := below_next HB2.out hb3 HB2.out.size
    have HDR3 := Lib.hid (HDR2.out.kept hb3)
    have hsl : (putS (putsTo [d, d] [d, d].length)).length = 2 * (d.length / 32 + 1) := by rw [putS_len]; simp [List.range_succ]; omega
    have HSM := Lib.hid (wsamples_any w3 Y bp bq vS vZ _ _ _ _ hp (by rw [hsl]; omega))
    clear hp hb3 HB2 HI2 HDR2
    have HSL := Lib.hid hsl
    clear hsl
    go_wp2_with fail
    refine HSM.out.mono ?_
    rintro e w4 ⟨a4, rfl, -, hb4, -⟩
    rw [HSL.out]
    have HP4 := Lib.hid (HP3.out.kept (KeepX.of_below hb4))
    have HI4 := Lib.hid (HI3.out.kept hb4)
    have HB4 : Hid (Below w.heap.size w w4) := below_next HB3.out hb4 HB3.out.size
    have HDR4 := Lib.hid (HDR3.out.kept hb4)
    clear hb4 HB3 HI3 HDR3 HP3 HSM HSL
    obtain ⟨m, hm⟩ : ∃ m, m = 2 * (d.length + 1) := ⟨_, rfl⟩
    have hmi : (2 * ((d.length : Int) + 1)) = (m : Int) := by omega
    have mk2 := make_boolL m (by omega)
    rw [← hmi] at mk2
    have HM := Lib.hid hm
    have HMI := Lib.hid hmi
    have HMB0 := Lib.hid (World.rowIs_made w4 (.bool false) m 4)
    have HBM : Hid (Below w4.heap.size w4 (w4.alloc (.cells (madeCells #[.bool false] m) 4))) := (Below.refl _ _).alloc (Nat.le_refl _) _
    clear hm hmi
    go_wp2_with fail
    clear mk2
    generalize w4.alloc (.cells (madeCells #[.bool false] m) 4) = wm5 at *
    have hRL : (rowsR [d, d]).length = m := by rw [rows_len, HM.out]; simp [rowOf]; omega
    have HRL := Lib.hid hRL
    have HBWL : Hid ((bwtOf [d, d]).length = m) := by show _ = _; rw [bwtOf_len, ← rows_len]; exact hRL
    clear hRL
    go_loopw [11] (fun v11 wr => ∃ i : Nat, i ≤ m ∧ v11 = .int .i64 (i : Int) ∧ wr.rowIs w4.heap.size 4 m (fun p => .bool (seenL (saOf [d, d]) i p)) ∧ Below w4.heap.size w4 wr) (fun v11 _ => m - (intOf v11).toNat)
    case atStart => exact ⟨0, Nat.zero_le _, rfl, HMB0.out.congr fun j _ => by rw [seenL_zero], HBM.out⟩
    case round =>
      obtain ⟨i, hi, rfl, hrow, hbel⟩ := hrel
      have hmb : m ≤ 2000 := by have := HM.out; omega
      clear HMB0 HBM
      have HROW := Lib.hid hrow
      have HBEL := Lib.hid hbel
      have HIr := Lib.hid (HI4.out.kept hbel)
      have HPr := Lib.hid (HP4.out.kept (KeepX.of_below hbel))
      have HLN := Lib.hid (blen_any wr bx bm al cl _ HIr.out)
      rw [HBWL.out] at HLN
      clear hrow hbel
      by_cases hlt : i < m
      · obtain ⟨k, o, hko⟩ : ∃ k o, (rowsR [d, d]).getD i (0, 0) = (k, o) := ⟨_, _, rfl⟩
        have hir : i < (rowsR [d, d]).length := by rw [HRL.out]; exact hlt
        have hv := rows_at [d, d] i hir
        rw [hko] at hv
        obtain ⟨hk2, hol⟩ := hv
        simp only [List.length_cons, List.length_nil] at hk2 hol
        have hkd : ([d, d] : List (List Nat)).getD k [] = d := by
          match k, hk2 with
          | 0, _ => rfl
          | 1, _ => rfl
        rw [hkd] at hol
        have hsa : (saOf [d, d]).getD i 0 = k * (d.length + 1) + o := by
          rw [sa_row _ i hir, hko]
          match k, hk2 with
          | 0, _ => show startOf _ 0 + o = _; rw [startOf_zero]; omega
          | 1, _ =>
            show startOf _ 1 + o = _
            rw [startOf_succ _ 0 (by simp), startOf_zero]
            simp
        have hbw := bwt_row [d, d] i hir
        rw [hko] at hbw
        simp only [hkd] at hbw
        have HAT := Lib.hid (watr_any wr bx bm al cl [d, d] HOK.out HIr.out Y bp bq vS vZ _ _ _ HPr.out i k o hir hko)
        obtain ⟨p, hp⟩ : ∃ p, p = k * (d.length + 1) + o := ⟨_, rfl⟩
        have hpm : p < m := by
          have h1 := HM.out
          have h2 : k * (d.length + 1) ≤ 1 * (d.length + 1) := Nat.mul_le_mul_right _ (by omega)
          omega
        obtain ⟨q, hq⟩ : ∃ q : Nat, q = k * (d.length + 1) := ⟨_, rfl⟩
        have hq2 : q ≤ d.length + 1 := by
          have h2 : k * (d.length + 1) ≤ 1 * (d.length + 1) := Nat.mul_le_mul_right _ (by omega)
          omega
        have hqi : (k : Int) * ((d.length : Int) + 1) = (q : Int) := by rw [hq]; simp
        have y1 : IntKind.i64.wrap ((k : Int) * ((d.length : Int) + 1)) = (q : Int) := by rw [hqi]; exact IntWalk.i64_in _ (by omega)
        have y2 : IntKind.i64.wrap ((q : Int) + (o : Int)) = (p : Int) := by rw [show (q : Int) + (o : Int) = (p : Int) by omega]; exact IntWalk.i64_in _ (by omega)
        rw [← hp] at hsa
        have HSA := Lib.hid hsa
        have hnd : (saOf [d, d]).Nodup := (saOf_sa _).ord.imp (fun h e => by subst e; exact ltS_asymm h h)
        have hsl : i < (saOf [d, d]).length := by rw [(saOf_sa _).len, ← rows_len]; exact hir
        have hnew := seenL_new _ hnd i hsl
        have HSS := Lib.hid (seenL_succ (saOf [d, d]) i hsl)
        rw [hsa] at hnew HSS
        have hk1 : (k : Int) ≤ 1 := by omega
        have ho1 : (o : Int) ≤ (d.length : Int) := by omega
        have hixb := run_ix (P := Try.prog) 32 (by kernel_rfl) size_boolL (some ⟨w4.heap.size, 0, none⟩) m m (.inr rfl) .i64
        simp only [bOf, oOf, Option.map_some, Option.getD_some, Nat.zero_add] at hixb
        have hx := fun W => hixb W p hpm
        have HBW := Lib.hid hbw
        clear hbw hsa hnd hsl hq hp hqi hkd hk2 hko hir hixb
        go_wp2_with fail
        refine HLN.out.mono ?_
        rintro e w' ⟨rfl, rfl⟩
        go_wp2_with fail
        refine HAT.out.mono ?_
        rintro e w6 ⟨rfl, hb6⟩
        have HROW6 := Lib.hid (row_below HROW.out hb6 HROW.out.lt)
        have HB6 : Hid (Below w4.heap.size w4 w6) := below_next HBEL.out hb6 HBEL.out.size
        have HI6 := Lib.hid (HIr.out.kept hb6)
        clear hb6 HAT HLN HROW HBEL HIr HPr
        have d1 : w6.cell? ⟨w4.heap.size, p, none⟩ = some (.bool false) := by rw [HROW6.out.cell (i := p) hpm, hnew]
        have d2 := HROW6.out.frozen p
        have HROW7 : Hid ((w6.setCell ⟨w4.heap.size, p, none⟩ (.bool true)).rowIs w4.heap.size 4 m (fun q => .bool (seenL (saOf [d, d]) (i + 1) q))) := (HROW6.out.set p (.bool true)).congr fun j hj => by
          rw [HSS.out]
          by_cases e : j = p
          · rw [if_pos e, if_pos e]
          · rw [if_neg e, if_neg e]
        have HB7 : Hid (Below w4.heap.size w4 (w6.setCell ⟨w4.heap.size, p, none⟩ (.bool true))) := HB6.out.setCell (p := ⟨w4.heap.size, p, none⟩) (Nat.le_refl _) _
        have hb67 : Below w4.heap.size w4 (w6.setCell ⟨w4.heap.size, p, none⟩ (.bool true)) := HB7.out
        have HSY := Lib.hid (bsym_any _ bx bm al cl _ (HI4.out.kept hb67) (i : Int))
        rw [wget_in _ i (by rw [HBWL.out]; exact hlt)] at HSY
        clear hb67 hnew
        go_wp2_with fail
        refine HSY.out.mono ?_
        rintro e w8 ⟨rfl, j8, rfl⟩
        have HROW8 := Lib.hid (row_drewN HROW7.out j8)
        have HB8 : Hid (Below w4.heap.size w4 ((w6.setCell ⟨w4.heap.size, p, none⟩ (.bool true)).drewN j8)) := below_drewN HB7.out j8
        clear d1 d2 hx y1 y2 HSY HROW6 HB6
        generalize w6.setCell ⟨w4.heap.size, p, none⟩ (.bool true) = w7 at *
        by_cases h0 : o = 0
        · have hc := HBW.out
          rw [if_pos h0] at hc
          rw [hc]
          have b1 : ((o : Int) != 0) = false := by rw [h0]; rfl
          have b2 : (o != 0) = false := by rw [h0]; rfl
          clear h0 hc
          go_wp2
          go_roundw
          case rel => exact ⟨i + 1, by omega, by go_num, HROW8.out, HB8.out⟩
          case measure => simp [intOf]; omega
        · obtain ⟨o1, rfl⟩ : ∃ o1, o = o1 + 1 := ⟨o - 1, by omega⟩
          have hc := HBW.out
          rw [if_neg h0, Nat.add_sub_cancel] at hc
          have hr0 := (HDR4.out.kept HB8.out).cell o1 (by omega)
          rw [hc]
          have hxv : d.getD o1 0 < 256 := hdb _ (getD_mem' (show o1 < d.length by omega))
          have hr1 : ((w7.drewN j8).cell? ⟨w.heap.size, o1, none⟩) = some (.int .u8 ((d.getD o1 0 : Nat) : Int)) := by
            have h := hr0
            simp only [bOf, oOf, Option.map_some, Option.getD_some, Nat.zero_add] at h
            exact h
          clear hr0 hc
          generalize d.getD o1 0 = x at *
          have hr2 : w7.cell? ⟨w.heap.size, o1, none⟩ = some (.int .u8 (x : Int)) := hr1
          have b1 : (((x + 1 : Nat) : Int) == 0) = false := by simp; omega
          have b2 : (x + 1 == 0) = false := by simp
          have b3 : (0 : Int) < ((x + 1 : Nat) : Int) := by omega
          have b4 : (((o1 + 1 : Nat) : Int) == 0) = false := by simp; omega
          have b5 : (o1 + 1 == 0) = false := by simp
          have z1 : IntKind.i64.wrap (((o1 + 1 : Nat) : Int) - 1) = (o1 : Int) := by rw [show ((o1 + 1 : Nat) : Int) - 1 = (o1 : Int) by omega]; exact IntWalk.i64_in _ (by omega)
          have hiy := run_ix (P := Try.prog) 22 (by kernel_rfl) size_u8 (some ⟨w.heap.size, 0, none⟩) d.length d.length (.inr rfl) .i64
          simp only [bOf, oOf, Option.map_some, Option.getD_some, Nat.zero_add] at hiy
          have hy := fun W => hiy W o1 (by omega)
          clear hiy h0
          go_wp2
          go_roundw
          case rel => exact ⟨i + 1, by omega, by go_num, HROW8.out, HB8.out⟩
          case measure => simp [intOf]; omega
      · obtain rfl : i = m := by omega
        have hd : decide ((i : Int) < (i : Int)) = false := by simp
        have HBW : Hid (Below w.heap.size w wr) := below_next HB4.out HBEL.out HB4.out.size
        have hmi := HMI.out
        clear hlt hi
        go_wp2_with fail
        refine HLN.out.mono ?_
        rintro e w' ⟨rfl, rfl⟩
        go_wp2_with fail
        refine HLN.out.mono ?_
        rintro e w' ⟨rfl, rfl⟩
        go_wp2_with (go_at_call 16; refine (awake13_any _).mono ?_; rintro e w9 ⟨rfl, hb9⟩)
        go_ret
        exact ⟨rfl, below_next HBW.out hb9 HBW.out.size⟩
end Go.Proofs.Ytjpoebmjfedecaa
