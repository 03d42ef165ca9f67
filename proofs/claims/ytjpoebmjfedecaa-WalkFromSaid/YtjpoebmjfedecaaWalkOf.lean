/-
  walk.From: samples as they were told.
-/
import Derived.Test.YtjpoebmjfedecaaWalkAsk
import Derived.Test.YtjpoebmjfedecaaWalkAt
namespace Go.Proofs.Ytjpoebmjfedecaa
open Go.RowKit Go.Maps

/-! ### plain -/
def zL (z : Nat → Int) (nz : Nat) : List Nat := (List.range nz).map fun i => (z i).toNat
theorem zL_len (z : Nat → Int) (nz : Nat) : (zL z nz).length = nz := by simp [zL]
theorem zL_at (z : Nat → Int) (nz i : Nat) (h : i < nz) : (zL z nz).getD i 0 = (z i).toNat := by unfold zL; rw [List.getD_eq_getElem?_getD, List.getElem?_map, List.getElem?_range h]; rfl
def cntTo (Z : List Nat) : Nat → Nat
  | 0 => 0
  | j + 1 => cntTo Z j + (Z.getD j 0 / 32 + 1)
theorem cntTo_mono (Z : List Nat) {i j : Nat} (h : i ≤ j) : cntTo Z i ≤ cntTo Z j := by
  obtain ⟨d, rfl⟩ := Nat.le.dest h
  induction d with
  | zero => exact Nat.le_refl _
  | succ d ih => have := ih (by omega); show _ ≤ cntTo Z (i + d) + _; omega
def fromD (s : Nat → Nat) (Z : List Nat) (j k : Nat) : List (Nat × Nat × Nat) := (List.range k).map fun q => (s (cntTo Z j + q), j, 32 * q)
def fromTo (s : Nat → Nat) (Z : List Nat) (m : Nat) : List (Nat × Nat × Nat) := (List.range m).flatMap fun j => fromD s Z j (Z.getD j 0 / 32 + 1)
theorem fromD_zero (s : Nat → Nat) (Z : List Nat) (j : Nat) : fromD s Z j 0 = [] := rfl
theorem fromD_succ (s : Nat → Nat) (Z : List Nat) (j k : Nat) : fromD s Z j (k + 1) = fromD s Z j k ++ [(s (cntTo Z j + k), j, 32 * k)] := by simp [fromD, List.range_succ]
theorem fromTo_zero (s : Nat → Nat) (Z : List Nat) : fromTo s Z 0 = [] := rfl
theorem fromTo_succ (s : Nat → Nat) (Z : List Nat) (m : Nat) : fromTo s Z (m + 1) = fromTo s Z m ++ fromD s Z m (Z.getD m 0 / 32 + 1) := by simp [fromTo, List.range_succ]
theorem fromD_putS (s : Nat → Nat) (Z : List Nat) (j k : Nat) : putS (fromD s Z j k) = (List.range k).map fun q => s (cntTo Z j + q) := by simp [putS, fromD]
theorem fromTo_putS (s : Nat → Nat) (Z : List Nat) : ∀ m, putS (fromTo s Z m) = (List.range (cntTo Z m)).map s
  | 0 => rfl
  | m + 1 => by
    have ih := fromTo_putS s Z m
    have e : putS (fromTo s Z (m + 1)) = putS (fromTo s Z m) ++ putS (fromD s Z m (Z.getD m 0 / 32 + 1)) := by unfold putS; rw [fromTo_succ, List.map_append]
    rw [e, ih, fromD_putS]
    show _ = (List.range (cntTo Z m + (Z.getD m 0 / 32 + 1))).map s
    generalize Z.getD m 0 / 32 + 1 = d
    rw [List.range_add, List.map_append, List.map_map]; rfl
theorem fromP_putS (s : Nat → Nat) (Z : List Nat) (j q : Nat) : putS (fromTo s Z j ++ fromD s Z j q) = (List.range (cntTo Z j + q)).map s := by
  have e : putS (fromTo s Z j ++ fromD s Z j q) = putS (fromTo s Z j) ++ putS (fromD s Z j q) := by unfold putS; rw [List.map_append]
  rw [e, fromTo_putS, fromD_putS, List.range_add, List.map_append, List.map_map]; rfl
theorem fromP_len (s : Nat → Nat) (Z : List Nat) (j q : Nat) : (fromTo s Z j ++ fromD s Z j q).length = cntTo Z j + q := by
  have := congrArg List.length (fromP_putS s Z j q)
  simpa [putS] using this
/-- which samples and sizes are taken -/
def GoodP (s : Nat → Int) (ns : Nat) (z : Nat → Int) (nz : Nat) : Prop :=
  nz ≤ 500 ∧ (∀ i, i < nz → 0 ≤ z i ∧ z i ≤ 2000) ∧ cntTo (zL z nz) nz = ns ∧ (∀ i, i < ns → 0 ≤ s i ∧ s i ≤ 60499) ∧ ∀ i, i < ns → ∀ k, k < i → s k ≠ s i
attribute [irreducible] fromD fromTo
/-! ### the walk -/
def cut1 (a : Option Addr) (cap k : Nat) : Option Addr := if cap = k then a else a.map (·.add k)
theorem cutI_from (a : Option Addr) (n cap k : Nat) (h : k ≤ n) (hc : n ≤ cap) : ∀ W : World, (Instr.slice 30 (.slice a n cap) (some (.int .i64 (k : Int))) none none).run Try.prog W = .ok (.slice (cut1 a cap k) (n - k) (cap - k)) W := by
  intro W
  have hs := size_int W
  unfold cut1
  simp [Instr.slice, run_underlying Try.underlying30, Instr.sliceBounds, run_sliceBound, show (0 : Int) ≤ k by omega, show (k : Int) ≤ n by omega]
theorem Row.cut1 {w : World} {a : Option Addr} {n : Nat} {f : Nat → Value} (h : Row w a n f) (cap k : Nat) (hc : n ≤ cap) (hk : k ≤ n) : Row w (cut1 a cap k) (n - k) (fun j => f (k + j)) := by
  by_cases e : cap = k
  · have : n - k = 0 := by omega
    rw [this]; exact Row.nil _ _ _
  · unfold Proofs.Ytjpoebmjfedecaa.cut1
    rw [if_neg e]
    rcases h.at_ with e0 | e0
    · have : n - k = 0 := by omega
      rw [this]; exact Row.nil _ _ _
    · have e1 : a.map (·.add k) = some ⟨bOf a, oOf a + k, none⟩ := by
        conv => lhs; rw [e0]
        simp [Addr.add]
      rw [e1]
      refine ⟨.inr rfl, fun j hj => ?_⟩
      have := h.cell (k + j) (by omega)
      show w.cell? ⟨bOf a, oOf a + k + j, none⟩ = _
      rw [Nat.add_assoc]; exact this
set_option maxHeartbeats 400000 in
theorem fromq_any (w : World) (n : Int) : Calls Try.prog 51 #[.int .i64 n] w fun e w' => e = .returned (.bool (decide (n < 0 ∨ 2000 < n))) ∧ w = w' := by
  by_cases h0 : n < 0
  · have t : decide (n < 0 ∨ 2000 < n) = true := by simp; omega
    rw [t]
    go_enter Try.func51, Try.ntmps51
    go_wp2
    go_ret
    exact ⟨rfl, rfl⟩
  · have t0 : decide (n < 0) = false := by simp; omega
    by_cases h1 : 2000 < n
    · have t : decide (n < 0 ∨ 2000 < n) = true := by simp; omega
      rw [t]
      go_enter Try.func51, Try.ntmps51
      go_wp2
      go_ret
      exact ⟨rfl, rfl⟩
    · have t : decide (n < 0 ∨ 2000 < n) = false := by simp; omega
      have t1 : decide (2000 < n) = false := by simp; omega
      rw [t]
      go_enter Try.func51, Try.ntmps51
      go_wp2
      go_ret
      exact ⟨rfl, rfl⟩
set_option maxRecDepth 100000 in
set_option maxHeartbeats 1000000 in
theorem idxfrom_any (w : World) (a : Option Addr) (n cap : Nat) (z : Nat → Int) (hn : n ≤ 1000000000) (hr : Row w a n (fun k => .int .i64 (z k))) :
    Calls Try.prog 67 #[.slice a n cap, .func (.func 51) #[] #[]] w fun e w' => ∃ i : Int, e = .returned (.int .i64 i) ∧ w = w' ∧ ((0 ≤ i ∧ ∃ k, k < n ∧ (z k < 0 ∨ 2000 < z k)) ∨ (i = -1 ∧ ∀ k, k < n → 0 ≤ z k ∧ z k ≤ 2000)) := by
  have hix := run_ix (P := Try.prog) 30 (by kernel_rfl) size_int a n cap hr.at_ .i64
  have HR := Lib.hid hr
  have HIX := Lib.hid hix
  clear hr hix
  go_enter Try.func67, Try.ntmps67
  go_wp2
  go_loopw [8] (fun v8 wr => ∃ k : Nat, k ≤ n ∧ v8 = .int .i64 (k : Int) ∧ wr = w ∧ ∀ q, q < k → 0 ≤ z q ∧ z q ≤ 2000) (fun v8 _ => n - (intOf v8).toNat)
  case atStart => exact ⟨0, Nat.zero_le _, rfl, rfl, fun q h => by omega⟩
  case round =>
    obtain ⟨k, hk, rfl, rfl, hz⟩ := hrel
    have HZ := Lib.hid hz
    clear hz
    by_cases hlt : k < n
    · have d1 := HR.out.cell k hlt
      have hx := fun W => HIX.out W k hlt
      by_cases hb : z k < 0 ∨ 2000 < z k
      · have hq := fromq_any wr (z k)
        rw [decide_eq_true hb] at hq
        have HQ := Lib.hid hq
        have HB := Lib.hid hb
        clear hb hq
        go_wp2_with fail
        refine HQ.out.mono ?_
        rintro e w' ⟨rfl, rfl⟩
        go_wp2
        go_ret
        exact ⟨_, rfl, rfl, .inl ⟨by omega, k, hlt, HB.out⟩⟩
      · have hq := fromq_any wr (z k)
        rw [decide_eq_false hb] at hq
        have HQ := Lib.hid hq
        have HB := Lib.hid hb
        clear hb hq
        go_wp2_with fail
        refine HQ.out.mono ?_
        rintro e w' ⟨rfl, rfl⟩
        go_wp2
        go_roundw
        case rel => exact ⟨k + 1, by omega, by go_num, (by first | rfl | trivial), fun q hq => (Nat.lt_or_ge q k).elim (HZ.out q) (fun h => by obtain rfl : q = k := (by omega); have := HB.out; omega)⟩
        case measure => simp [intOf]; omega
    · obtain rfl : k = n := by omega
      have hd : decide ((k : Int) < (k : Int)) = false := by simp
      go_wp2
      go_ret
      exact ⟨_, rfl, rfl, .inr ⟨rfl, HZ.out⟩⟩
set_option maxHeartbeats 400000 in
theorem contfrom_any (w : World) (a : Option Addr) (n cap : Nat) (z : Nat → Int) (hn : n ≤ 1000000000) (hr : Row w a n (fun k => .int .i64 (z k))) :
    Calls Try.prog 50 #[.slice a n cap, .func (.func 51) #[] #[]] w fun e w' => ∃ b : Bool, e = .returned (.bool b) ∧ w = w' ∧ ((b = true ∧ ∃ k, k < n ∧ (z k < 0 ∨ 2000 < z k)) ∨ (b = false ∧ ∀ k, k < n → 0 ≤ z k ∧ z k ≤ 2000)) := by
  have HI := Lib.hid (idxfrom_any w a n cap z hn hr)
  clear hr
  go_enter Try.func50, Try.ntmps50
  go_wp2_with fail
  refine HI.out.mono ?_
  rintro e w' ⟨i, rfl, rfl, h⟩
  rcases h with ⟨h0, hk⟩ | ⟨rfl, hk⟩
  · have HK := Lib.hid hk
    clear hk
    go_wp2
    go_ret
    exact ⟨_, rfl, rfl, .inl ⟨by simp [h0], HK.out⟩⟩
  · have HK := Lib.hid hk
    clear hk
    go_wp2
    go_ret
    exact ⟨_, rfl, rfl, .inr ⟨by simp, HK.out⟩⟩
/-- the samples that were taken, so far -/
structure FrmRel (w : World) (s : Nat → Int) (ns : Nat) (z : Nat → Int) (nz : Nat) (bp bm : Nat) (vZ : Value) (j q : Nat) (v7 : Value) (W : World) : Prop where
  rest : ∃ ar cr, v7 = .slice ar (ns - (cntTo (zL z nz) j + q)) cr ∧ ns - (cntTo (zL z nz) j + q) ≤ cr ∧ Row w ar (ns - (cntTo (zL z nz) j + q)) (fun i => .int .i64 (s (cntTo (zL z nz) j + q + i)))
  le : cntTo (zL z nz) j + q ≤ ns
  pl : ∃ Y vS, PlIn Y W bp bm vS vZ (putS (fromTo (fun i => (s i).toNat) (zL z nz) j ++ fromD (fun i => (s i).toNat) (zL z nz) j q)) (zL z nz) (cntTo (zL z nz) j + q) (putF (fromTo (fun i => (s i).toNat) (zL z nz) j ++ fromD (fun i => (s i).toNat) (zL z nz) j q)) ∧ ∀ b, Y b → w.heap.size ≤ b
  rg : ∀ i, i < cntTo (zL z nz) j + q → 0 ≤ s i ∧ s i ≤ 60499
  di : ∀ i, i < cntTo (zL z nz) j + q → ∀ k, k < i → s k ≠ s i
  bel : Below w.heap.size w W
theorem FrmRel.next {w : World} {s : Nat → Int} {ns : Nat} {z : Nat → Int} {nz bp bm : Nat} {vZ : Value} {j : Nat} {v7 : Value} {W : World} (h : FrmRel w s ns z nz bp bm vZ j ((zL z nz).getD j 0 / 32 + 1) v7 W) : FrmRel w s ns z nz bp bm vZ (j + 1) 0 v7 W := by
  have e : cntTo (zL z nz) (j + 1) + 0 = cntTo (zL z nz) j + ((zL z nz).getD j 0 / 32 + 1) := rfl
  have e2 : ∀ f : Nat → Nat, fromTo f (zL z nz) (j + 1) ++ fromD f (zL z nz) (j + 1) 0 = fromTo f (zL z nz) j ++ fromD f (zL z nz) j ((zL z nz).getD j 0 / 32 + 1) := fun f => by rw [fromD_zero, List.append_nil, fromTo_succ]
  exact ⟨by rw [e]; exact h.rest, by rw [e]; exact h.le, by rw [e, e2]; exact h.pl, by rw [e]; exact h.rg, by rw [e]; exact h.di, h.bel⟩
def FromPost (w : World) (s : Nat → Int) (ns : Nat) (z : Nat → Int) (nz : Nat) (e : Ending) (w' : World) : Prop :=
  Below w.heap.size w w' ∧ ((GoodP s ns z nz ∧ ∃ bp bm vS vZ Y, e = .returned (.tuple #[.pointer (some ⟨bp, 0, none⟩), .int .i64 0]) ∧ PlIn Y w' bp bm vS vZ (putS (fromTo (fun i => (s i).toNat) (zL z nz) nz)) (zL z nz) ns (putF (fromTo (fun i => (s i).toNat) (zL z nz) nz)))
    ∨ (¬ GoodP s ns z nz ∧ e = .returned (.tuple #[.pointer none, .int .i64 3])))
set_option maxRecDepth 100000 in
set_option maxHeartbeats 4000000 in
theorem wfrom_any (w : World) (as_ az : Option Addr) (ns cs nz cz : Nat) (s z : Nat → Int) (hns : ns ≤ 1000000) (hnz : nz ≤ 1000000) (hcs : ns ≤ cs) (hrs : Row w as_ ns (fun k => .int .i64 (s k))) (hrz : Row w az nz (fun k => .int .i64 (z k))) (hws : ∀ k, k < ns → (Lit.int .i64 (s k)).wf = true) :
    Calls Try.prog 24 #[.slice as_ ns cs, .slice az nz cz] w (FromPost w s ns z nz) := by
  have HRS := Lib.hid hrs
  have HRZ := Lib.hid hrz
  have HWS := Lib.hid hws
  by_cases h5 : 500 < nz
  · clear hrs hrz hws
    go_enter Try.func24, Try.ntmps24
    go_wp2
    go_ret2
    exact ⟨Below.refl _ _, .inr ⟨fun h => by have := h.1; omega, rfl⟩⟩
  · have h5b : decide (500 < nz) = false := by simp; omega
    have h5c : decide ((500 : Int) < (nz : Int)) = false := by simp; omega
    have HC := Lib.hid (contfrom_any w az nz cz z (by omega) hrz)
    have HCL := Lib.hid (cloneI_any w az nz cz _ hnz (fun _ _ => rfl) hrz)
    clear hrs hrz hws
    go_enter Try.func24, Try.ntmps24
    go_wp2_with fail
    refine HC.out.mono ?_
    rintro e w' ⟨b, rfl, rfl, hb⟩
    rcases hb with ⟨rfl, k, hk, hbad⟩ | ⟨rfl, hz⟩
    · go_wp2
      go_ret2
      exact ⟨Below.refl _ _, .inr ⟨fun h => by have := h.2.1 k hk; omega, rfl⟩⟩
    · have HZ := Lib.hid hz
      clear hz HC
      go_wp2_with fail
      refine HCL.out.mono ?_
      rintro e w1 ⟨_, a1, c1, rfl, rfl, hc1, hn1, hr1, hb1, hlo1, how, hnn⟩
      have hmm := @run_makeMap Try.prog
      have hownZ : w1.ownsRow w.heap.size 3 1 (.slice a1 nz c1) (zL z nz).length (intsN (zL z nz)) := by
        rw [zL_len]
        cases az with
        | none =>
          have h0 := hnn rfl
          subst h0
          have hn0 : nz = 0 := by rcases hr1.at_ with h | h; · exact h
                                  · cases h
          subst hn0
          have := hn1 rfl
          subst this
          exact World.ownsRow_nil _ _ _ _
        | some ad =>
          have h1 := how (by simp)
          have e1 : (List.range nz).map (fun k => Value.int .i64 (z k)) = intsN (zL z nz) := by
            unfold intsN zL
            rw [List.map_map]
            refine List.map_congr_left fun k hk => ?_
            have := HZ.out k (List.mem_range.1 hk)
            show _ = Value.int .i64 (((z k).toNat : Nat) : Int)
            rw [Int.toNat_of_nonneg this.1]
          rw [← e1]; exact h1
      have hob := hownZ.lt
      have hb2 : Below w1.heap.size w1 ((w1.alloc (.map #[] 0)).alloc (.cells #[.slice none 0 0, (.slice a1 nz c1), .map (some w1.heap.size)] 78)) := ((Below.refl _ w1).alloc (Nat.le_refl _) _).alloc (by simp) _
      have hPL : PlIn (fun b => b = w1.heap.size ∨ b = w1.heap.size + 1 ∨ (Value.slice a1 nz c1).ownBlock = some b) ((w1.alloc (.map #[] 0)).alloc (.cells #[.slice none 0 0, (.slice a1 nz c1), .map (some w1.heap.size)] 78)) (w1.heap.size + 1) w1.heap.size (.slice none 0 0) (.slice a1 nz c1) [] (zL z nz) 0 (fun _ => none) :=
        ⟨by have := World.alloc_heap_new (w1.alloc (.map #[] 0)) (.cells #[.slice none 0 0, (.slice a1 nz c1), .map (some w1.heap.size)] 78); rwa [World.size_alloc] at this,
         World.ownsRow_nil _ _ _ _, owns_lower ((hownZ.alloc _).alloc _) (Nat.zero_le _), .inr (.inl rfl), (PMap.made w1).kept (Below.heap_alloc _ _ _ (by simp)), by omega, by simp; omega, by simp [Value.ownBlock], fun e => by have := (hob _ e).2; omega, by simp [Value.ownBlock], fun e => by have := (hob _ e).2; omega, .inr (.inl rfl), .inl rfl, fun g e => by simp [Value.ownBlock] at e, fun g e => .inr (.inr e)⟩
      have hbw1 := hb1.size
      have HREL : Hid (FrmRel w s ns z nz (w1.heap.size + 1) w1.heap.size (.slice a1 nz c1) 0 0 (.slice as_ ns cs) ((w1.alloc (.map #[] 0)).alloc (.cells #[.slice none 0 0, (.slice a1 nz c1), .map (some w1.heap.size)] 78))) := by
        refine ⟨⟨as_, cs, rfl, hcs, ?_⟩, Nat.zero_le _, ⟨_, _, by rw [fromTo_zero, fromD_zero]; exact hPL, fun b h => ?_⟩, fun i hi => by simp [cntTo] at hi, fun i hi => by simp [cntTo] at hi, below_next hb1 hb2 hbw1⟩
        · refine HRS.out.congr fun k hk => ?_
          show _ = Value.int .i64 (s (0 + 0 + k))
          rw [Nat.zero_add]
        · rcases h with h | h | h
          · omega
          · omega
          · exact (hob b h).1
      have HBZ := Lib.hid (hb1.trans (hb2.mono hbw1))
      have hrz2 := Lib.hid ((HRZ.out.kept hb1).kept hb2)
      have HB2 := Lib.hid hb2
      have HB1 := Lib.hid hb1
      clear hPL hb2 hob hownZ hr1 hb1 hlo1 how hnn hn1 hc1 hbw1 HCL
      go_wp2_with fail
      generalize hw2 : (w1.alloc (.map #[] 0)).alloc (.cells #[.slice none 0 0, (.slice a1 nz c1), .map (some w1.heap.size)] 78) = w2 at *
      clear hmm hw2
      have HXZ := Lib.hid (run_ix (P := Try.prog) 30 (by kernel_rfl) size_int az nz cz HRZ.out.at_ .i64)
      have HS2 : Hid (w.heap.size ≤ w2.heap.size) := HBZ.out.size
      obtain ⟨bp, hbp⟩ : ∃ bp, bp = w1.heap.size + 1 := ⟨_, rfl⟩
      obtain ⟨bm, hbm⟩ : ∃ bm, bm = w1.heap.size := ⟨_, rfl⟩
      rw [← hbp, ← hbm] at HREL
      rw [← hbp, ← hbm]
      clear hbp hbm HB1
      go_loopw [7, 29] (fun v7 v29 wr => ∃ j : Nat, j ≤ nz ∧ v29 = .int .i64 (j : Int) ∧ (∃ ar n7 cr, v7 = .slice ar n7 cr) ∧ FrmRel w s ns z nz bp bm (.slice a1 nz c1) j 0 v7 wr) (fun _ v29 _ => nz - (intOf v29).toNat)
      case atStart => exact ⟨0, Nat.zero_le _, rfl, ⟨_, _, _, rfl⟩, HREL.out⟩
      case round =>
        obtain ⟨j, hj, rfl, ⟨ar, n7, cr, rfl⟩, hrel⟩ := hrel
        have HR := Lib.hid hrel
        have hbel := hrel.bel
        by_cases hlt : j < nz
        · have hzj := HZ.out j hlt
          obtain ⟨dl, hdl⟩ : ∃ dl : Nat, z j = (dl : Int) := ⟨(z j).toNat, by omega⟩
          have hdl2 : dl ≤ 2000 := by omega
          have HD : Hid ((zL z nz).getD j 0 = dl) := by show _ = _; rw [zL_at z nz j hlt]; omega
          have d1 := (HRZ.out.kept hbel).cell j hlt
          rw [hdl] at d1
          have hx := fun W => HXZ.out W j hlt
          clear hrel hbel hzj hdl HREL
          go_wp2_with fail
          go_loopw [7, 10] (fun v7 v10 wr => ∃ q o : Nat, q ≤ dl / 32 + 1 ∧ Hid (o = 32 * q) ∧ v10 = .int .i64 (o : Int) ∧ (∃ ar n7 cr, v7 = .slice ar n7 cr) ∧ FrmRel w s ns z nz bp bm (.slice a1 nz c1) j q v7 wr) (fun _ v10 _ => dl + 32 - (intOf v10).toNat)
          case atStart => exact ⟨0, 0, Nat.zero_le _, rfl, rfl, ⟨_, _, _, rfl⟩, HR.out⟩
          case round =>
            obtain ⟨q, o, hq, HO, rfl, ⟨ar, n7, cr, rfl⟩, hrel⟩ := hrel
            have ho := HO.out
            by_cases hod : o ≤ dl
            · have hod2 : (o : Int) ≤ (dl : Int) := by omega
              obtain ⟨ar2, cr2, he, hle, hrow⟩ := hrel.rest
              injection he with he1 he2 he3
              subst he1 he3
              obtain ⟨k, hk⟩ : ∃ k, k = cntTo (zL z nz) j + q := ⟨_, rfl⟩
              have HK := Lib.hid hk
              rw [← hk] at he2 hle hrow
              have hkn : k ≤ ns := by rw [hk]; exact hrel.le
              have HREL := Lib.hid hrel
              have hbel := hrel.bel
              have hcn : Hid (cntTo (zL z nz) j + (dl / 32 + 1) ≤ cntTo (zL z nz) nz) := by
                have := cntTo_mono (zL z nz) (show j + 1 ≤ nz by omega)
                have e : cntTo (zL z nz) (j + 1) = cntTo (zL z nz) j + ((zL z nz).getD j 0 / 32 + 1) := rfl
                rw [e, HD.out] at this
                exact this
              have hqd : q ≤ dl / 32 := by omega
              clear hrel hk
              by_cases h0 : n7 = 0
              · have HNG : Hid (¬ GoodP s ns z nz) := fun hg => by
                  have h1 := hg.2.2.1
                  have h2 := hcn.out
                  have h3 := HK.out
                  omega
                have HBE := Lib.hid hbel
                clear hbel hrow hle ho hod HREL HR
                subst h0
                clear he2
                go_wp2
                go_ret2
                exact ⟨HBE.out, .inr ⟨HNG.out, rfl⟩⟩
              · have hkl : k < ns := by omega
                have HREL2 := HREL.out
                obtain ⟨Y, vS, hpl, hy⟩ := HREL2.pl
                rw [← HK.out] at hpl
                have t1 : ((n7 : Int) == 0) = false := by simp; omega
                have t2 : (n7 == 0) = false := by simp; omega
                have hix := run_ix (P := Try.prog) 30 (by kernel_rfl) size_int ar n7 cr (by rw [he2]; exact hrow.at_) .i64
                have hx0 : ∀ W, (Instr.indexAt 30 (.slice ar n7 cr) (.int .i64 0)).run Try.prog W = .ok (.pointer (some ⟨bOf ar, oOf ar, none⟩)) W := fun W => hix W 0 (by omega)
                have d0 : wr.cell? ⟨bOf ar, oOf ar, none⟩ = some (.int .i64 (s k)) := (Row.kept hrow hbel).cell 0 (by omega)
                obtain ⟨_, _, c2, _, _⟩ := hpl.c0
                have hwk := HWS.out k hkl
                have hbk := bounds_i64 hwk
                have HPL := Lib.hid hpl
                have HY := Lib.hid hy
                have HBE := Lib.hid hbel
                have HROW := Lib.hid hrow
                have HE2 := Lib.hid he2
                have hcr : n7 ≤ cr := by omega
                have hcut : ∀ W, (Instr.slice 30 (.slice ar n7 cr) (some (.int .i64 1)) none none).run Try.prog W = .ok (.slice (cut1 ar cr 1) (n7 - 1) (cr - 1)) W := fun W => cutI_from ar n7 cr 1 (by omega) hcr W
                clear hix hpl hy hbel hrow he2 hle HREL2 ho hod hx
                cases hf : putF (fromTo (fun i => (s i).toNat) (zL z nz) j ++ fromD (fun i => (s i).toNat) (zL z nz) j q) (s k) with
                | some p =>
                  obtain ⟨pd, po⟩ := p
                  have hlk := HPL.out.mp.look_some (s k) hwk pd po hf
                  have HNG : Hid (¬ GoodP s ns z nz) := fun hg => by
                    obtain ⟨x, hx, h1, _⟩ := putF_some _ _ rfl _ _ hf
                    have hm : x.1 ∈ putS (fromTo (fun i => (s i).toNat) (zL z nz) j ++ fromD (fun i => (s i).toNat) (zL z nz) j q) := List.mem_map.2 ⟨x, hx, rfl⟩
                    rw [fromP_putS, ← HK.out] at hm
                    obtain ⟨i, hi, he⟩ := List.mem_map.1 hm
                    have hi := List.mem_range.1 hi
                    have hri := (hg.2.2.2.1 i (by omega)).1
                    refine hg.2.2.2.2 k hkl i hi ?_
                    omega
                  have HBA : Hid (Below w.heap.size w (wr.alloc (.cells #[.int .i64 (pd : Int), .int .i64 (po : Int)] 84))) := HBE.out.alloc HBE.out.size _
                  clear hf
                  go_wp2
                  go_ret2
                  exact ⟨HBA.out, .inr ⟨HNG.out, rfl⟩⟩
                | none =>
                  obtain ⟨xa, xb, hlk⟩ := HPL.out.mp.look_none (s k) hwk hf
                  have HBA : Hid (Below w.heap.size w (wr.alloc (.cells #[.int .i64 xa, .int .i64 xb] 84))) := HBE.out.alloc HBE.out.size _
                  have HFN := Lib.hid hf
                  clear hf
                  by_cases hr0 : s k < 0
                  · have HNG : Hid (¬ GoodP s ns z nz) := fun hg => by have := (hg.2.2.2.1 k hkl).1; omega
                    go_wp2
                    go_ret2
                    exact ⟨HBA.out, .inr ⟨HNG.out, rfl⟩⟩
                  · by_cases hr1 : 60499 < s k
                    · have HNG : Hid (¬ GoodP s ns z nz) := fun hg => by have := (hg.2.2.2.1 k hkl).2; omega
                      have t3 : decide (s k < 0) = false := by simp; omega
                      go_wp2
                      go_ret2
                      exact ⟨HBA.out, .inr ⟨HNG.out, rfl⟩⟩
                    · have t3 : decide (s k < 0) = false := by simp; omega
                      have t4 : decide (60499 < s k) = false := by simp; omega
                      have HRG : Hid (0 ≤ s k ∧ s k ≤ 60499) := ⟨by omega, by omega⟩
                      obtain ⟨r, hr⟩ : ∃ r : Nat, s k = (r : Int) := ⟨(s k).toNat, by omega⟩
                      have HRR := Lib.hid hr
                      rw [hr] at hlk d0 t3 t4 hwk
                      have hpl2 := HPL.out.kept (W' := wr.alloc (.cells #[.int .i64 xa, .int .i64 xb] 84)) (KeepX.of_below ((Below.refl _ _).alloc (Nat.le_refl _) _))
                      have hsl : (putS (fromTo (fun i => (s i).toNat) (zL z nz) j ++ fromD (fun i => (s i).toNat) (zL z nz) j q)).length = k := by
                        have := fromP_len (fun i => (s i).toNat) (zL z nz) j q
                        rw [← HK.out] at this
                        simpa [putS] using this
                      have HPUT := Lib.hid (put_any _ Y bp bm vS _ _ _ _ _ hpl2 (by rw [hsl]; omega) (by omega) r hwk j o)
                      clear hr hr0 hr1 hpl2 hsl hbk
                      go_wp2_with fail
                      refine HPUT.out.mono ?_
                      rintro e w5 ⟨rfl, Y5, vS5, hp5, hst5, hy5⟩
                      have HP5 := Lib.hid hp5
                      have HS5 := Lib.hid hst5
                      have HY5 := Lib.hid hy5
                      clear hp5 hst5 hy5 hlk d0 c2 hx0 HPUT
                      go_wp2
                      go_roundw
                      case rel =>
                        refine ⟨q + 1, o + 32, by omega, (by show _ = _; have := HO.out; omega), by go_num, ⟨_, _, _, rfl⟩, ?_⟩
                        have hrl := HREL.out
                        have hkk : k = cntTo (zL z nz) j + q := HK.out
                        have hkk2 : cntTo (zL z nz) j + (q + 1) = k + 1 := by omega
                        have e1 : fromTo (fun i => (s i).toNat) (zL z nz) j ++ fromD (fun i => (s i).toNat) (zL z nz) j (q + 1) = (fromTo (fun i => (s i).toNat) (zL z nz) j ++ fromD (fun i => (s i).toNat) (zL z nz) j q) ++ [(r, j, o)] := by
                          have hsr : (s k).toNat = r := by have := HRR.out; omega
                          rw [fromD_succ, ← List.append_assoc, ← hkk, hsr, ← HO.out]
                        refine ⟨⟨cut1 ar cr 1, cr - 1, by rw [hkk2, show ns - (k + 1) = n7 - 1 by have := HE2.out; omega], by rw [hkk2]; have := HE2.out; omega, ?_⟩, by omega, ⟨Y5, vS5, ?_, fun b hb => ?_⟩, ?_, ?_, ?_⟩
                        · have h2 := Row.cut1 HROW.out cr 1 (by have := HE2.out; omega) (by have := HE2.out; omega)
                          rw [hkk2, show ns - (k + 1) = ns - k - 1 by omega]
                          refine h2.congr fun i hi => ?_
                          show Value.int .i64 (s (k + (1 + i))) = Value.int .i64 (s (k + 1 + i))
                          rw [← Nat.add_assoc]
                        · rw [hkk2, e1, putS_snoc, putF_snoc]
                          exact HP5.out
                        · rcases HY5.out b hb with h | h
                          · exact HY.out b h
                          · have := HBA.out.size; omega
                        · intro i hi
                          rw [hkk2] at hi
                          rcases Nat.lt_or_ge i k with h | h
                          · exact hrl.rg i (by omega)
                          · obtain rfl : i = k := by omega
                            exact HRG.out
                        · intro i hi i' hi'
                          rw [hkk2] at hi
                          rcases Nat.lt_or_ge i k with h | h
                          · exact hrl.di i (by omega) i' hi'
                          · obtain rfl : i = k := by omega
                            intro he
                            have hz0 := hrl.rg i' (by omega)
                            have hm : (s i').toNat ∈ putS (fromTo (fun i => (s i).toNat) (zL z nz) j ++ fromD (fun i => (s i).toNat) (zL z nz) j q) := by
                              rw [fromP_putS, ← hkk]
                              exact List.mem_map.2 ⟨i', List.mem_range.2 hi', rfl⟩
                            obtain ⟨x, hx, hxe⟩ := List.mem_map.1 hm
                            have h1 := putF_in _ _ rfl x hx
                            rw [show ((x.1 : Nat) : Int) = s i by rw [hxe, ← he]; omega, HFN.out] at h1
                            cases h1
                        · refine HBA.out.trans (HS5.out.below HBA.out.size (fun b hb => HY.out b hb))
                      case measure => simp [intOf]; omega
            · have hod2 : ¬ (o : Int) ≤ (dl : Int) := by omega
              obtain rfl : q = dl / 32 + 1 := by omega
              have HN : Hid (FrmRel w s ns z nz bp bm (.slice a1 nz c1) (j + 1) 0 (.slice ar n7 cr) wr) := by
                refine FrmRel.next ?_
                rw [HD.out]; exact hrel
              clear hrel ho hod
              go_wp2
              go_roundw
              case rel => exact ⟨j + 1, by omega, by go_num, ⟨_, _, _, rfl⟩, HN.out⟩
              case measure => simp [intOf]; omega
        · obtain rfl : j = nz := by omega
          have hd : decide ((j : Int) < (j : Int)) = false := by simp
          obtain ⟨ar2, cr2, he, hle, hrow⟩ := hrel.rest
          injection he with he1 he2 he3
          have hle2 := hrel.le
          have HREL3 := Lib.hid hrel
          obtain ⟨cn, hcn⟩ : ∃ cn, cn = cntTo (zL z j) j := ⟨_, rfl⟩
          have HCN := Lib.hid hcn
          rw [← hcn] at he2 hle2
          clear hrel hbel hle hrow he1 he3 hcn hlt HREL HR
          by_cases h0 : n7 = 0
          · have HG : Hid (GoodP s ns z j) := ⟨by omega, HZ.out, by rw [← HCN.out]; omega, fun i hi => HREL3.out.rg i (by rw [← HCN.out]; omega), fun i hi => HREL3.out.di i (by rw [← HCN.out]; omega)⟩
            have hns2 : ns = cn := by omega
            have HNS := Lib.hid hns2
            subst h0
            clear he2 hns2
            go_wp2
            go_ret2
            have hpp := HREL3.out.pl
            obtain ⟨Y, vS, hpl, _⟩ := hpp
            rw [fromD_zero, List.append_nil, Nat.add_zero, ← HCN.out, ← HNS.out] at hpl
            exact ⟨HREL3.out.bel, .inl ⟨HG.out, _, _, _, _, _, rfl, hpl⟩⟩
          · have HNG : Hid (¬ GoodP s ns z j) := fun hg => by have h1 := hg.2.2.1; rw [← HCN.out] at h1; omega
            have t1 : (0 : Int) < (n7 : Int) := by omega
            clear he2 h0
            go_wp2
            go_ret2
            exact ⟨HREL3.out.bel, .inr ⟨HNG.out, rfl⟩⟩
end Go.Proofs.Ytjpoebmjfedecaa
