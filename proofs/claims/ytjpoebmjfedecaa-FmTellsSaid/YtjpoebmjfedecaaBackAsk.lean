/-
  What an index is asked: Len, Docs, Sym, Step, More.
-/
import Derived.Test.YtjpoebmjfedecaaBackWalk
namespace Go.Proofs.Ytjpoebmjfedecaa
open Go.RowKit

theorem rk_rkC (L : List Nat) (c i : Nat) : Wv.rk L c i = rkC L c i := by
  unfold Wv.rk rkC inK
  rw [List.count_eq_countP, List.countP_eq_length_filter]
theorem ix_arr2 (kd : IntKind) : ∀ (W : World) (b c : Nat), c < 257 → (Instr.indexAt 87 (.pointer (some ⟨b, 2, none⟩)) (.int kd (c : Int))).run Try.prog W = .ok (.pointer (some ⟨b, 2 + c, none⟩)) W := by
  intro W b c hc
  have hs : (sizeOf (Try.prog.elem 87)).run Try.prog W = .ok 1 W := by kernel_rfl
  have hl : Try.prog.arrayLen 87 = 257 := by kernel_rfl
  rw [run_indexAt_array (P := Try.prog) W 87 ⟨b, 2, none⟩ kd c (by kernel_rfl), hl, if_pos (by omega), hs]
  simp [Addr.add]
set_option maxRecDepth 100000 in
set_option maxHeartbeats 400000 in
theorem blen_any (w : World) (bx bm : Nat) (al : Option Addr) (cap : Nat) (L : List Nat) (h : IdxAt w bx bm al cap L) :
    Calls Try.prog 13 #[.pointer (some ⟨bx, 0, none⟩)] w fun e w' => e = .returned (.int .i64 (L.length : Int)) ∧ w = w' := by
  have c0 := h.c0
  clear h
  go_enter Try.func13, Try.ntmps13
  go_wp2
  go_ret
  exact ⟨rfl, rfl⟩
set_option maxRecDepth 100000 in
set_option maxHeartbeats 400000 in
theorem bdocs_any (w : World) (bx bm : Nat) (al : Option Addr) (cap : Nat) (L : List Nat) (h : IdxAt w bx bm al cap L) :
    Calls Try.prog 42 #[.pointer (some ⟨bx, 0, none⟩)] w fun e w' => e = .returned (.int .i64 ((stC L 1 : Nat) : Int)) ∧ w = w' := by
  have c0 := h.c0
  have c1 : w.cell? ⟨bx, 3, none⟩ = some (.int .i64 ((stC L 1 : Nat) : Int)) := h.cs 1 (by omega)
  have hix : ∀ W, (Instr.indexAt 87 (.pointer (some ⟨bx, 2, none⟩)) (.int .i64 1)).run Try.prog W = .ok (.pointer (some ⟨bx, 3, none⟩)) W := fun W => ix_arr2 .i64 W bx 1 (by omega)
  clear h
  generalize stC L 1 = s at *
  go_enter Try.func42, Try.ntmps42
  go_wp2
  go_ret
  exact ⟨rfl, rfl⟩
set_option maxRecDepth 100000 in
set_option maxHeartbeats 400000 in
theorem bsym_any (w : World) (bx bm : Nat) (al : Option Addr) (cap : Nat) (L : List Nat) (h : IdxAt w bx bm al cap L) (i : Int) :
    Calls Try.prog 15 #[.pointer (some ⟨bx, 0, none⟩), .int .i64 i] w fun e w' => e = .returned (.int .i64 (Wv.wget L i)) ∧ ∃ j, w' = w.drewN j := by
  have c0 := h.c0
  have c1 := h.c1
  obtain ⟨a2, c2, bv, bw, ba, hm⟩ := h.mt
  have HG := Lib.hid (Wv.wget_any w bm a2 c2 bv bw ba L i hm)
  clear h hm
  go_enter Try.func15, Try.ntmps15
  go_wp2_with (go_at_call 47; refine HG.out.mono ?_; rintro e w' ⟨rfl, j, rfl⟩)
  go_ret
  exact ⟨rfl, _, rfl⟩
theorem wget_in (L : List Nat) (i : Nat) (h : i < L.length) : Wv.wget L (i : Int) = ((L.getD i 0 : Nat) : Int) := by
  unfold Wv.wget; rw [if_pos ⟨by omega, by omega⟩, Int.toNat_natCast]
theorem wget_out (L : List Nat) (i : Int) (h : i < 0 ∨ (L.length : Int) ≤ i) : Wv.wget L i = -1 := by
  unfold Wv.wget; rw [if_neg (by omega)]
set_option maxRecDepth 100000 in
set_option maxHeartbeats 400000 in
theorem bstep_yes (w : World) (bx bm : Nat) (al : Option Addr) (cap : Nat) (L : List Nat) (h : IdxAt w bx bm al cap L) (i : Nat) (hi : i < L.length) (hne : L.getD i 0 ≠ 0) :
    Calls Try.prog 65 #[.pointer (some ⟨bx, 0, none⟩), .int .i64 (i : Int)] w fun e w' => e = .returned (.tuple #[.int .i64 ((stepL L i : Nat) : Int), .bool true]) ∧ ∃ j, w' = w.drewN j := by
  have c0 := h.c0
  have c1 := h.c1
  obtain ⟨a2, c2, bv, bw, ba, hm⟩ := h.mt
  have hsm := hm.small
  have hle : L.getD i 0 ≤ 256 := hm.sy _ (getD_mem' hi)
  have c2' : w.cell? ⟨bx, 2 + L.getD i 0, none⟩ = some (.int .i64 ((stC L (L.getD i 0) : Nat) : Int)) := h.cs _ (by omega)
  have HS := Lib.hid (bsym_any w bx bm al cap L h (i : Int))
  rw [wget_in L i hi] at HS
  have HRK := Lib.hid (fun k => Wv.wrank_any (w.drewN k) bm a2 c2 bv bw ba L ((L.getD i 0 : Nat) : Int) (i : Int) (hm.drewN k))
  have e1 : Wv.rkI L ((L.getD i 0 : Nat) : Int) (i : Int) = rkC L (L.getD i 0) i := by
    unfold Wv.rkI; rw [if_neg (by omega), Int.toNat_natCast, Int.toNat_natCast, rk_rkC]
  rw [e1] at HRK
  have hst : stepL L i = stC L (L.getD i 0) + rkC L (L.getD i 0) i := rfl
  have b1 := stC_le L (L.getD i 0)
  have b2 := rkC_le L (L.getD i 0) i
  have hix := fun W => ix_arr2 .i64 W bx (L.getD i 0) (by omega)
  have HM := Lib.hid hm
  clear h hm e1
  generalize hq : stepL L i = q at *
  generalize rkC L (L.getD i 0) i = r at *
  generalize stC L (L.getD i 0) = s at *
  generalize L.getD i 0 = c at *
  have t0 : decide ((c : Int) ≤ 0) = false := by simp; omega
  have t1 : IntKind.i64.wrap ((s : Int) + (r : Int)) = (q : Int) := by rw [show (s : Int) + (r : Int) = (q : Int) by omega]; exact IntWalk.i64_in _ (by omega)
  have t2 : (c : Int) < 257 := by omega
  have t4 : decide (c = 0) = false := by simp; omega
  clear hq hst hne
  go_enter Try.func65, Try.ntmps65
  go_wp2_with fail
  refine HS.out.mono ?_
  rintro e w' ⟨rfl, k, rfl⟩
  have HRK2 := Lib.hid (fun n => (by have := HRK.out (k + n); rw [← World.drewN_drewN] at this; exact this))
  have d0 : (w.drewN k).cell? ⟨bx, 0, none⟩ = some (.slice al L.length cap) := c0
  have d1 : (w.drewN k).cell? ⟨bx, 1, none⟩ = some (.pointer (some ⟨bm, 0, none⟩)) := c1
  have d2 : (w.drewN k).cell? ⟨bx, 2 + c, none⟩ = some (.int .i64 (s : Int)) := c2'
  obtain ⟨w1, hw1⟩ : ∃ w1, w1 = w.drewN k := ⟨_, rfl⟩
  have HW1 := Lib.hid hw1
  rw [← hw1] at d0 d1 d2 HRK2 ⊢
  clear c0 c1 c2' hw1 HRK
  go_wp2_with fail
  go_quiet ((go_at_call 84; exact Calls.quiet_of (HRK2.out _)))
  go_wp2
  go_ret2
  exact ⟨rfl, _, by rw [HW1.out]; exact World.drewN_drewN _ _ _⟩
set_option maxRecDepth 100000 in
set_option maxHeartbeats 400000 in
theorem bstep_no (w : World) (bx bm : Nat) (al : Option Addr) (cap : Nat) (L : List Nat) (h : IdxAt w bx bm al cap L) (i : Int) (hno : i < 0 ∨ (L.length : Int) ≤ i ∨ L.getD i.toNat 0 = 0) :
    Calls Try.prog 65 #[.pointer (some ⟨bx, 0, none⟩), .int .i64 i] w fun e w' => e = .returned (.tuple #[.int .i64 0, .bool false]) ∧ ∃ j, w' = w.drewN j := by
  have HS := Lib.hid (bsym_any w bx bm al cap L h i)
  have hz : Wv.wget L i ≤ 0 := by
    unfold Wv.wget
    split
    · rename_i hh
      rcases hno with g | g | g
      · omega
      · omega
      · rw [g]; simp
    · omega
  clear h hno
  generalize Wv.wget L i = z at *
  go_enter Try.func65, Try.ntmps65
  go_wp2_with fail
  refine HS.out.mono ?_
  rintro e w' ⟨rfl, k, rfl⟩
  go_wp2
  go_ret2
  exact ⟨rfl, _, rfl⟩
set_option maxRecDepth 100000 in
set_option maxHeartbeats 400000 in
theorem bmore_any (w : World) (bx bm : Nat) (al : Option Addr) (cap : Nat) (L : List Nat) (h : IdxAt w bx bm al cap L) (lo hi c : Nat) (hlo : lo ≤ hi) (hhi : hi ≤ L.length) (hc : c < 256) :
    Calls Try.prog 93 #[.pointer (some ⟨bx, 0, none⟩), .int .i64 (lo : Int), .int .i64 (hi : Int), .int .u8 (c : Int)] w fun e w' =>
      e = .returned (.tuple #[.int .i64 ((stC L (c + 1) + rkC L (c + 1) lo : Nat) : Int), .int .i64 ((stC L (c + 1) + rkC L (c + 1) hi : Nat) : Int)]) ∧ ∃ j, w' = w.drewN j := by
  have c0 := h.c0
  have c1 := h.c1
  obtain ⟨a2, c2, bv, bw, ba, hm⟩ := h.mt
  have hsm := hm.small
  have c2' : w.cell? ⟨bx, 2 + (c + 1), none⟩ = some (.int .i64 ((stC L (c + 1) : Nat) : Int)) := h.cs _ (by omega)
  have HRK := Lib.hid (fun k (i : Int) => Wv.wrank_any (w.drewN k) bm a2 c2 bv bw ba L ((c : Int) + 1) i (hm.drewN k))
  have e1 : ∀ i : Nat, Wv.rkI L ((c : Int) + 1) (i : Int) = rkC L (c + 1) i := fun i => by
    unfold Wv.rkI; rw [if_neg (by omega), Int.toNat_natCast, show ((c : Int) + 1).toNat = c + 1 by omega, rk_rkC]
  have b1 := stC_le L (c + 1)
  have b2 := rkC_le L (c + 1) lo
  have b3 := rkC_le L (c + 1) hi
  have hix : ∀ W, (Instr.indexAt 87 (.pointer (some ⟨bx, 2, none⟩)) (.int .i64 ((c : Int) + 1))).run Try.prog W = .ok (.pointer (some ⟨bx, 2 + (c + 1), none⟩)) W := fun W => ix_arr2 .i64 W bx (c + 1) (by omega)
  have HK1 := Lib.hid (fun k => HRK.out k (lo : Int))
  have HK2 := Lib.hid (fun k => HRK.out k (hi : Int))
  rw [e1] at HK1 HK2
  have HRQ := Lib.hid (fun (e : lo = hi) => (by rw [e] : rkC L (c + 1) lo = rkC L (c + 1) hi))
  clear h hm e1 HRK
  generalize rkC L (c + 1) lo = r1 at *
  generalize rkC L (c + 1) hi = r2 at *
  generalize stC L (c + 1) = s at *
  have t0 : IntKind.i64.wrap (c : Int) = (c : Int) := IntWalk.i64_in _ (by omega)
  have t1 : IntKind.i64.wrap ((s : Int) + (r1 : Int)) = ((s + r1 : Nat) : Int) := by rw [show (s : Int) + (r1 : Int) = ((s + r1 : Nat) : Int) by omega]; exact IntWalk.i64_in _ (by omega)
  have t2 : IntKind.i64.wrap ((s : Int) + (r2 : Int)) = ((s + r2 : Nat) : Int) := by rw [show (s : Int) + (r2 : Int) = ((s + r2 : Nat) : Int) by omega]; exact IntWalk.i64_in _ (by omega)
  rcases Nat.lt_or_ge lo hi with g | g
  · have t3 : (lo : Int) < (hi : Int) := by omega
    go_enter Try.func93, Try.ntmps93
    go_wp2_with fail
    go_quiet ((go_at_call 84; first | (with_reducible exact Calls.quiet_of (HK1.out _)) | (with_reducible exact Calls.quiet_of (HK2.out _))))
    go_wp2
    go_ret2
    exact ⟨rfl, _, rfl⟩
  · obtain rfl : r1 = r2 := HRQ.out (by omega)
    obtain rfl : lo = hi := by omega
    go_enter Try.func93, Try.ntmps93
    go_wp2_with fail
    go_quiet ((go_at_call 84; with_reducible exact Calls.quiet_of (HK1.out _)))
    go_wp2
    go_ret2
    exact ⟨rfl, _, rfl⟩
/-! ### slices.Backward -/
def bwV (y : Nat × Fin 256) : Array Value := #[.int .i64 (y.1 : Int), .int .u8 ((y.2.val : Nat) : Int)]
def byF (c : Nat) : Fin 256 := Fin.ofNat 256 c
theorem byF_val (c : Nat) (h : c < 256) : (byF c).val = c := by unfold byF; simp [Fin.ofNat]; omega
/-- what comes of so many rounds -/
def bwTo (P : List Nat) (k : Nat) : List (Nat × Fin 256) := (List.range k).map fun q => (P.length - 1 - q, byF (P.getD (P.length - 1 - q) 0))
theorem bwTo_zero (P : List Nat) : bwTo P 0 = [] := rfl
theorem bwTo_succ (P : List Nat) (k : Nat) : bwTo P (k + 1) = bwTo P k ++ [(P.length - 1 - k, byF (P.getD (P.length - 1 - k) 0))] := by unfold bwTo; rw [List.range_succ, List.map_append]; rfl
theorem bwTo_len (P : List Nat) (k : Nat) : (bwTo P k).length = k := by simp [bwTo]
theorem bwTo_pre (P : List Nat) {k n : Nat} (h : k ≤ n) : bwTo P k <+: bwTo P n := by
  obtain ⟨m, rfl⟩ := Nat.le.dest h
  refine ⟨((List.range m).map (k + ·)).map (fun q => (P.length - 1 - q, byF (P.getD (P.length - 1 - q) 0))), ?_⟩
  unfold bwTo
  rw [← List.map_append, ← List.range_add]
attribute [irreducible] bwTo
section
open Go.Shelf
attribute [local go_sem] Oper.semAt_some
set_option maxRecDepth 100000 in
set_option maxHeartbeats 1000000 in
theorem backward1_in (n : Nat) (hn : 1 ≤ n) (l Bn n₀ : Nat) (x : Nat → Prop) (a : Option Addr) (cap : Nat) (P : List Nat) (hP : P.length ≤ 100000) (hPb : ∀ c ∈ P, c < 256) (J Jx : List (Nat × Fin 256) → World → Prop)
    (hY : ∀ (pre : List (Nat × Fin 256)) (y : Nat × Fin 256) (W : World), J pre W → pre.length < P.length → YieldAt Fence.wide (n - 1) Try.prog l (bwV y) W fun e W' =>
      (e = .returned (.bool true) ∧ J (pre ++ [y]) W' ∧ KpX n₀ x W W') ∨ (e = .returned (.bool false) ∧ Jx (pre ++ [y]) W'))
    (W : World) (hBn : W.cell? ⟨Bn, 0, none⟩ = some (.slice a P.length cap)) (hV : Row W a P.length (byteV P)) (h0 : J [] W)
    (g1 : Bn < n₀ ∧ ¬ x Bn) (g2 : P.length = 0 ∨ (bOf a < n₀ ∧ ¬ x (bOf a))) :
    CallsIn Fence.wide n Try.prog 105 #[.func (.yield l) #[] #[], .pointer (some ⟨Bn, 0, none⟩)] W fun e W' => (∃ v, e = .returned v) ∧
      ((∃ ys, ys = bwTo P P.length ∧ J ys W') ∨ (∃ pre, pre <+: bwTo P P.length ∧ Jx pre W')) := by
  have hwf : ∀ f, Fence.wide.fn f = True := fun _ => rfl
  have hixP := fun (W : World) p hp => run_ix (P := Try.prog) 22 (by kernel_rfl) size_u8 a P.length cap hV.at_ .i64 W p hp
  refine callsIn_of_wp Try.func105 rfl trivial ?_ rfl
  simp only [Try.ntmps105, List.size_toArray, List.length_cons, List.length_nil, Nat.reduceAdd, Nat.reduceSub, Array.replicate_succ, Array.replicate_zero, List.push_toArray, List.append_toArray, List.nil_append, List.cons_append]
  have HY := Lib.hid hY
  have HV := Lib.hid hV
  have H0 := Lib.hid h0
  have HBn := Lib.hid hBn
  have HIX := Lib.hid hixP
  clear hY hV h0 hixP
  gi_wp2
  clear hBn
  gi_loopw [3] (fun i wr => ∃ k : Nat, k ≤ P.length ∧ i = .int .i64 ((P.length : Int) - 1 - (k : Int)) ∧ J (bwTo P k) wr ∧ Row wr a P.length (byteV P) ∧ wr.cell? ⟨Bn, 0, none⟩ = some (.slice a P.length cap)) (fun i _ => (intOf i + 1).toNat)
  case atStart => exact ⟨0, Nat.zero_le _, by simp, by rw [bwTo_zero]; exact H0.out, HV.out, HBn.out⟩
  case round =>
    obtain ⟨k, hk, rfl, hJ, hV, hB⟩ := hrel
    have HJ := Lib.hid hJ
    have HR := Lib.hid hV
    have HB := Lib.hid hB
    clear hJ hV
    by_cases hlt : k < P.length
    · obtain ⟨q, hq⟩ : ∃ q, q = P.length - 1 - k := ⟨_, rfl⟩
      have hql : q < P.length := by omega
      have hqz : (P.length : Int) - 1 - (k : Int) = (q : Int) := by omega
      have dp : wr.cell? ⟨bOf a, oOf a + q, none⟩ = some (.int .u8 ((P.getD q 0 : Nat) : Int)) := HR.out.cell q hql
      obtain ⟨fn, tmps, assign, body, hy, hR⟩ := HY.out (bwTo P k) (q, byF (P.getD q 0)) wr HJ.out (by rw [bwTo_len]; exact hlt)
      have HYR := Lib.hid hR
      have HX := Lib.hid (bwTo_succ P k)
      rw [← hq] at HX
      unfold bwV at hy
      simp only [byF_val _ (hPb _ (getD_mem' hql))] at hy
      have hix := fun W => HIX.out W q hql
      have hqz2 : IntKind.i64.wrap ((q : Int) - 1) = (q : Int) - 1 := IntWalk.i64_in _ (by omega)
      have HQ := Lib.hid hq
      rw [hqz]
      clear hR hq hqz
      generalize P.getD q 0 = c at *
      gi_wp2
      refine HYR.out.mono ?_
      rintro e0 W3 (⟨rfl, hJ3, hk3⟩ | ⟨rfl, hJx3⟩)
      · have HJ3 := Lib.hid hJ3
        have HR3 : Hid (Row W3 a P.length (byteV P)) := row_of_block HR.out (g2.elim .inl (fun h => .inr (hk3 _ h.1 h.2)))
        have HB3 : Hid (W3.cell? ⟨Bn, 0, none⟩ = some (.slice a P.length cap)) := (cell_kpX hk3 (p := ⟨Bn, 0, none⟩) g1.1 g1.2).trans HB.out
        clear hJ3 hk3 hB dp
        gi_wp2
        go_roundw
        case rel => exact ⟨k + 1, by omega, by (refine congrArg (Value.int .i64) ?_); have := HQ.out; omega, by rw [HX.out]; exact HJ3.out, HR3.out, HB3.out⟩
        case measure => (simp [intOf]) <;> omega
      · gi_wp2
        refine bodyPost_ret (results_none rfl _ _ _) rfl ?_
        exact ⟨⟨_, rfl⟩, .inr ⟨_, by rw [← HX.out]; exact bwTo_pre P (by omega), hJx3⟩⟩
    · obtain rfl : k = P.length := by omega
      have hpi : decide ((0 : Int) ≤ (P.length : Int) - 1 - (P.length : Int)) = false := by simp; omega
      have hpj : (P.length : Int) - 1 - (P.length : Int) < 0 := by omega
      gi_wp2
      go_end0
      exact ⟨⟨_, rfl⟩, .inl ⟨_, rfl, HJ.out⟩⟩
theorem backward_stops (n : Nat) (hn : 1 ≤ n) (Bn n₀ : Nat) (x : Nat → Prop) (a : Option Addr) (cap : Nat) (P : List Nat) (hP : P.length ≤ 100000) (hPb : ∀ c ∈ P, c < 256) (w : World)
    (hc : w.cell? ⟨Bn, 0, none⟩ = some (.slice a P.length cap)) (hV : Row w a P.length (byteV P)) (hB : Bn < w.heap.size) (g1 : Bn < n₀ ∧ ¬ x Bn) (g2 : P.length = 0 ∨ (bOf a < n₀ ∧ ¬ x (bOf a))) :
    SeqStopsK Fence.wide n Try.prog 105 #[.pointer (some ⟨Bn, 0, none⟩)] bwV (KpX n₀ x) (fun ys => ys = bwTo P P.length) (fun pre => pre <+: bwTo P P.length) P.length w :=
  fun l J Jx W hW _ _ hY h0 =>
  backward1_in n hn l Bn n₀ x a cap P hP hPb J Jx hY W ((hW.cell (p := ⟨Bn, 0, none⟩) hB).trans hc) (hV.kept hW) h0 g1 g2
theorem backward_any (w : World) (a : Option Addr) (len cap : Nat) :
    Calls Try.prog 92 #[.slice a len cap] w fun e w' => e = .returned (.func (.func 105) #[] #[.pointer (some ⟨w.heap.size, 0, none⟩)]) ∧ w' = w.alloc (.cells #[.slice a len cap] 22) := by
  go_enter Try.func92, Try.ntmps92
  go_wp2
  go_ret
  exact ⟨rfl, rfl⟩
end
end Go.Proofs.Ytjpoebmjfedecaa
