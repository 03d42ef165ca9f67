/-
  Bytes put behind a file's end.
-/
import Derived.Test.YtelndbjjkhlacaaDkUsed
import Derived.Test.YtelndbjjkhlacaaRefWalk
import Derived.Deep.CutBlock
import Derived.Deep.RegionLaw
import Derived.Deep.RegionHeld3
namespace Go.Proofs.Ytelndbjjkhlacaa
open Go.RowKit Go.Maps

theorem bytV_row (d : List Nat) : (List.range d.length).map (byteV d) = bytV d := by
  unfold bytV
  apply List.ext_getElem
  · simp
  · intro i h1 h2
    simp at h1
    simp [List.getD_eq_getElem?_getD, h1]
theorem info_u8d : (Try.prog.info? 5).map (fun i => (i.zero, i.size, i.bytes)) = some (some (.int .u8 0), 1, 1) := by kernel_rfl
/-- append of a run, as one step of a region that draws -/
theorem step_append_run {P : Program} {ops : Array Oper} {o : Oper} {a : Act} {w : World} {K : Act → World → Prop} {Q : Exit → Act → World → Prop} {E : Prop}
    (hg : o.guard = none) (s x : Operand) (t : TypeId) (hop : o.op = Op.call { callee := Callee.builtin Builtin.append, args := #[s, x], argTypes := #[t, t] })
    {v xv v' : Value} {w' : World} (hrun : (Builtin.append_ #[t, t] o.type #[v, xv]).run P w = .ok v' w') (hs : a.eval s = v) (hx : a.eval x = xv) (hK : K (a.put o.dst v') w') :
    if Region.wanted o (yielded ops a.tmps) = true then Oper.wp P o a w K Q else E := by
  have hw : Region.wanted o (yielded ops a.tmps) = true := by simp [Region.wanted, hg]
  rw [if_pos hw]
  unfold Oper.wp
  simp [execOp, hop, resolve, invoke, builtin, hs, hx, hrun, Result.andThen]
  exact hK
def appR (S : DSt) (d : List Nat) (f : Nat) (z : Int) (S' : DSt) : Prop :=
  if 200000 < (S.fb f).length + d.length then z = 2 ∧ S' = S
  else if S.quota < (usedS S : Int) + d.length then z = 15 ∧ S' = S
  else z = 0 ∧ S' = { S with fb := updN S.fb f (S.fb f ++ d) }
theorem used_le (w : World) (b : Nat) (S : DSt) (hn : NmAt w b S.names) (hok : DOk S) : usedS S ≤ 20000000000 := by
  unfold usedS
  split
  · exact Nat.zero_le _
  · have h1 := sumD_le hn.canon (fun _ => false) (fun f => (S.fb f).length) S.files hok.names 200000 hok.long
    have h2 := hok.small.1
    omega
set_option maxRecDepth 100000 in
set_option maxHeartbeats 2000000 in
theorem append1_any (B : Nat) (W : World) (bd : Nat) (S : DSt) (A : Nat → Prop) (h : DiskAv B W bd S A) (hAl : ∀ b, A b → b < W.heap.size) (hok : DOk S) (hB : B ≤ W.heap.size) (f : Nat) (hf : f ∈ S.files) (b0 b1 : Nat) (a : Option Addr) (cap : Nat) (d : List Nat) (c0 : W.cell? ⟨b0, 0, none⟩ = some (.slice a d.length cap)) (c1 : W.cell? ⟨b1, 0, none⟩ = some (.pointer (some ⟨bd, 0, none⟩)))
    (hr : Row W a d.length (byteV d)) :
    Calls Try.prog 36 #[ptrB f, .pointer (some ⟨b0, 0, none⟩), .pointer (some ⟨b1, 0, none⟩)] W (DPost B A W bd (appR S d f)) := by
  have HU := Lib.hid (fun q => used_any B (W.drewN q) bd S (h.drewN q).at hok)
  have HAL := Lib.hid hAl
  clear hAl
  have l0 := World.block_lt_of_cell? W _ c0
  have l1 := World.block_lt_of_cell? W _ c1
  simp only at l0 l1
  have HA := Lib.hid h
  have HR := Lib.hid hr
  obtain ⟨ρ, vf, vt, bn, bl, V, hd, hav⟩ := h
  have HAV := Lib.hid hav
  clear hav
  have hul := used_le W bn S hd.names hok
  obtain ⟨af, cf, hV, _⟩ := Row.of_owns (hd.bytes f hf)
  have x0 : W.cell? ⟨f, 0, none⟩ = some (.slice af (S.fb f).length cf) := by rw [← hV]; exact (hd.file f hf).cell (i := 0) (by omega)
  have xq : W.cell? ⟨bd, 0, none⟩ = some (.int .i64 S.quota) := hd.head.cell (i := 0) (by omega)
  have HD := Lib.hid hd
  have hlf := hok.long f hf
  have hq := hok.nums.1
  have hq2 := hok.nums.2.1
  have y1 : IntKind.i64.wrap (200000 - ((S.fb f).length : Int)) = 200000 - ((S.fb f).length : Int) := IntWalk.i64_in _ (by omega)
  have y2 : IntKind.i64.wrap (S.quota - (usedS S : Int)) = S.quota - (usedS S : Int) := IntWalk.i64_in _ (by omega)
  have HX : Hid (∀ w5, Below W.heap.size W w5 → w5.cell? ⟨b0, 0, none⟩ = some (.slice a d.length cap) ∧ w5.cell? ⟨b1, 0, none⟩ = some (.pointer (some ⟨bd, 0, none⟩)) ∧ w5.cell? ⟨bd, 0, none⟩ = some (.int .i64 S.quota) ∧ w5.cell? ⟨f, 0, none⟩ = some (.slice af (S.fb f).length cf)) := fun w5 hb =>
    ⟨(hb.cell (p := ⟨b0, 0, none⟩) l0).trans c0, (hb.cell (p := ⟨b1, 0, none⟩) l1).trans c1, (hb.cell (p := ⟨bd, 0, none⟩) hd.lt).trans xq, (hb.cell (p := ⟨f, 0, none⟩) (hd.file_lt hf)).trans x0⟩
  have HV := Lib.hid hV
  have HOK := Lib.hid hok
  clear hd hr hV hok
  by_cases g1 : 200000 < (S.fb f).length + d.length
  · have G1 := Lib.hid g1
    have t1 : 200000 - ((S.fb f).length : Int) < (d.length : Int) := by omega
    go_enter Try.func36, Try.ntmps36
    go_wp2_with fail
    go_quiet (fail)
    go_wp2
    go_ret
    exact ⟨2, S, rfl, by unfold appR; rw [if_pos G1.out]; exact ⟨rfl, rfl⟩, HA.out.drewN _, below_drewN (Below.refl _ _) _, (KeepX.refl _ _).drewN _⟩
  · have G1 := Lib.hid g1
    have t1 : decide (200000 - ((S.fb f).length : Int) < (d.length : Int)) = false := by simp; omega
    go_enter Try.func36, Try.ntmps36
    go_upto_region 1 with fail
    go_quiet (fail)
    go_upto_region 3 with fail
    generalize hus : usedS S = us at *
    have HUS := Lib.hid hus
    clear hus
    go_cut [15] (fun s15 wx => s15 = .bool (decide (S.quota - (us : Int) < (d.length : Int))) ∧ Below W.heap.size W wx)
    case first =>
      clear x0 y1 t1 g1
      go_region_held3 (fun w' => w'.cell? ⟨b0, 0, none⟩ = some (.slice a d.length cap) ∧ w'.cell? ⟨b1, 0, none⟩ = some (.pointer (some ⟨bd, 0, none⟩)) ∧ w'.cell? ⟨bd, 0, none⟩ = some (.int .i64 S.quota) ∧ w'.cell? ⟨f, 0, none⟩ = some (.slice af (S.fb f).length cf))
        (first | exact HX.out _ ((below_drewN (Below.refl _ _) _).drew) | exact HX.out _ HB5.out | go_keep)
        (first | (go_at_call 24; refine (HU.out _).mono ?_; rintro e w5 ⟨rfl, hb5⟩; have HB5 := Lib.hid (show Below W.heap.size W w5 from (below_drewN (Below.refl _ W) _).trans hb5); clear hb5))
      all_goals
        go_wp2_with fail
        go_meet
        exact ⟨rfl, HB5.out⟩
    case rest =>
      obtain ⟨rfl, hb5⟩ := hcut
      have HB5 := Lib.hid hb5
      obtain ⟨k0, k1, k2, k3⟩ := HX.out wc hb5
      clear hb5 c0 c1 x0 xq HU
      have HDC := Lib.hid (HD.out.below HB5.out)
      have HRC := Lib.hid (HR.out.kept HB5.out)
      by_cases g2 : S.quota < (us : Int) + d.length
      · have G2 := Lib.hid g2
        have t2 : S.quota - (us : Int) < (d.length : Int) := by omega
        clear k0 k1 k2 k3
        go_wp2
        go_ret
        exact ⟨15, S, rfl, by unfold appR; rw [if_neg (by have := G1.out; omega), HUS.out, if_pos (by have := G2.out; omega)]; exact ⟨rfl, rfl⟩, ⟨_, _, _, _, _, _, HDC.out, HAV.out⟩, HB5.out.mono hB, KeepX.of_below HB5.out⟩
      · have G2 := Lib.hid g2
        have t2 : decide (S.quota - (us : Int) < (d.length : Int)) = false := by simp; omega
        obtain ⟨i0, hi0, hz0, hz1, hz2⟩ := info_parts info_u8d
        have hown := (HDC.out.below (w' := wc.drew) ((Below.refl _ _).drew)).bytes f hf
        obtain ⟨v', w3, hrun, hown', hgrow, hat⟩ := run_append_row (P := Try.prog) wc.drew B 28 28 5 i0 _ 1 Try.underlying28 hi0 hz0 hz1 hz2 rfl _ _ _ hown a d.length cap (byteV d) HRC.out.drew (fun _ _ => rfl) (by simp only [maxLen]; omega) (by omega) (by have := HB5.out.size; show B ≤ wc.heap.size; omega)
        rw [HV.out] at hrun
        obtain ⟨a3, cap3, rfl, _⟩ := Row.of_owns hown'
        rw [bytV_row, ← bytV_app, ← List.length_append] at hown'
        have HRUN := Lib.hid hrun
        have HOWN := Lib.hid hown'
        have HGR := Lib.hid hgrow
        have HAT := Lib.hid hat
        clear hrun hown' hgrow hat hown
        go_upto_region 5 with fail
        have hfo : some f ≠ (V f).ownBlock := fun e => by
          have h1 := HD.out.rbytes f hf f e.symm
          rw [HD.out.rfile f hf] at h1
          cases h1
        have r3 : w3.rowIs f 64 2 (fileV (V f) (S.fl f)) := row_gb (row_drewN (HDC.out.file f hf) 1) HGR.out hfo
        have x3 : w3.cell? ⟨f, 0, none⟩ = some (.slice af (S.fb f).length cf) := by rw [← HV.out]; exact r3.cell (i := 0) (by omega)
        have f3 := r3.frozen 0
        have HR3 := Lib.hid r3
        clear r3 hfo
        have hgr : wc.grownBy w3 (V f).ownBlock := ⟨HGR.out.os, HGR.out.tape, HGR.out.output, HGR.out.size, HGR.out.block⟩
        have hbf := HD.out.base f (by rw [HD.out.rfile f hf]; simp)
        have hne : ∀ g, (Value.slice a3 ((S.fb f).length + d.length) cap3).ownBlock = some g → (V f).ownBlock = some g ∨ (wc.heap.size ≤ g ∧ g < w3.heap.size) := fun g hg => by
          have hlt := (HOWN.out.lt g (by rw [List.length_append]; exact hg)).2
          rcases HAT.out with h | h
          · exact .inl (by rw [← h]; exact hg)
          · rw [hg] at h
            have : g = wc.heap.size := Option.some.inj h
            exact .inr ⟨by omega, hlt⟩
        have hnf : ∀ g, (Value.slice a3 ((S.fb f).length + d.length) cap3).ownBlock = some g → g ≠ f := fun g hg e => by
          subst e
          rcases hne g hg with h1 | h1
          · have h2 := HD.out.rbytes g hf g h1
            rw [HD.out.rfile g hf] at h2
            cases h2
          · have := HDC.out.file_lt hf; omega
        have hks : KeepX (fun b => b ≠ f) w3 (w3.setCell ⟨f, 0, none⟩ (.slice a3 ((S.fb f).length + d.length) cap3)) := KeepX.setCell w3 ⟨f, 0, none⟩ _ (fun h => h rfl)
        have hsz : (w3.setCell ⟨f, 0, none⟩ (.slice a3 ((S.fb f).length + d.length) cap3)).heap.size = w3.heap.size := by simp [World.setCell]
        obtain ⟨ρ', hρ', hou⟩ := HDC.out.turnFile (w' := w3.setCell ⟨f, 0, none⟩ (.slice a3 ((S.fb f).length + d.length) cap3)) hf ((KeepX.gb hgr (fun r e h => h.2 e.symm)).trans (hks.mono fun b _ h => h.1)) (.slice a3 ((S.fb f).length + d.length) cap3) (S.fl f) (S.fb f ++ d)
          ((HR3.out.set 0 _).congr fun j hj => by
            match j, hj with
            | 0, _ => rfl
            | 1, _ => rfl)
          (by
            have := owns_keepX HOWN.out hks (fun g hg => hnf g (by rw [List.length_append] at hg; exact hg))
            rw [List.length_append] at this ⊢
            exact this)
          (fun g hg => (hne g hg).imp id (fun h => ⟨h.1, by rw [hsz]; exact h.2⟩))
        rw [updN_id] at hρ'
        have HOU := Lib.hid ((Out.below HB5.out).trans hou)
        clear hou
        have HN := Lib.hid hρ'
        have HBE : Hid (Below B W (w3.setCell ⟨f, 0, none⟩ (.slice a3 ((S.fb f).length + d.length) cap3))) := by
          have h1 : Below B W w3 := (HB5.out.mono hB).grown hgr (by have := HB5.out.size; omega) (fun k hk => (HD.out.base k (by rw [HD.out.rbytes f hf k hk]; simp)).1)
          exact h1.setCell (p := ⟨f, 0, none⟩) hbf.1 _
        clear hρ' hks hsz hnf hne hgr HOWN HGR HAT HR3
        go_region_law ((with_reducible refine step_append_run rfl _ _ _ rfl HRUN.out rfl rfl ?_))
        all_goals
          go_wp2
          go_ret
          exact ⟨0, _, rfl, by unfold appR; rw [if_neg (by have := G1.out; omega), HUS.out, if_neg (by have := G2.out; omega)]; exact ⟨rfl, rfl⟩, ⟨ρ', _, _, _, _, _, HN.out, fun b hb => HOU.out.role b (HAL.out b hb) (HAV.out b hb)⟩, HBE.out, HOU.out.keep.mono fun b _ hb => HAV.out b hb⟩
theorem row_kx {Y : Nat → Prop} {W W' : World} {a : Option Addr} {n : Nat} {f : Nat → Value} (h : Row W a n f) (hk : KeepX Y W W') (hY : n = 0 ∨ Y (bOf a)) : Row W' a n f := by
  refine ⟨h.at_, fun k hkn => ?_⟩
  have h0 := h.cell k hkn
  exact (World.cell?_of_block (a := ⟨bOf a, oOf a + k, none⟩) (hk.block _ (World.block_lt_of_cell? W _ h0) (hY.resolve_left (by omega)))).trans h0
theorem DOk.call {S : DSt} (h : DOk S) (hc : S.calls < 100000) : DOk { S with calls := S.calls + 1 } :=
  ⟨h.nodup, h.names, h.last, h.turns, h.long, h.lasts, h.byte, h.tkind, h.tnames, ⟨Int.le_trans h.few.1 (show S.calls ≤ S.calls + 1 by omega), Int.le_trans h.few.2.1 (show S.calls ≤ S.calls + 1 by omega), Int.le_trans h.few.2.2 (show S.calls ≤ S.calls + 1 by omega)⟩, ⟨h.nums.1, h.nums.2.1, by have := h.nums.2.2.1; show 0 ≤ S.calls + 1; omega, by show S.calls + 1 ≤ 100000; omega, h.nums.2.2.2.2⟩⟩
set_option maxRecDepth 100000 in
set_option maxHeartbeats 1000000 in
theorem append_any (B : Nat) (w : World) (bd : Nat) (S : DSt) (A : Nat → Prop) (h : DiskAv B w bd S A) (hAl : ∀ b, A b → b < w.heap.size) (hok : DOk S) (h1 : S.dead = false) (h2 : S.stop ≤ 0) (h3 : S.fail ≤ 0) (hB : B ≤ w.heap.size) (hc : S.calls < 100000) (s : ByteArray) (hs : s.size ≤ maxLen) (a : Option Addr) (cap : Nat) (d : List Nat) (hr : Row w a d.length (byteV d)) (hne : d.length = 0 ∨ bOf a ≠ bd) :
    Calls Try.prog 15 #[.pointer (some ⟨bd, 0, none⟩), .string s, .slice a d.length cap] w (DPost B A w bd (onR S s (appR { S with calls := S.calls + 1 } d))) := by
  have hbl : bd < w.heap.size := by obtain ⟨ρ, vf, vt, bn, bl, V, hd, _⟩ := h; exact hd.lt
  have B0 := Boxed.new w 22 (.pointer (some ⟨bd, 0, none⟩))
  have B1 := Boxed.new (w.alloc (.cells #[.pointer (some ⟨bd, 0, none⟩)] 22)) 28 (.slice a d.length cap)
  simp only [World.size_alloc] at B1
  have B0' := B0.alloc (.cells #[.slice a d.length cap] 28)
  have hb2 : Below w.heap.size w ((w.alloc (.cells #[.pointer (some ⟨bd, 0, none⟩)] 22)).alloc (.cells #[.slice a d.length cap] 28)) := ((Below.refl _ w).alloc (Nat.le_refl _) _).alloc (by simp) _
  have hsz : ((w.alloc (.cells #[.pointer (some ⟨bd, 0, none⟩)] 22)).alloc (.cells #[.slice a d.length cap] 28)).heap.size = w.heap.size + 2 := by simp
  have HON := Lib.hid (on_append B _ bd S A (h.below hb2) hok h1 h2 h3 (by rw [hsz]; omega) s hs #[.pointer (some ⟨w.heap.size + 1, 0, none⟩), .pointer (some ⟨w.heap.size, 0, none⟩)] (appR { S with calls := S.calls + 1 } d) (fun W f hW hu hf => by
    have hrow : Row W a d.length (byteV d) := row_kx (hr.kept hb2) hu.keep hne
    exact append1_any B W bd _ A hW (fun b hb => by have := hAl b hb; have := hu.keep.size; rw [hsz] at this; omega) (hok.call hc) (by have := hu.keep.size; rw [hsz] at this; omega) f (hok.names.file hf) _ _ a cap d (hu.cell (p := ⟨w.heap.size + 1, 0, none⟩) B1.cell (by show w.heap.size + 1 ≠ bd; omega)) (hu.cell (p := ⟨w.heap.size, 0, none⟩) B0'.cell (by show w.heap.size ≠ bd; omega)) hrow))
  have HB2 := Lib.hid hb2
  clear h hAl hok h1 h2 h3 hr hb2 B0 B1 B0' hsz
  go_enter Try.func15, Try.ntmps15
  go_wp2_with fail
  refine HON.out.mono ?_
  rintro e w4 ⟨z, S2, rfl, hR, hd2, hb4, hk4⟩
  have HK4 := Lib.hid hk4
  have HR := Lib.hid hR
  have HD2 := Lib.hid hd2
  have HB4 := Lib.hid hb4
  clear hR hd2 hb4 hk4 HON
  go_wp2
  go_ret
  exact ⟨z, S2, rfl, HR.out, HD2.out, (HB2.out.mono hB).trans HB4.out, (KeepX.of_below HB2.out).trans HK4.out⟩
end Go.Proofs.Ytelndbjjkhlacaa
