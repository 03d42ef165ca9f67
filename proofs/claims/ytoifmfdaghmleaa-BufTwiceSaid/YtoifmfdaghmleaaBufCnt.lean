/-
  Count; and what the document fixes of buffers is so.
-/
import Derived.Test.YtoifmfdaghmleaaBufAllL
import Derived.Test.YtoifmfdaghmleaaSameHits
set_option linter.unusedVariables false
namespace Go.Proofs.Ytoifmfdaghmleaa
open Go.RowKit Go.Lib Go.Sort Go.Shelf Go.Proofs.Ytoifmfdaghmleaa.Tx
attribute [local go_sem] Oper.semAt_some

theorem frNo {β : Type} : Fr (fun (_ : Nat → Prop) (_ : β) (_ : World) => False) := fun _ _ _ _ _ h _ _ => h
set_option maxRecDepth 100000 in
set_option maxHeartbeats 2000000 in
theorem countB (base : Nat) (dd : Int → List Nat) (w : World) (bt mp : Nat) (mv : Value) (L : List BEnt) (ht : BufS base dd w bt mp mv L) (hmx : MaxCell w) (P : List Nat) (hdb : ∀ i, ∀ c ∈ dd i, c < 256) (hpb : ∀ c ∈ P, c < 256) (hPl : P.length ≤ 100000) (hL : L.length ≤ 100000) (hD : ∀ i, (dd i).length ≤ 1000000) (hpos : ∀ e ∈ L, 0 ≤ e.1) (hlen : (hitsL dd P L).length ≤ 60000)
    (a : Option Addr) (cap : Nat) (hr : Row w a P.length (byteV P)) :
    Calls Try.prog 61 #[.pointer (some ⟨bt, 0, none⟩), .slice a P.length cap] w fun e w' => e = .returned (.int .i64 ((hitsL dd P L).length : Nat)) ∧ Below w.heap.size w w' := by
  refine (callsIn_wide (n := 5)).1 ?_
  have hwf : ∀ f, Fence.wide.fn f = True := fun _ => rfl
  have BN := Boxed.new w 3 (.int .i64 0)
  have hb2 : Below w.heap.size w (w.alloc (.cells #[.int .i64 0] 3)) := (Below.refl _ w).alloc (Nat.le_refl _) _
  have hs2 : (w.alloc (.cells #[.int .i64 0] 3)).heap.size = w.heap.size + 1 := by simp
  have HTF := Lib.hid (locB (w.alloc (.cells #[.int .i64 0] 3)) base dd bt mp mv L (ht.kept hb2) (hmx.kept hb2) a cap P (hr.kept hb2) (by omega))
  have HLT := Lib.hid ht
  have HMXL : Hid (Try.lays185_ren.g 1 < w.heap.size) := hmx.lt
  have HDB := Lib.hid hdb
  have HDL := Lib.hid hD
  have HPOS := Lib.hid hpos
  have HPB := Lib.hid hpb
  have HBN := Lib.hid BN
  have HB2 := Lib.hid hb2
  have HS2 := Lib.hid hs2
  clear ht hmx hdb hD hpos hpb BN hb2 hs2 hr
  refine callsIn_of_wp_marks Try.func61 rfl trivial ?_ rfl
  simp only [Try.ntmps61, List.size_toArray, List.length_cons, List.length_nil, Nat.reduceAdd, Nat.reduceSub, Array.replicate_succ, Array.replicate_zero, List.push_toArray, List.append_toArray, List.nil_append, List.cons_append]
  gi_wp2_with fail
  generalize (w.alloc (.cells #[.int .i64 0] 3)) = w3 at *
  refine (callsIn_wide.2 HTF.out).mono ?_
  rintro e w4 ⟨ap, cp, rfl, hb4, hlc, hlp⟩
  have hs3 := HS2.out
  have hs4 := hb4.size
  have HLC := Lib.hid hlc
  have HLP := Lib.hid hlp
  have HB4 : Hid (Below w.heap.size w w4) := HB2.out.trans (hb4.mono HB2.out.size)
  have HX1 : Hid (Boxed w4 w.heap.size 3 (.int .i64 0)) := (hb4.block _ HBN.out.lt).trans HBN.out
  have HLK : Hid (LocK (fun b => b < w4.heap.size ∧ b ≠ w.heap.size) L (w3.heap.size + 1) ap P) := by
    refine ⟨⟨World.block_lt_of_cell? _ _ hlc.c2, by omega⟩, ?_, ⟨hlc.mx.lt, by have := HMXL.out; omega⟩, fun e he h0 => ?_⟩
    · rcases Nat.eq_zero_or_pos P.length with h | h
      · exact .inl h
      · exact .inr ⟨hlc.pr.lt h, by have := hlp.resolve_left (by omega); omega⟩
    · have := HLT.out.lt (bOf e.2.1) (.inr ⟨e, he, h0, rfl⟩)
      exact ⟨by omega, by omega⟩
  clear hb4 hlc hlp HBN HB2 HTF hs3 hs4
  gi_wp2
  refine wpIn_rangeFunc_X rfl (by omega) (gf := 100) (lb := #[.pointer (some ⟨w3.heap.size, 0, none⟩), .pointer (some ⟨w3.heap.size + 1, 0, none⟩)]) rfl trivial (enters_of Try.func100 (by kernel_rfl) rfl)
    (loc1B 4 (by omega) (fun b => b < w4.heap.size ∧ b ≠ w.heap.size) base dd w4 bt mp mv L w3.heap.size (w3.heap.size + 1) ap cp P HLC.out HLK.out HDB.out HPB.out (by omega) hL HDL.out HPOS.out)
    (fun b h => h.1) (Below.refl _ _) (fun _ => rfl)
    (fun X (pre : List (Nat × Nat)) W => (Boxed W w.heap.size 3 (.int .i64 ((pre.length : Nat) : Int)) ∧ ¬ X w.heap.size) ∧ (Below w.heap.size w4 W ∧ ∀ b, X b → w.heap.size ≤ b))
    (fun c X (pre : List (Nat × Nat)) W => False)
    (Fr.and (Fr.boxed w.heap.size 3 (fun pre : List (Nat × Nat) => .int .i64 ((pre.length : Nat) : Int))) (Fr.below (by have := HB4.out.size; omega)))
    (fun c => frNo)
    ⟨⟨HX1.out, fun h => h⟩, ⟨Below.refl _ _, fun b h => h.elim⟩⟩
    (fun y => { tmps := #[.pointer (some ⟨bt, 0, none⟩), .slice a P.length cap, undef, undef, .int .i64 0, .pointer (some ⟨w.heap.size, 0, none⟩), .pointer (some ⟨bt, 0, none⟩), .slice a P.length cap, .func (.func 100) #[] #[.pointer (some ⟨w3.heap.size, 0, none⟩), .pointer (some ⟨w3.heap.size + 1, 0, none⟩)], .int .i64 ((y.1 : Nat) : Int), .int .i64 ((y.2 : Nat) : Int), undef, undef, undef], defers := [] }) ?assign ?body ?done ?stop
  case assign =>
    intro l y W G hG
    unfold hitE5
    gi_wp2
    simpa using hG
  case body =>
    rintro l X pre y W - hXl ⟨hv, ⟨hB, hge⟩⟩ hlt
    have hc := hv.1.cell
    have hf := hv.1.frozen
    have HV := Lib.hid hv
    have HB5 := Lib.hid hB
    have HGE := Lib.hid hge
    have hwr : IntKind.i64.wrap (((pre.length : Nat) : Int) + 1) = ((pre.length : Nat) : Int) + 1 := IntWalk.i64_in _ (by omega)
    clear hv hB hge
    gi_wp2
    have hst : StepX (fun b => b = w.heap.size) W (W.setCell ⟨w.heap.size, 0, none⟩ (.int .i64 (((pre.length : Nat) : Int) + 1))) := StepX.setCell _ _ _ rfl
    refine ⟨KeepX.setCell _ _ _ HV.out.2, KeepX.setCell _ _ _ (fun h => h.2 rfl), ⟨?_, HV.out.2⟩, HB5.out.trans (hst.below (by have := HB5.out.size; have := HB4.out.size; omega) (fun b h => by omega)), HGE.out⟩
    have := HV.out.1.set (.int .i64 (((pre.length : Nat) : Int) + 1))
    rw [show (((pre ++ [y]).length : Nat) : Int) = ((pre.length : Nat) : Int) + 1 by simp]
    exact this
  case done =>
    rintro D X xs W hD hXD rfl ⟨hv, ⟨hB, hge⟩⟩ hK
    have hc := hv.1.cell
    have hDl := (Array.getElem?_eq_some_iff.1 hK).1
    have HFIN : Hid (Below w.heap.size w (W.putObj D (.deferred none))) := (HB4.out.trans hB).trans (belowK_b (w := w) (Nat.le_refl _) W D _ _ (hge D hXD) hK rfl rfl)
    have HK := Lib.hid hK
    clear hv hB hge hK
    gi_wp2
    refine ⟨by simp, .inl ⟨_, _, rfl, run_takeDeferred HK.out, ?_⟩⟩
    refine ⟨_, results_tmp rfl _ _ _, ?_⟩
    exact ⟨rfl, HFIN.out⟩
  case stop =>
    rintro D X c pre W hD hXD hpre h
    exact h.elim
end Go.Proofs.Ytoifmfdaghmleaa
