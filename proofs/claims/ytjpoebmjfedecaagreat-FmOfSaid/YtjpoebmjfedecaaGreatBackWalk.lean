/-
  An index of a row: how it lies, and its calls.
-/
import Derived.Test.YtjpoebmjfedecaaGreatBackMath
import Derived.Test.YtjpoebmjfedecaaGreatBwtStarts
import Derived.Test.YtjpoebmjfedecaaGreatBwtStep
import Derived.Test.YtjpoebmjfedecaaGreatBwtDocsPut
import Derived.Test.YtjpoebmjfedecaaGreatWaveNew
namespace Go.Proofs.YtjpoebmjfedecaaGreat
open Go.RowKit

/-- an index of a row -/
structure IdxAt (w : World) (bx bm : Nat) (al : Option Addr) (cap : Nat) (L : List Nat) : Prop where
  c0 : w.cell? ⟨bx, 0, none⟩ = some (.slice al L.length cap)
  c1 : w.cell? ⟨bx, 1, none⟩ = some (.pointer (some ⟨bm, 0, none⟩))
  cs : ∀ c, c < 257 → w.cell? ⟨bx, 2 + c, none⟩ = some (.int .i64 ((stC L c : Nat) : Int))
  rl : Row w al L.length (symV L)
  mt : ∃ a2 c2 bv bw ba, Wv.MatAt w bm a2 c2 bv bw ba L
theorem IdxAt.kept {w w' : World} {bx bm : Nat} {al : Option Addr} {cap : Nat} {L : List Nat} (h : IdxAt w bx bm al cap L) (hb : Below w.heap.size w w') : IdxAt w' bx bm al cap L := by
  have hl : bx < w.heap.size := World.block_lt_of_cell? w _ h.c0
  obtain ⟨a2, c2, bv, bw, ba, hm⟩ := h.mt
  exact ⟨(hb.cell (p := ⟨bx, 0, none⟩) hl).trans h.c0, (hb.cell (p := ⟨bx, 1, none⟩) hl).trans h.c1, fun c hc => (hb.cell (p := ⟨bx, 2 + c, none⟩) hl).trans (h.cs c hc), h.rl.kept hb, a2, c2, bv, bw, ba, hm.kept hb⟩
theorem IdxAt.drewN {w : World} {bx bm : Nat} {al : Option Addr} {cap : Nat} {L : List Nat} (h : IdxAt w bx bm al cap L) (k : Nat) : IdxAt (w.drewN k) bx bm al cap L := by
  obtain ⟨a2, c2, bv, bw, ba, hm⟩ := h.mt
  exact ⟨h.c0, h.c1, h.cs, h.rl.drewN k, a2, c2, bv, bw, ba, hm.drewN k⟩
theorem fold_put (g : Nat) : ∀ (l : List Value) (k : Nat) (Z : Array Value), g + k + l.length ≤ Z.size →
    ((l.zipIdx k).foldl (fun (cs : Array Value) (x : Value × Nat) => cs.setIfInBounds (g + x.2) x.1) Z).size = Z.size ∧
    ∀ i, ((l.zipIdx k).foldl (fun (cs : Array Value) (x : Value × Nat) => cs.setIfInBounds (g + x.2) x.1) Z)[i]? = if g + k ≤ i ∧ i < g + k + l.length then l[i - (g + k)]? else Z[i]?
  | [], k, Z, _ => ⟨rfl, fun i => by rw [if_neg (by simp)]; rfl⟩
  | v :: l, k, Z, h => by
    rw [List.zipIdx_cons, List.foldl_cons]
    simp only [List.length_cons] at h ⊢
    obtain ⟨h1, h2⟩ := fold_put g l (k + 1) (Z.setIfInBounds (g + k) v) (by rw [Array.size_setIfInBounds]; omega)
    refine ⟨by rw [h1, Array.size_setIfInBounds], fun i => ?_⟩
    rw [h2 i]
    by_cases e : i = g + k
    · subst e
      rw [if_neg (by omega), if_pos (by omega), Array.getElem?_setIfInBounds, if_pos rfl, if_pos (by omega)]
      simp
    · by_cases e2 : g + (k + 1) ≤ i ∧ i < g + (k + 1) + l.length
      · rw [if_pos e2, if_pos (by omega), show i - (g + k) = (i - (g + (k + 1))) + 1 by omega, List.getElem?_cons_succ]
      · rw [if_neg e2, if_neg (by omega), Array.getElem?_setIfInBounds, if_neg (by omega)]
theorem build_row (f : Nat → Nat) (Z C : Array Value) (hZ : Z.size = 259) (hC : C = Array.foldl (fun (cs : Array Value) (x : Value × Nat) => cs.setIfInBounds (2 + x.snd) x.fst) Z (arrV f).zipIdx 0 257) :
    C.size = 259 ∧ (∀ i, i < 2 → C[i]? = Z[i]?) ∧ ∀ c, c < 257 → C[2 + c]? = some (.int .i64 ((f c : Nat) : Int)) := by
  have hz : (arrV f).zipIdx.size = 257 := by rw [Array.size_zipIdx, arrV_size]
  have e : C = ((arrV f).toList.zipIdx 0).foldl (fun (cs : Array Value) (x : Value × Nat) => cs.setIfInBounds (2 + x.2) x.1) Z := by
    rw [hC, ← hz, ← Array.foldl_toList, Array.toList_zipIdx]
  have hl : (arrV f).toList.length = 257 := by rw [Array.length_toList, arrV_size]
  obtain ⟨h1, h2⟩ := fold_put 2 (arrV f).toList 0 Z (by rw [hl, hZ]; omega)
  rw [← e] at h1 h2
  refine ⟨by rw [h1, hZ], fun i hi => by rw [h2 i, if_neg (by omega)], fun c hc => ?_⟩
  rw [h2, if_pos (by rw [hl]; omega), show 2 + c - (2 + 0) = c by omega, Array.getElem?_toList, arrV_at f c hc]
theorem cells_new (w : World) (C : Array Value) (t : TypeId) (i : Nat) : (w.alloc (.cells C t)).cell? ⟨w.heap.size, i, none⟩ = C[i]? := by
  exact cell_of_row _ _ _ _ _ _ (World.alloc_heap_new w _)
def TrustPost (w : World) (L : List Nat) (e : Ending) (w' : World) : Prop :=
  ∃ bx bm al cap, e = .returned (.tuple #[.pointer (some ⟨bx, 0, none⟩), .int .i64 0]) ∧ IdxAt w' bx bm al cap L ∧ Below w.heap.size w w' ∧ w.heap.size ≤ bx
set_option maxRecDepth 100000 in
set_option maxHeartbeats 1000000 in
theorem trust_any (w : World) (a : Option Addr) (cap : Nat) (L : List Nat) (hn : L.length ≤ 100000) (hr : Row w a L.length (symV L)) (hm : ∀ c ∈ L, c ≤ 256) :
    Calls Tryz.prog 34 #[.slice a L.length cap] w (TrustPost w L) := by
  have HR := Lib.hid hr
  have HW := Lib.hid (Wv.wnew_any w a cap L hn hr hm)
  clear hr hm
  go_enter Tryz.func34, Tryz.ntmps34
  go_wp2_with fail
  refine HW.out.mono ?_
  rintro e w1 ⟨bm, a2, c2, bv, bw, ba, rfl, hmt, hb1⟩
  have HM1 := Lib.hid hmt
  have HB1 := Lib.hid hb1
  have HR1 := Lib.hid (HR.out.kept hb1)
  clear hmt hb1 HW
  go_wp2_with fail
  refine (Wv.clone_any w1 a L.length cap (fun k => L.getD k 0) (by omega) HR1.out).mono ?_
  rintro e w2 ⟨al, cl, rfl, hr2, hb2, hlo2⟩
  have HM2 := Lib.hid (HM1.out.kept hb2)
  have HB2 : Hid (Below w.heap.size w w2) := below_next HB1.out hb2 HB1.out.size
  have HR2 := Lib.hid (HR1.out.kept hb2)
  have HRL : Hid (Row w2 al L.length (symV L)) := hr2
  clear hr2 hb2 hlo2 HM1 HB1 HR1
  go_wp2_with fail
  refine (starts_any w2 a cap L (by omega) HR2.out).mono ?_
  rintro e w3 ⟨rfl, hb3⟩
  have HM3 := Lib.hid (HM2.out.kept hb3)
  have HB3 : Hid (Below w.heap.size w w3) := below_next HB2.out hb3 HB2.out.size
  have HRL3 := Lib.hid (HRL.out.kept hb3)
  clear hb3 HM2 HB2 HR2 HRL
  have hsz : (arrV (stC L)).size = 257 := arrV_size _
  have hz9 : Tryz.zeroCells105.size = 259 := by kernel_rfl
  have hzc : ∀ x y, ((Tryz.zeroCells105.setIfInBounds 0 x).setIfInBounds 1 y).size = 259 := fun x y => by
    rw [Array.size_setIfInBounds, Array.size_setIfInBounds]; exact hz9
  have hz0 : ∀ x y, ((Tryz.zeroCells105.setIfInBounds 0 x).setIfInBounds 1 y)[0]? = some x := fun x y => by
    rw [Array.getElem?_setIfInBounds, if_neg (by omega), Array.getElem?_setIfInBounds, if_pos rfl, if_pos (by rw [hz9]; omega)]
  have hz1 : ∀ x y, ((Tryz.zeroCells105.setIfInBounds 0 x).setIfInBounds 1 y)[1]? = some y := fun x y => by
    rw [Array.getElem?_setIfInBounds, if_pos rfl, if_pos (by rw [Array.size_setIfInBounds, hz9]; omega)]
  have HZ := Lib.hid hzc
  have HZ0 := Lib.hid hz0
  have HZ1 := Lib.hid hz1
  clear hzc hz0 hz1 hz9
  go_wp2_with fail
  generalize hC : Array.foldl (fun (cs : Array Value) (x : Value × Nat) => cs.setIfInBounds (2 + x.snd) x.fst) ((Tryz.zeroCells105.setIfInBounds 0 (.slice al L.length cl)).setIfInBounds 1 (.pointer (some ⟨bm, 0, none⟩))) (arrV (stC L)).zipIdx 0 257 = C at *
  obtain ⟨g1, g2, g3⟩ := build_row (stC L) _ C (HZ.out _ _) hC.symm
  have HBn := (Below.refl w3.heap.size w3).alloc (Nat.le_refl _) (.cells C 105)
  have hfin : IdxAt (w3.alloc (.cells C 105)) w3.heap.size bm al cl L :=
    ⟨(cells_new _ _ _ 0).trans ((g2 0 (by omega)).trans (HZ0.out _ _)), (cells_new _ _ _ 1).trans ((g2 1 (by omega)).trans (HZ1.out _ _)), fun c hc => (cells_new _ _ _ _).trans (g3 c hc), HRL3.out.kept HBn, a2, c2, bv, bw, ba, HM3.out.kept HBn⟩
  have HF := Lib.hid hfin
  clear hC g1 g2 g3 hfin hsz
  go_ret2
  exact ⟨_, bm, al, cl, rfl, HF.out, below_next HB3.out HBn HB3.out.size, HB3.out.size⟩
end Go.Proofs.YtjpoebmjfedecaaGreat
