/-
  slices.SortFunc at hits: its contract over rows of hits.
-/
import Derived.Test.YtjpoebmjfedecaaGreatFmGetPut
import Derived.Test.YtjpoebmjfedecaaGreatFmMath
import Derived.Test.YtjpoebmjfedecaaGreatHitShelf
import Derived.Shelf.SlSortCmp.NoneTotal
import Derived.Sort.Grow
namespace Go.Proofs.YtjpoebmjfedecaaGreat
open Go.RowKit

def encB (x : B2) : List Value := [.int .i64 (x.1.val : Int), .int .i64 (x.2.val : Int)]
set_option maxRecDepth 100000 in
set_option maxHeartbeats 400000 in
theorem hcmp_any (x y : B2) (W : World) :
    Calls Tryz.prog 64 #[.agg #[.int .i64 (x.1.val : Int), .int .i64 (x.2.val : Int)], .agg #[.int .i64 (y.1.val : Int), .int .i64 (y.2.val : Int)]] W fun e w' => e = .returned (.int .i64 (cfH x y)) ∧ ∃ q os', w' = Sort.grow (W.drewN q) os' := by
  obtain ⟨⟨a, ha⟩, ⟨b, hb⟩⟩ := x
  obtain ⟨⟨c, hc⟩, ⟨d, hd⟩⟩ := y
  have w1 : IntKind.i64.wrap ((a : Int) - (c : Int)) = (a : Int) - (c : Int) := IntWalk.i64_in _ (by omega)
  have w2 : IntKind.i64.wrap ((b : Int) - (d : Int)) = (b : Int) - (d : Int) := IntWalk.i64_in _ (by omega)
  by_cases h : (a : Int) = (c : Int)
  · have t1 : ((a : Int) == (c : Int)) = true := by simp; omega
    have HC : Hid (cfH (⟨a, ha⟩, ⟨b, hb⟩) (⟨c, hc⟩, ⟨d, hd⟩) = (b : Int) - (d : Int)) := by unfold Hid cfH; simp only; rw [if_pos h]
    rw [HC.out]
    clear h HC
    go_enter Tryz.func64, Tryz.ntmps64
    go_wp2
    go_ret
    exact ⟨rfl, 0, _, by rw [Sort.alloc_eq_grow, Sort.alloc_eq_grow, Sort.grow_grow]; rfl⟩
  · have t1 : ((a : Int) == (c : Int)) = false := by simp; omega
    have HC : Hid (cfH (⟨a, ha⟩, ⟨b, hb⟩) (⟨c, hc⟩, ⟨d, hd⟩) = (a : Int) - (c : Int)) := by unfold Hid cfH; simp only; rw [if_neg h]
    rw [HC.out]
    clear h HC
    go_enter Tryz.func64, Tryz.ntmps64
    go_wp2
    go_ret
    exact ⟨rfl, 0, _, by rw [Sort.alloc_eq_grow, Sort.alloc_eq_grow, Sort.grow_grow]; rfl⟩
open Go.Shelf
theorem encB_len (x : B2) : (encB x).length = 2 := rfl
theorem encB_one (x : B2) : ∀ v ∈ encB x, v.oneCell' = true := by
  intro v hv
  simp [encB] at hv
  rcases hv with rfl | rfl <;> rfl
theorem toB_val (p : Nat × Nat) (h : p.1 < 65536 ∧ p.2 < 65536) : (toB p).1.val = p.1 ∧ (toB p).2.val = p.2 := by
  have o := ofB_toB p h
  exact ⟨congrArg Prod.fst o, congrArg Prod.snd o⟩
theorem flat_hit (L : List (Nat × Nat)) (hs : ∀ p ∈ L, p.1 < 65536 ∧ p.2 < 65536) (j : Nat) (hj : j < 2 * L.length) : (Sort.flatK encB 2 (L.map toB).toArray)[j]! = (hitVs L).getD j undef := by
  have hq : j / 2 < L.length := by omega
  have hsz : (L.map toB).toArray.size = L.length := by simp
  have e1 : (L.map toB).toArray[j / 2]! = toB L[j / 2] := by rw [getElem!_pos _ (j / 2) (by rw [hsz]; exact hq)]; simp
  obtain ⟨v1, v2⟩ := toB_val L[j / 2] (hs _ (List.getElem_mem hq))
  have eg : L.getD (j / 2) (0, 0) = L[j / 2] := by rw [List.getD_eq_getElem?_getD, List.getElem?_eq_getElem hq]; rfl
  obtain ⟨h0, h1⟩ := hitVs_at L (j / 2) hq
  rw [Sort.get_flatK encB 2 _ j (by rw [hsz]; omega), e1, List.getD_eq_getElem?_getD]
  rw [eg] at h0 h1
  rcases Nat.mod_two_eq_zero_or_one j with hm | hm
  · rw [hm]
    rw [show 2 * (j / 2) = j by omega] at h0
    rw [h0, ← v1]; rfl
  · rw [hm]
    rw [show 2 * (j / 2) + 1 = j by omega] at h1
    rw [h1, ← v2]; rfl
theorem sortW_below {w0 w : World} (h : Below w0.heap.size w0 w) (blk n : Nat) (d : Array B2) (os : Array Obj) (hb : w0.heap.size ≤ blk) : Below w0.heap.size w0 (sortWorldK encB 2 w blk 0 n d os) := by
  refine ⟨h.os, h.tape, h.output, ?_, fun b hlt => ?_⟩
  · unfold sortWorldK Sort.grow Sort.putRowK Sort.putRow Sort.mapBlock Sort.ahead
    simp only [Array.size_append, Array.size_modify]
    have := h.size
    omega
  · have hs := h.size
    unfold sortWorldK Sort.grow Sort.putRowK Sort.putRow Sort.mapBlock Sort.ahead
    simp only
    rw [Array.getElem?_append_left (by rw [Array.size_modify]; omega), Array.getElem?_modify, if_neg (by omega)]
    exact h.block b hlt
def HSortPost (w : World) (base : Nat) (v : Value) (n : Nat) (T : List (Nat × Nat)) (e : Ending) (w' : World) : Prop :=
  e = .returned (.tuple #[]) ∧ ∃ a cap, v = .slice a n cap ∧ HRow w' a T ∧ (n = 0 ∨ base ≤ bOf a) ∧ ∀ w0, Below w0.heap.size w0 w → w0.heap.size ≤ base → Below w0.heap.size w0 w'
set_option maxRecDepth 100000 in
set_option maxHeartbeats 1000000 in
theorem fsort_any (w : World) (base : Nat) (v : Value) (L T : List (Nat × Nat)) (hown : w.ownsRow base 91 2 v L.length (hitVs L)) (hL : ∀ p ∈ L, p.1 < 65536 ∧ p.2 < 65536) (hT : ∀ p ∈ T, p.1 < 65536 ∧ p.2 < 65536) (hn : L.length ≤ 1000000)
    (hlen : T.length = L.length) (hsort : ((L.map toB).toArray.toList.mergeSort fun x y => !(ltH y x)).toArray = (T.map toB).toArray) :
    Calls Tryz.prog 63 #[v, .func (.func 64) #[] #[]] w (HSortPost w base v L.length T) := by
  by_cases h0 : L.length = 0
  · obtain ⟨a, cap, rfl, _, hr, _⟩ := hrow_of_owns hown rfl
    have hc := AnyF.slices_SortFunc_none Tryz.sortHit a cap (.func (.func 64) #[] #[]) w
    change Calls Tryz.prog 63 _ _ _ at hc
    rw [h0]
    refine hc.mono ?_
    rintro e w' ⟨rfl, rfl⟩
    have : T = [] := List.eq_nil_of_length_eq_zero (by omega)
    subst this
    exact ⟨rfl, a, cap, rfl, HRow.nil _ _, .inl rfl, fun w0 hb _ => hb⟩
  · have hown2 := hown
    obtain ⟨hl, h⟩ := hown
    rcases h with ⟨rfl, h1⟩ | ⟨g, cap, cur, rfl, hb, hh, hnc, hc, hs, ht⟩
    · exact absurd h1 h0
    · obtain ⟨a9, c9, hv9, _, hr9, _⟩ := hrow_of_owns hown2 rfl
      have ha9 : a9 = some ⟨g, 0, none⟩ := by
        simp only [Value.slice.injEq] at hv9
        exact hv9.1.symm
      subst ha9
      have hsz : (L.map toB).toArray.size = L.length := by simp
      have hszT : (T.map toB).toArray.size = T.length := by simp
      have hgl : g < w.heap.size := (Array.getElem?_eq_some_iff.1 hh).1
      have hH : Sort.HoldsK encB 2 w g 0 (L.map toB).toArray := by
        intro j hj
        rw [Sort.size_flatK, hsz] at hj
        refine ⟨?_, ?_⟩
        · have := hr9.row.cell j (by omega)
          rw [flat_hit L hL j (by omega)]
          exact this
        · simp [World.frozen?, hh]
      have eg : ∀ args W, (callFunc 64 args).run Tryz.prog W = .ok (.enter 64 args) W := enters_of Tryz.func64 (by kernel_rfl) rfl
      have hcmp : CmpLays Tryz.prog 64 #[] encB 2 cfH g 0 (L.map toB).toArray.size w := fun _ _ _ _ x y => hcmp_any x y _
      have hcon := AnyQ.slices_SortFunc_total Tryz.sortHit 2 (fun _ => by kernel_rfl) (fun _ => by kernel_rfl) encB encB_len encB_one cfH ltH_swo 64 #[] g 0 cap (L.map toB).toArray w eg hcmp hH hgl (by rw [hsz]; omega) ltH_one
      change Calls Tryz.prog 63 _ _ _ at hcon
      rw [hsz] at hcon
      refine hcon.mono ?_
      rintro e w' ⟨rfl, n, os, rfl⟩
      have hs2 : (((L.map toB).toArray.toList.mergeSort fun x y => !(ltOf cfH) y x).toArray) = (T.map toB).toArray := hsort
      rw [hs2]
      have hH2 := holdsK_sortWorldK_c encB 2 w g 0 (L.map toB).toArray (T.map toB).toArray n os hH hgl (by rw [hsz, hszT, hlen])
      refine ⟨rfl, some ⟨g, 0, none⟩, cap, rfl, ⟨.inr rfl, fun j hj => ?_⟩, .inr hb, fun w0 hb0 hle => sortW_below hb0 g n _ os (by omega)⟩
      have := (hH2 j (by rw [Sort.size_flatK, hszT]; omega)).1
      rw [flat_hit T hT j (by omega)] at this
      exact this
end Go.Proofs.YtjpoebmjfedecaaGreat
