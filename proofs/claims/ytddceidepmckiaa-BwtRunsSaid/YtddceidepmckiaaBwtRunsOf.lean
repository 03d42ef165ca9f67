/-
  bwt.Runs, and what the statements' helper gathers of it.
-/
import Derived.Test.YtddceidepmckiaaBwtRunsIt
import Derived.Test.YtddceidepmckiaaBwtOf
namespace Go.Proofs.Ytddceidepmckiaa
open Go.RowKit Go.Shelf
attribute [local go_sem] Oper.semAt_some

set_option maxRecDepth 100000 in
set_option maxHeartbeats 400000 in
theorem clone16_any (w : World) (a : Option Addr) (cap : Nat) (L : List Nat) (hn : L.length ≤ 1000000) (hr : Row w a L.length (symV L)) :
    Calls Try.prog 81 #[.slice a L.length cap] w fun e w' => ∃ a' cap', e = .returned (.slice a' L.length cap') ∧ Row w' a' L.length (symV L) ∧ Below w.heap.size w w' ∧ (L.length = 0 ∨ w.heap.size ≤ bOf a') := by
  have hnil := fun W => Lib.run_eql_slice_nil (P := Try.prog) W 52 56 a L.length cap 0 0 Try.underlying52
  obtain ⟨i0, hi, hz0, hz1, hz2⟩ := info_parts info_u16'
  generalize hn' : L.length = n at *
  have HN := Lib.hid hn'
  clear hn'
  cases a with
  | none =>
    have hn0 : n = 0 := by rcases hr.at_ with h | h; · exact h
                           · cases h
    subst hn0
    have e1 : Option.isNone (none : Option Addr) = true := rfl
    clear hr
    go_enter Try.func81, Try.ntmps81
    go_wp2
    go_ret
    exact ⟨none, 0, rfl, Row.nil _ _ _, Below.refl _ _, by simp⟩
  | some ad =>
    have hx0 := owns_empty w w.heap.size 56 (Nat.le_refl _)
    have hb0 : Below w.heap.size w (w.alloc (.cells #[] 56)) := (Below.refl _ w).alloc (Nat.le_refl _) _
    obtain ⟨v3, w3, hrun3, hown3, hg3, _⟩ := run_append_row (P := Try.prog) (w.alloc (.cells #[] 56)) w.heap.size 52 52 56 i0 _ 2 Try.underlying52 hi hz0 hz1 hz2 rfl _ 0 [] hx0 (some ad) n cap _ (hr.kept hb0) (fun _ _ => rfl) (by simp only [maxLen]; omega) (by omega) (by simp)
    have hB3 : Below w.heap.size w w3 := hb0.grown hg3 (by simp) (fun k hk => by simp [Value.ownBlock] at hk; omega)
    rw [Nat.zero_add, List.nil_append] at hown3
    obtain ⟨a3, cap3, rfl, hc3, hr3, hlow3, _⟩ := Row.of_owns hown3
    have hr3' : Row w3 a3 n (symV L) := hr3.congr fun k hk => by rw [List.getD_eq_getElem?_getD, List.getElem?_map, List.getElem?_range hk]; rfl
    have R3 := Lib.hid hrun3
    have HR3 := Lib.hid hr3'
    have HB3 := Lib.hid hB3
    clear hr hx0 hb0 hrun3 hown3 hg3 hB3 hr3 hr3'
    go_enter Try.func81, Try.ntmps81
    go_wp2_with ((with_reducible refine wpList_append_run rfl _ _ _ rfl R3.out rfl rfl ?_); clear R3)
    go_ret
    exact ⟨a3, cap3, rfl, HR3.out, HB3.out, hlow3⟩
def RunsFPost (w : World) (L : List Nat) (e : Ending) (w' : World) : Prop :=
  ∃ a4 c4, e = .returned (.func (.func 82) #[] #[.pointer (some ⟨w.heap.size, 0, none⟩)]) ∧ w'.cell? ⟨w.heap.size, 0, none⟩ = some (.slice a4 L.length c4) ∧ Row w' a4 L.length (symV L) ∧ Below w.heap.size w w' ∧ (L.length = 0 ∨ w.heap.size < bOf a4) ∧ w.heap.size < w'.heap.size
set_option maxRecDepth 100000 in
set_option maxHeartbeats 400000 in
theorem runsF_any (w : World) (a : Option Addr) (cap : Nat) (L : List Nat) (hL : L.length ≤ 1000) (hr : Row w a L.length (symV L)) :
    Calls Try.prog 70 #[.slice a L.length cap] w (RunsFPost w L) := by
  have hb0 : Below w.heap.size w (w.alloc (.cells #[.slice a L.length cap] 52)) := (Below.refl _ w).alloc (Nat.le_refl _) _
  have HC := Lib.hid (clone16_any (w.alloc (.cells #[.slice a L.length cap] 52)) a cap L (by omega) (hr.kept hb0))
  have bO := Boxed.new w 52 (.slice a L.length cap)
  have HO := Lib.hid bO
  have HB0 := Lib.hid hb0
  have hsz : (w.alloc (.cells #[.slice a L.length cap] 52)).heap.size = w.heap.size + 1 := by simp
  have HSZ := Lib.hid hsz
  clear hr bO hb0 hsz
  go_enter Try.func70, Try.ntmps70
  go_wp2_with fail
  refine HC.out.mono ?_
  rintro e w1 ⟨a4, c4, rfl, hr4, hb4, hlo⟩
  have hbx : Boxed w1 w.heap.size 52 (.slice a L.length cap) := (hb4.block _ (by rw [HSZ.out]; omega)).trans HO.out
  have hc := hbx.cell
  have hf := hbx.frozen
  rw [HSZ.out] at hlo
  have HR5 : Hid (Row (w1.setCell ⟨w.heap.size, 0, none⟩ (.slice a4 L.length c4)) a4 L.length (symV L)) :=
    row_of_block hr4 (hlo.elim .inl (fun h => .inr (Below.heap_setCell w1 ⟨w.heap.size, 0, none⟩ _ _ (fun (e : bOf a4 = w.heap.size) => by omega))))
  have HX5 := Lib.hid (hbx.set (.slice a4 L.length c4))
  have hs1 : w.heap.size + 1 ≤ w1.heap.size := by have := hb4.size; rw [HSZ.out] at this; exact this
  have HB5 : Hid (Below w.heap.size w (w1.setCell ⟨w.heap.size, 0, none⟩ (.slice a4 L.length c4))) := (below_next HB0.out hb4 HB0.out.size).setCell (p := ⟨w.heap.size, 0, none⟩) (Nat.le_refl _) _
  have HL5 : Hid (w.heap.size < (w1.setCell ⟨w.heap.size, 0, none⟩ (.slice a4 L.length c4)).heap.size) := (show w.heap.size < (w1.setCell ⟨w.heap.size, 0, none⟩ (.slice a4 L.length c4)).heap.size by rw [show (w1.setCell ⟨w.heap.size, 0, none⟩ (.slice a4 L.length c4)).heap.size = w1.heap.size by simp [World.setCell]]; omega)
  clear hr4 hb4 hbx
  go_wp2_with fail
  go_ret
  exact ⟨a4, c4, rfl, HX5.out.cell, HR5.out, HB5.out, hlo.imp id (fun h => by omega), HL5.out⟩
theorem nilf2 (A : Array Value) (W : World) : (binOp .eql 105 (.func (.func 82) #[] A) .nilFunc).run Try.prog W = .ok (.bool false) W := by kernel_rfl
theorem other_row {W w1 : World} {r0 B k k1 : Nat} {e1 e2 : TypeId} (hne : e1 ≠ e2) {u v v' : Value} {xs ys : List Value} {tmp : Obj} (hu : W.ownsRow r0 e2 1 u k ys) (hv : W.ownsRow r0 e1 1 v k1 xs)
    (hgrow : (W.alloc tmp).grownBy w1 v.ownBlock) (hB : B < r0) : (w1.setCell ⟨B, 0, none⟩ v').ownsRow r0 e2 1 u k ys := by
  have hlt := hu.lt
  have h1 : w1.ownsRow r0 e2 1 u k ys := by
    refine (hu.alloc tmp).kept hgrow ?_
    rcases hu.2 with ⟨rfl, _⟩ | ⟨g, cap, cur, rfl, _, hg, _⟩
    · exact .inl rfl
    · refine .inr fun e => ?_
      rcases hv.2 with ⟨rfl, _⟩ | ⟨g', cap', cur', rfl, _, hg', _⟩
      · simp [Value.ownBlock] at e
      · obtain rfl : g = g' := by simpa [Value.ownBlock] using e
        rw [hg] at hg'
        injection hg' with hg'
        injection hg' with _ h2 _
        exact hne h2.symm
  exact h1.kept (grownBy_setCell' w1 B v') (.inr (fun h => by have := (hlt B h).1; omega))
end Go.Proofs.Ytddceidepmckiaa
