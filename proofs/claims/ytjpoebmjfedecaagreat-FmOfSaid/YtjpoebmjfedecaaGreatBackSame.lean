/-
  The statement BackSame: its walk; Syms.
-/
import Derived.Test.YtjpoebmjfedecaaGreatBackAwake
namespace Go.Proofs.YtjpoebmjfedecaaGreat
open Go.RowKit

set_option maxRecDepth 100000 in
set_option maxHeartbeats 400000 in
theorem clone16_any (w : World) (a : Option Addr) (n cap : Nat) (f : Nat → Value) (hn : n ≤ 1000000) (h1 : ∀ k, k < n → (f k).oneCell' = true) (hr : Row w a n f) :
    Calls Tryz.prog 54 #[.slice a n cap] w fun e w' => ∃ a' cap', e = .returned (.slice a' n cap') ∧ n ≤ cap' ∧ (a' = none → cap' = 0) ∧ Row w' a' n f ∧ Below w.heap.size w w' ∧ (n = 0 ∨ w.heap.size ≤ bOf a') := by
  have hnil := fun W => Lib.run_eql_slice_nil (P := Tryz.prog) W 22 50 a n cap 0 0 Tryz.underlying22
  obtain ⟨i0, hi, hz0, hz1, hz2⟩ := info_parts Wv.info_u16
  cases a with
  | none =>
    have hn0 : n = 0 := by rcases hr.at_ with h | h; · exact h
                           · cases h
    subst hn0
    have e1 : Option.isNone (none : Option Addr) = true := rfl
    clear hr h1
    go_enter Tryz.func54, Tryz.ntmps54
    go_wp2
    go_ret
    exact ⟨none, 0, rfl, Nat.le_refl _, fun _ => rfl, Row.nil _ _ _, Below.refl _ _, by simp⟩
  | some ad =>
    have hx0 := owns_empty w w.heap.size 50 (Nat.le_refl _)
    have hb0 : Below w.heap.size w (w.alloc (.cells #[] 50)) := (Below.refl _ w).alloc (Nat.le_refl _) _
    obtain ⟨v3, w3, hrun3, hown3, hg3, _⟩ := run_append_row (P := Tryz.prog) (w.alloc (.cells #[] 50)) w.heap.size 22 22 50 i0 _ 2 Tryz.underlying22 hi hz0 hz1 hz2 rfl _ 0 [] hx0 (some ad) n cap _ (hr.kept hb0) h1 (by simp only [maxLen]; omega) (by omega) (by simp)
    have hB3 : Below w.heap.size w w3 := hb0.grown hg3 (by simp) (fun k hk => by simp [Value.ownBlock] at hk; omega)
    rw [Nat.zero_add, List.nil_append] at hown3
    have hcap0 : ∀ c, v3 = .slice none n c → c = 0 := fun c hc => by
      rcases hown3.2 with ⟨e, _⟩ | ⟨g, cap, cur, e, _⟩
      · rw [hc] at e; injection e
      · rw [hc] at e; cases e
    obtain ⟨a3, cap3, rfl, hc3, hr3, hlow3, _⟩ := Row.of_owns hown3
    have hr3' : Row w3 a3 n f := hr3.congr fun k hk => by simp [List.getD_eq_getElem?_getD, hk]
    have hcc : a3 = none → cap3 = 0 := fun e => hcap0 cap3 (by rw [e])
    have R3 := Lib.hid hrun3
    have HR3 := Lib.hid hr3'
    have HB3 := Lib.hid hB3
    have HCC := Lib.hid hcc
    clear hr hx0 hb0 hrun3 hown3 hg3 hB3 hr3 hr3' h1 hcap0 hcc
    go_enter Tryz.func54, Tryz.ntmps54
    go_wp2_with ((with_reducible refine wpList_append_run rfl _ _ _ rfl R3.out rfl rfl ?_); clear R3)
    go_ret
    exact ⟨a3, cap3, rfl, hc3, HCC.out, HR3.out, HB3.out, hlow3⟩
end Go.Proofs.YtjpoebmjfedecaaGreat
