/-
  The statement BackSame: its walk; Syms.
-/
import Derived.Test.YtjpoebmjfedecaaBackAwake
namespace Go.Proofs.Ytjpoebmjfedecaa
open Go.RowKit

set_option maxRecDepth 100000 in
set_option maxHeartbeats 400000 in
theorem clone16_any (w : World) (a : Option Addr) (n cap : Nat) (f : Nat → Value) (hn : n ≤ 1000000) (h1 : ∀ k, k < n → (f k).oneCell' = true) (hr : Row w a n f) :
    Calls Try.prog 76 #[.slice a n cap] w fun e w' => ∃ a' cap', e = .returned (.slice a' n cap') ∧ n ≤ cap' ∧ (a' = none → cap' = 0) ∧ Row w' a' n f ∧ Below w.heap.size w w' ∧ (n = 0 ∨ w.heap.size ≤ bOf a') := by
  have hnil := fun W => Lib.run_eql_slice_nil (P := Try.prog) W 70 110 a n cap 0 0 Try.underlying70
  obtain ⟨i0, hi, hz0, hz1, hz2⟩ := info_parts Wv.info_u16
  cases a with
  | none =>
    have hn0 : n = 0 := by rcases hr.at_ with h | h; · exact h
                           · cases h
    subst hn0
    have e1 : Option.isNone (none : Option Addr) = true := rfl
    clear hr h1
    go_enter Try.func76, Try.ntmps76
    go_wp2
    go_ret
    exact ⟨none, 0, rfl, Nat.le_refl _, fun _ => rfl, Row.nil _ _ _, Below.refl _ _, by simp⟩
  | some ad =>
    have hx0 := owns_empty w w.heap.size 110 (Nat.le_refl _)
    have hb0 : Below w.heap.size w (w.alloc (.cells #[] 110)) := (Below.refl _ w).alloc (Nat.le_refl _) _
    obtain ⟨v3, w3, hrun3, hown3, hg3, _⟩ := run_append_row (P := Try.prog) (w.alloc (.cells #[] 110)) w.heap.size 70 70 110 i0 _ 2 Try.underlying70 hi hz0 hz1 hz2 rfl _ 0 [] hx0 (some ad) n cap _ (hr.kept hb0) h1 (by simp only [maxLen]; omega) (by omega) (by simp)
    have hB3 : Below w.heap.size w w3 := hb0.grown hg3 (by simp) (fun k hk => by simp [Value.ownBlock] at hk; omega)
    rw [Nat.zero_add, List.nil_append] at hown3
    have hcap0 : ∀ c, v3 = .slice none n c → c = 0 := fun c hc => by
      rcases hown3.2 with ⟨e, _⟩ | ⟨g, cap, cur, e, _⟩
      · rw [hc] at e; injection e
      · rw [hc] at e; cases e
    obtain ⟨a3, cap3, rfl, hc3, hr3, hlow3, _⟩ := Row.of_owns hown3
    have hr3' : Row w3 a3 n f := hr3.congr fun k hk => by simp [List.getD_eq_getElem?_getD, hk]
    have hcc : a3 = none → cap3 = 0 := fun e => hcap0 cap3 (by rw [e])
    have R3 := Lib.hid hrun3
    have HR3 := Lib.hid hr3'
    have HB3 := Lib.hid hB3
    have HCC := Lib.hid hcc
    clear hr hx0 hb0 hrun3 hown3 hg3 hB3 hr3 hr3' h1 hcap0 hcc
    go_enter Try.func76, Try.ntmps76
    go_wp2_with ((with_reducible refine wpList_append_run rfl _ _ _ rfl R3.out rfl rfl ?_); clear R3)
    go_ret
    exact ⟨a3, cap3, rfl, hc3, HCC.out, HR3.out, HB3.out, hlow3⟩
set_option maxRecDepth 100000 in
set_option maxHeartbeats 400000 in
theorem bsyms_any (w : World) (bx bm : Nat) (al : Option Addr) (cap : Nat) (L : List Nat) (h : IdxAt w bx bm al cap L) :
    Calls Try.prog 61 #[.pointer (some ⟨bx, 0, none⟩)] w (BSymsPost w L) := by
  have hsm : L.length ≤ 100000 := by obtain ⟨_, _, _, _, _, hm⟩ := h.mt; exact hm.small
  have c0 := h.c0
  have HC := Lib.hid (clone16_any w al L.length cap (symV L) (by omega) (fun _ _ => rfl) h.rl)
  clear h
  go_enter Try.func61, Try.ntmps61
  go_wp2_with fail
  refine HC.out.mono ?_
  rintro e w1 ⟨a', cap', rfl, h1, h2, hr, hb, -⟩
  have HR := Lib.hid hr
  have HB := Lib.hid hb
  have HK := Lib.hid (clip16_any w1 a' L.length cap' h1 h2)
  clear hr hb h1 h2
  go_wp2_with fail
  refine HK.out.mono ?_
  rintro e w' ⟨rfl, rfl⟩
  go_wp2
  go_ret
  exact ⟨a', rfl, HR.out, HB.out⟩
end Go.Proofs.Ytjpoebmjfedecaa
