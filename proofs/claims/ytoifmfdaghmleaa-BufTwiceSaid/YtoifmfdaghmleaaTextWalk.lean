/-
  The contracts of package text: New and what asks it; num.Own; the statements' Few.
-/
import Derived.Test.YtoifmfdaghmleaaFamRow
import Derived.Test.YtoifmfdaghmleaaTextMath
import Derived.Test.YtoifmfdaghmleaaProg
namespace Go.Proofs.Ytoifmfdaghmleaa.Tx
open Go.RowKit

theorem size_u8 (w : World) : (sizeOf (Try.prog.elem 26)).run Try.prog w = .ok 1 w := by kernel_rfl
theorem size_bytes (w : World) : (sizeOf (Try.prog.elem 30)).run Try.prog w = .ok 1 w := by kernel_rfl
theorem info_u8 : (Try.prog.info? 5).map (fun i => (i.zero, i.size, i.bytes)) = some (some (.int .u8 0), 1, 1) := by kernel_rfl
theorem info_bytes : (Try.prog.info? 26).map (fun i => (i.zero, i.size, i.bytes)) = some (some (.slice none 0 0), 1, 24) := by kernel_rfl
/-- bytes that are read -/
abbrev byteV (d : List Nat) : Nat → Value := fun k => .int .u8 ((d.getD k 0 : Nat) : Int)
set_option maxRecDepth 100000 in
set_option maxHeartbeats 400000 in
theorem cloneB_any (w : World) (a : Option Addr) (n cap : Nat) (f : Nat → Value) (hn : n ≤ 1000000) (h1 : ∀ k, k < n → (f k).oneCell' = true) (hr : Row w a n f) :
    Calls Try.prog 96 #[.slice a n cap] w fun e w' => ∃ a' cap', e = .returned (.slice a' n cap') ∧ n ≤ cap' ∧ (a' = none → cap' = 0) ∧ Row w' a' n f ∧ Below w.heap.size w w' ∧ (n = 0 ∨ w.heap.size ≤ bOf a') := by
  have hnil := fun W => Lib.run_eql_slice_nil (P := Try.prog) W 26 5 a n cap 0 0 Try.underlying26
  obtain ⟨i0, hi, hz0, hz1, hz2⟩ := info_parts info_u8
  cases a with
  | none =>
    have hn0 : n = 0 := by rcases hr.at_ with h | h; · exact h
                           · cases h
    subst hn0
    have e1 : Option.isNone (none : Option Addr) = true := rfl
    clear hr h1
    go_enter Try.func96, Try.ntmps96
    go_wp2
    go_ret
    exact ⟨none, 0, rfl, Nat.le_refl _, fun _ => rfl, Row.nil _ _ _, Below.refl _ _, by simp⟩
  | some ad =>
    have hx0 := owns_empty w w.heap.size 5 (Nat.le_refl _)
    have hb0 : Below w.heap.size w (w.alloc (.cells #[] 5)) := (Below.refl _ w).alloc (Nat.le_refl _) _
    obtain ⟨v3, w3, hrun3, hown3, hg3, _⟩ := run_append_row (P := Try.prog) (w.alloc (.cells #[] 5)) w.heap.size 26 26 5 i0 _ 1 Try.underlying26 hi hz0 hz1 hz2 rfl _ 0 [] hx0 (some ad) n cap _ (hr.kept hb0) h1 (by simp only [maxLen]; omega) (by omega) (by simp)
    have hB3 : Below w.heap.size w w3 := hb0.grown hg3 (by simp) (fun k hk => by simp [Value.ownBlock] at hk; omega)
    rw [Nat.zero_add, List.nil_append] at hown3
    have hcap0 : ∀ c, v3 = .slice none n c → c = 0 := fun c hc => by
      rcases hown3.2 with ⟨e, _⟩ | ⟨g, cap, cur, e, _⟩
      · rw [hc] at e; injection e
      · rw [hc] at e; cases e
    obtain ⟨a3, cap3, rfl, hc3, hr3, hlow3, _⟩ := Row.of_owns hown3
    have hr3' : Row w3 a3 n f := hr3.congr fun k hk => by simp [List.getD_eq_getElem?_getD, hk]
    have hcc : a3 = none → cap3 = 0 := fun e => hcap0 cap3 (by rw [e])
    have R3 := Lib.hid hrun3
    have HR3 := Lib.hid hr3'
    have HB3 := Lib.hid hB3
    have HCC := Lib.hid hcc
    clear hr hx0 hb0 hrun3 hown3 hg3 hB3 hr3 hr3' h1 hcap0 hcc
    go_enter Try.func96, Try.ntmps96
    go_wp2_with ((with_reducible refine wpList_append_run rfl _ _ _ rfl R3.out rfl rfl ?_); clear R3)
    go_ret
    exact ⟨a3, cap3, rfl, hc3, HCC.out, HR3.out, HB3.out, hlow3⟩

theorem clipB_any (w : World) (a : Option Addr) (n cap : Nat) (hn : n ≤ cap) (h0 : a = none → cap = 0) :
    Calls Try.prog 95 #[.slice a n cap] w fun e w' => e = .returned (.slice a n n) ∧ w = w' := by
  cases a with
  | none =>
    obtain rfl : cap = 0 := h0 rfl
    obtain rfl : n = 0 := by omega
    go_enter Try.func95, Try.ntmps95
    go_wp2
    go_ret
    exact ⟨rfl, rfl⟩
  | some ad =>
    clear h0
    go_enter Try.func95, Try.ntmps95
    go_wp2
    go_ret
    exact ⟨rfl, rfl⟩

/-- a copy of bytes in new memory -/
def OwnPost (w : World) (n : Nat) (f : Nat → Value) (e : Ending) (w' : World) : Prop :=
  ∃ a', e = .returned (.slice a' n n) ∧ Row w' a' n f ∧ Below w.heap.size w w' ∧ (n = 0 ∨ w.heap.size ≤ bOf a')
theorem own_any (w : World) (a : Option Addr) (n cap : Nat) (f : Nat → Value) (hn : n ≤ 1000000) (h1 : ∀ k, k < n → (f k).oneCell' = true) (hr : Row w a n f) :
    Calls Try.prog 59 #[.slice a n cap] w (OwnPost w n f) := by
  have HC := Lib.hid (cloneB_any w a n cap f hn h1 hr)
  clear hr h1
  go_enter Try.func59, Try.ntmps59
  go_wp2_with fail
  refine HC.out.mono ?_
  rintro e w1 ⟨a', cap', rfl, hc, h0, hr, hb, hlow⟩
  have HR := Lib.hid hr
  have HB := Lib.hid hb
  have HL := Lib.hid hlow
  have HP := Lib.hid (clipB_any w1 a' n cap' hc h0)
  clear hr hb hlow h0 HC
  go_wp2_with fail
  refine HP.out.mono ?_
  rintro e w2 ⟨rfl, rfl⟩
  go_wp2
  go_ret
  exact ⟨a', rfl, HR.out, HB.out, HL.out⟩

/-- documents as they lie in memory -/
structure DocsAt (w : World) (a : Option Addr) (A : Nat → Option Addr) (C : Nat → Nat) (ds : List (List Nat)) : Prop where
  top : Row w a ds.length (fun r => .slice (A r) (ds.getD r []).length (C r))
  each : ∀ r, r < ds.length → Row w (A r) (ds.getD r []).length (byteV (ds.getD r []))
theorem DocsAt.kept {w w' : World} {a : Option Addr} {A : Nat → Option Addr} {C : Nat → Nat} {ds : List (List Nat)} (h : DocsAt w a A C ds) (hb : Below w.heap.size w w') : DocsAt w' a A C ds :=
  ⟨h.top.kept hb, fun r hr => (h.each r hr).kept hb⟩
theorem DocsAt.drewN {w : World} {a : Option Addr} {A : Nat → Option Addr} {C : Nat → Nat} {ds : List (List Nat)} (h : DocsAt w a A C ds) (k : Nat) : DocsAt (w.drewN k) a A C ds := ⟨h.top.drewN k, fun r hr => (h.each r hr).drewN k⟩
/-- few and short documents -/
structure FewP (ds : List (List Nat)) : Prop where
  many : ds.length ≤ 40
  long : ∀ d ∈ ds, d.length ≤ 2000
  all : (rowOf ds).length ≤ 3040
  byte : ∀ d ∈ ds, ∀ c ∈ d, c < 256
def FewPost (w : World) (ds : List (List Nat)) (e : Ending) (w' : World) : Prop := ∃ b, e = .returned (.bool b) ∧ (b = true → ds.length ≤ 40 ∧ (∀ d ∈ ds, d.length ≤ 2000) ∧ (rowOf ds).length ≤ 3040) ∧ w = w'
theorem doc_mem {ds : List (List Nat)} {r : Nat} (h : r < ds.length) : ds.getD r [] ∈ ds := by
  rw [List.getD_eq_getElem?_getD, List.getElem?_eq_getElem h]; exact List.getElem_mem _
theorem doc_all {ds : List (List Nat)} {P : List Nat → Prop} (h : ∀ r, r < ds.length → P (ds.getD r [])) : ∀ d ∈ ds, P d := by
  intro d hd
  obtain ⟨r, hr, e⟩ := List.getElem_of_mem hd
  have := h r hr
  rw [List.getD_eq_getElem?_getD, List.getElem?_eq_getElem hr] at this
  rw [← e]; exact this
end Go.Proofs.Ytoifmfdaghmleaa.Tx
