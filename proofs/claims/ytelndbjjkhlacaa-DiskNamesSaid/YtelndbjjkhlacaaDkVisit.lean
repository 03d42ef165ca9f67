/-
  Files that a map's names lead to, visited one by one; the set of pointers that is filled with them.
-/
import Derived.Test.YtelndbjjkhlacaaDkTurnLead
import Derived.Sort.MapsRangeIn
namespace Go.Proofs.Ytelndbjjkhlacaa
open Go.RowKit Go.Maps Go.WideMaps

/-- visited in a range over D, when these keys are left -/
def visited (D : DT) (left : Lit → Bool) (f : Nat) : Prop := ∃ k, has D k = true ∧ left k = false ∧ ∀ z, D.atKey k z = enc f
theorem visited_start (D : DT) (f : Nat) : ¬ visited D (has D) f := fun ⟨k, h1, h2, _⟩ => by rw [h1] at h2; cases h2
theorem enc_inj {f g : Nat} (h : enc f = enc g) : f = g := by
  have := congrArg decF h
  rw [decF_enc, decF_enc] at this
  exact Option.some.inj this
theorem visited_step {D : DT} (hc : Canon D) (left : Lit → Bool) (k : Lit) {f : Nat} (hat : ∀ z, D.atKey k z = enc f) (hl : left k = true) (g : Nat) :
    visited D (fun z => left z && !z.sameKey k) g ↔ visited D left g ∨ g = f := by
  have hh : has D k = true := has_true_of_atKey hat
  have hkey : WideAt.IsKeyLit k := by
    obtain ⟨es, rfl, hs, hk⟩ := hc
    obtain ⟨p0, hp0, hsk⟩ := List.any_eq_true.1 hh
    have e0 : p0.1 = k := WideAt.sameKey_eq hsk
    subst e0
    exact hk p0 hp0
  constructor
  · rintro ⟨j, h1, h2, h3⟩
    by_cases e : j = k
    · subst e
      exact .inr (enc_inj ((h3 .nil).symm.trans (hat .nil)))
    · refine .inl ⟨j, h1, ?_, h3⟩
      have : j.sameKey k = false := sameKey_ne e
      simpa [this] using h2
  · rintro (⟨j, h1, h2, h3⟩ | rfl)
    · exact ⟨j, h1, by simp [h2], h3⟩
    · exact ⟨k, hh, by simp [WideAt.sameKey_self hkey], hat⟩
theorem visited_end {D : DT} (hc : Canon D) (hn : ∀ k, has D k = true → ∃ f, ∀ z, D.atKey k z = enc f) (left : Lit → Bool) (h : ∀ k, left k = false) (f : Nat) : visited D left f ↔ inD D f = true := by
  have hT : Tidy D := by obtain ⟨es, rfl, hs, hk⟩ := hc; exact ⟨es, rfl, apart_of_rising hs⟩
  have hK : ∀ es, D = .map es → ∀ p ∈ es, WideAt.IsKeyLit p.1 := by
    obtain ⟨es, rfl, hs, hk⟩ := hc
    intro es' e p hp
    cases e
    exact hk p hp
  rw [inD_iff hT hK]
  constructor
  · rintro ⟨k, h1, _, h3⟩
    exact ⟨k, h1, by rw [h3]; exact decF_enc f⟩
  · rintro ⟨k, h1, h2⟩
    obtain ⟨g, hg⟩ := hn k h1
    rw [hg, decF_enc] at h2
    cases h2
    exact ⟨k, h1, h k, hg⟩
theorem NamesOk.leads {D : DT} {F : List Nat} (h : NamesOk D F) : ∀ k, has D k = true → ∃ f, ∀ z, D.atKey k z = enc f := fun k hk => by
  obtain ⟨f, _, hf⟩ := h k hk
  exact ⟨f, hf⟩
theorem cellB_row {w : World} {b n : Nat} {t : TypeId} {f : Nat → Value} (h : w.rowIs b t n f) : CellB w b := by
  obtain ⟨c, hc, _⟩ := h
  exact ⟨c, _, hc⟩
theorem info_fileE : (Try.prog.info? 64).map (fun i => i.size) = some 2 := by kernel_rfl
theorem info_fileX : ∃ j, Try.prog.info? 64 = some j ∧ j.size ≠ 0 := by
  have h := info_fileE
  cases hj : Try.prog.info? 64 with
  | none => rw [hj] at h; cases h
  | some j => rw [hj] at h; injection h with h; exact ⟨j, rfl, by show (fun i : TypeInfo => i.size) j ≠ 0; rw [h]; decide⟩
theorem zeroBool (w : World) : (zeroValue 4).run Try.prog w = .ok (.bool false) w := by kernel_rfl
theorem set_look (w : World) {b : Nat} {l : List Nat} (h : PSet w b l) (hl : ∀ y ∈ l, CellB w y) {x : Nat} (hx : CellB w x) :
    (Instr.lookup 77 (.map (some b)) (ptrB x) false).run Try.prog w = .ok (.bool (decide (x ∈ l))) w := by
  obtain ⟨j, hj, hs⟩ := info_fileX
  exact h.look w Try.underlying77 Try.underlying62 hj hs (zeroBool w) hl hx
theorem set_put (w : World) {b : Nat} {l : List Nat} (h : PSet w b l) (hl : ∀ y ∈ l, CellB w y) {x : Nat} (hx : CellB w x) :
    ∃ w', (Instr.mapUpdate 77 (.map (some b)) (ptrB x) (.bool true)).run Try.prog w = .ok () w' ∧ PSet w' b (if x ∈ l then l else l ++ [x]) ∧ w.grownBy w' (some b) := by
  obtain ⟨j, hj, hs⟩ := info_fileX
  exact h.put w Try.underlying77 Try.underlying62 hj hs hl hx
theorem mem_more {l : List Nat} {x y : Nat} : y ∈ (if x ∈ l then l else l ++ [x]) ↔ y ∈ l ∨ y = x := by
  split
  · constructor
    · exact .inl
    · rintro (h | rfl)
      · exact h
      · assumption
  · simp
/-- other blocks written, new ones made: as if one block alone had been -/
theorem gb_new {w w' w'' : World} {r : Option Nat} {k : Nat} (h : w.grownBy w' r) (g : w'.grownBy w'' (some k)) (hk : w.heap.size ≤ k) : w.grownBy w'' r :=
  ⟨g.os.trans h.os, g.tape.trans h.tape, g.output.trans h.output, Nat.le_trans h.size g.size, fun b hb hn => (g.block b (Nat.lt_of_lt_of_le hb h.size) (fun e => by cases e; omega)).trans (h.block b hb hn)⟩
theorem gb_none {w w' w'' : World} {r : Option Nat} (h : w.grownBy w' r) (g : w'.grownBy w'' none) : w.grownBy w'' r :=
  ⟨g.os.trans h.os, g.tape.trans h.tape, g.output.trans h.output, Nat.le_trans h.size g.size, fun b hb hn => (g.block b (Nat.lt_of_lt_of_le hb h.size) (by simp)).trans (h.block b hb hn)⟩
theorem cellB_gb {w w' : World} {r : Option Nat} {b : Nat} (h : CellB w b) (g : w.grownBy w' r) (hn : some b ≠ r) : CellB w' b := by
  obtain ⟨c, t, hc⟩ := h
  exact ⟨c, t, (g.block b (Array.getElem?_eq_some_iff.1 hc).1 hn).trans hc⟩
theorem turnVs_at : ∀ (T : List Turn) (k : Nat) (hk : k < T.length) (i : Nat), i < 4 → (turnVs T)[k * 4 + i]? = (turnV T[k])[i]?
  | [], k, hk, i, hi => by simp at hk
  | t :: T, 0, hk, i, hi => by
    show (turnV t ++ turnVs T)[0 * 4 + i]? = _
    rw [List.getElem?_append_left (by show 0 * 4 + i < 4; omega)]
    simp
  | t :: T, k + 1, hk, i, hi => by
    show (turnV t ++ turnVs T)[(k + 1) * 4 + i]? = _
    rw [List.getElem?_append_right (by show 4 ≤ (k + 1) * 4 + i; omega)]
    have e : (k + 1) * 4 + i - (turnV t).length = k * 4 + i := by show (k + 1) * 4 + i - 4 = _; omega
    rw [e, turnVs_at T k (by simpa using hk) i hi]
    simp
theorem turn_cells {w : World} {B g cap : Nat} {T : List Turn} (h : w.ownsRow B 66 4 (.slice (some ⟨g, 0, none⟩) T.length cap) T.length (turnVs T)) (k : Nat) (hk : k < T.length) :
    w.cell? ⟨g, k * 4, none⟩ = some (.int .i64 T[k].k) ∧ w.cell? ⟨g, k * 4 + 1, none⟩ = some (.string T[k].a) ∧ w.cell? ⟨g, k * 4 + 2, none⟩ = some (.string T[k].b) ∧ w.cell? ⟨g, k * 4 + 3, none⟩ = some (pF T[k].f) :=
  ⟨(h.cellAt (k * 4) (by omega)).trans (turnVs_at T k hk 0 (by omega)), (h.cellAt (k * 4 + 1) (by omega)).trans (turnVs_at T k hk 1 (by omega)), (h.cellAt (k * 4 + 2) (by omega)).trans (turnVs_at T k hk 2 (by omega)), (h.cellAt (k * 4 + 3) (by omega)).trans (turnVs_at T k hk 3 (by omega))⟩
end Go.Proofs.Ytelndbjjkhlacaa
