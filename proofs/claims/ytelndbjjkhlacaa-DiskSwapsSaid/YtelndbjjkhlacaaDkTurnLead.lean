/-
  turn.lead: what is done to names, done.
-/
import Derived.Test.YtelndbjjkhlacaaDkSyncDir
namespace Go.Proofs.Ytelndbjjkhlacaa
open Go.RowKit Go.Maps

theorem gb_alloc {w w' : World} {o : Obj} {r : Option Nat} (h : (w.alloc o).grownBy w' r) (hr : ∀ k, r = some k → k < w.heap.size) : w.grownBy w' r :=
  ⟨h.os, h.tape, h.output, by have := h.size; simp only [World.size_alloc] at this; omega, fun b hb hn => (h.block b (by simp; omega) hn).trans (Below.heap_alloc w o b hb)⟩
def turnA (t : Turn) : Value := .agg #[.int .i64 t.k, .string t.a, .string t.b, pF t.f]
theorem size_del_le {D : DT} (h : Tidy D) (k : Lit) : size (D.del k) ≤ size D := by
  have := size_del (k := k) h
  omega
theorem size_put_le {D : DT} (h : Tidy D) (k : Lit) (d : DT) : size (D.put k d) ≤ size D + 1 := by
  have := size_put (k := k) h d
  split at this <;> omega
theorem tidy_lead {D : DT} (h : Tidy D) (t : Turn) : Tidy (leadD D t) := by
  unfold leadD
  split
  · exact h.put (keyS _) _
  split
  · split
    · exact (h.del _).put (keyS _) _
    · exact h
  split
  · exact h.del _
  · exact h
theorem size_lead {D : DT} (h : Tidy D) (t : Turn) : size (leadD D t) ≤ size D + 1 := by
  unfold leadD
  split
  · exact size_put_le h _ _
  split
  · split
    · have h1 := size_del_le h (kl t.a)
      have h2 := size_put_le (h.del (kl t.a)) (kl t.b) (enc ‹Nat›)
      omega
    · omega
  split
  · have h1 := size_del_le h (kl t.a)
    omega
  · omega
set_option maxRecDepth 100000 in
set_option maxHeartbeats 1000000 in
theorem lead_any (W : World) (bn : Nat) (D : DT) (hn : NmAt W bn D) (hD : size D < maxLen) (t : Turn) (ha : t.a.size ≤ maxLen) (hb : t.b.size ≤ maxLen) (hk : t.k = 0 → t.f ≠ none) :
    Calls Try.prog 43 #[turnA t, .map (some bn)] W fun e w' => e = .returned (.tuple #[]) ∧ NmAt w' bn (leadD D t) ∧ W.grownBy w' (some bn) := by
  have hlt := hn.lt
  have hb0 : Below W.heap.size W (W.alloc (.cells #[.int .i64 t.k, .string t.a, .string t.b, pF t.f] 66)) := (Below.refl _ W).alloc (Nat.le_refl _) _
  have hn1 : NmAt (W.alloc (.cells #[.int .i64 t.k, .string t.a, .string t.b, pF t.f] 66)) bn D := hn.of_block (hb0.block bn hlt)
  have HG : Hid (∀ w', (W.alloc (.cells #[.int .i64 t.k, .string t.a, .string t.b, pF t.f] 66)).grownBy w' (some bn) → W.grownBy w' (some bn)) := fun w' h => gb_alloc h (fun k e => by cases e; exact hlt)
  have HN1 := Lib.hid hn1
  unfold turnA
  obtain ⟨k, a, b, f⟩ := t
  simp only at *
  clear hn hb0 hn1
  unfold leadD
  simp only
  by_cases e0 : k = 0
  · subst e0
    cases f with
    | none => exact absurd rfl (hk rfl)
    | some f =>
      clear hk
      unfold pF at *
      simp only at *
      obtain ⟨w2, hput, hn2, hg2⟩ := HN1.out.put hD a ha f
      have HN2 := Lib.hid hn2
      have HG2 := Lib.hid (HG.out _ hg2)
      clear hn2 hg2 HG HN1
      go_enter Try.func43, Try.ntmps43
      go_wp2
      go_end0
      exact ⟨rfl, HN2.out, HG2.out⟩
  · rw [if_neg e0]
    have d0 : (k == 0) = false := by simp [e0]
    clear hk
    generalize pF f = pv at *
    by_cases e1 : k = 1
    · subst e1
      rw [if_pos rfl]
      have hlk := HN1.out.look a ha
      cases hf : fileOf D a with
      | none =>
        rw [hf] at hlk
        unfold pF at hlk
        simp only at hlk
        clear hf
        have HGR := Lib.hid (HG.out _ (gb_refl _ _))
        clear HG
        simp only
        go_enter Try.func43, Try.ntmps43
        go_wp2
        go_end0
        exact ⟨rfl, HN1.out, HGR.out⟩
      | some g =>
        rw [hf] at hlk
        unfold pF at hlk
        simp only at hlk
        clear hf
        obtain ⟨w2, hdel, hn2, hg2⟩ := HN1.out.drop a ha 0
        obtain ⟨w3, hput, hn3, hg3⟩ := hn2.put (Nat.lt_of_le_of_lt (size_del_le HN1.out.tidy (kl a)) hD) b hb g
        have HN3 := Lib.hid hn3
        have HG3 := Lib.hid (HG.out _ (gb_trans hg2 hg3))
        have hc2 : w2.cell? ⟨W.heap.size, 2, none⟩ = some (.string b) := (World.cell?_of_block (a := ⟨W.heap.size, 2, none⟩) (hg2.block W.heap.size (by simp) (fun e => by cases e; omega))).trans ((cell_of_row _ _ 2 _ _ _ (heap_alloc_new W _)).trans rfl)
        clear hn2 hg2 hn3 hg3 HG HN1
        simp only
        go_enter Try.func43, Try.ntmps43
        go_wp2
        go_end0
        exact ⟨rfl, HN3.out, HG3.out⟩
    · rw [if_neg e1]
      have d1 : (k == 1) = false := by simp [e1]
      by_cases e2 : k = 2
      · subst e2
        rw [if_pos rfl]
        obtain ⟨w2, hdel, hn2, hg2⟩ := HN1.out.drop a ha 0
        have HN2 := Lib.hid hn2
        have HG2 := Lib.hid (HG.out _ hg2)
        clear hn2 hg2 HG HN1
        go_enter Try.func43, Try.ntmps43
        go_wp2
        go_end0
        exact ⟨rfl, HN2.out, HG2.out⟩
      · rw [if_neg e2]
        have d2 : (k == 2) = false := by simp [e2]
        have HGR := Lib.hid (HG.out _ (gb_refl _ _))
        clear HG
        go_enter Try.func43, Try.ntmps43
        go_wp2
        go_end0
        exact ⟨rfl, HN1.out, HGR.out⟩
end Go.Proofs.Ytelndbjjkhlacaa
