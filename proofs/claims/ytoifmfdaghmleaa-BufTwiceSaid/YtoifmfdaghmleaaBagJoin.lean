/-
  Two lists that rise, joined; plain laws.
-/
import Derived.Test.YtoifmfdaghmleaaBagOrd
namespace Go.Proofs.Ytoifmfdaghmleaa

section
variable {α : Type}
/-- what is in the first alone (k0), in the second alone (k1), in both (k2) -/
def joinL (lt : α → α → Bool) (k0 k1 k2 : Bool) : List α → List α → List α
  | [], [] => []
  | x :: p, [] => (if k0 = true then [x] else []) ++ joinL lt k0 k1 k2 p []
  | [], y :: q => (if k1 = true then [y] else []) ++ joinL lt k0 k1 k2 [] q
  | x :: p, y :: q =>
    if lt x y = true then (if k0 = true then [x] else []) ++ joinL lt k0 k1 k2 p (y :: q)
    else if lt y x = true then (if k1 = true then [y] else []) ++ joinL lt k0 k1 k2 (x :: p) q
    else (if k2 = true then [x] else []) ++ joinL lt k0 k1 k2 p q
termination_by p q => p.length + q.length
variable {lt : α → α → Bool}
theorem opt_mem (k : Bool) (x z : α) : z ∈ (if k = true then [x] else []) ↔ (z = x ∧ k = true) := by
  cases k <;> simp
theorem opt_rise (k : Bool) (x : α) {l : List α} (hl : Rise lt l) (hx : ∀ y ∈ l, lt x y = true) : Rise lt ((if k = true then [x] else []) ++ l) := by
  cases k with
  | false => simpa using hl
  | true => simp; exact List.pairwise_cons.2 ⟨hx, hl⟩
theorem joinL_is (h : OrdB lt) (k0 k1 k2 : Bool) : ∀ (n : Nat) (p q : List α), p.length + q.length ≤ n → Rise lt p → Rise lt q →
    Rise lt (joinL lt k0 k1 k2 p q) ∧ ∀ z, z ∈ joinL lt k0 k1 k2 p q ↔ (z ∈ p ∧ z ∉ q ∧ k0 = true) ∨ (z ∉ p ∧ z ∈ q ∧ k1 = true) ∨ (z ∈ p ∧ z ∈ q ∧ k2 = true)
  | n, [], [], _, _, _ => by
    rw [joinL]
    exact ⟨rise_nil, fun z => by simp⟩
  | 0, x :: p, _, hn, _, _ => by simp at hn
  | 0, [], y :: q, hn, _, _ => by simp at hn
  | n + 1, x :: p, [], hn, hp, hq => by
    obtain ⟨p1, p2⟩ := List.pairwise_cons.1 hp
    obtain ⟨i1, i2⟩ := joinL_is h k0 k1 k2 n p [] (by simp at hn ⊢; omega) p2 hq
    rw [joinL]
    refine ⟨opt_rise k0 x i1 (fun y hy => p1 y ?_), fun z => ?_⟩
    · have := (i2 y).1 hy
      simp at this; exact this.1
    · rw [List.mem_append, opt_mem, i2]
      simp only [List.mem_cons, List.not_mem_nil, not_false_eq_true, true_and, false_and, and_false, or_false]
      exact ⟨fun k => k.elim (fun k => ⟨.inl k.1, k.2⟩) (fun k => ⟨.inr k.1, k.2⟩), fun k => k.1.elim (fun e => .inl ⟨e, k.2⟩) (fun e => .inr ⟨e, k.2⟩)⟩
  | n + 1, [], y :: q, hn, hp, hq => by
    obtain ⟨q1, q2⟩ := List.pairwise_cons.1 hq
    obtain ⟨i1, i2⟩ := joinL_is h k0 k1 k2 n [] q (by simp at hn ⊢; omega) hp q2
    rw [joinL]
    refine ⟨opt_rise k1 y i1 (fun z hz => q1 z ?_), fun z => ?_⟩
    · have := (i2 z).1 hz
      simp at this; exact this.1
    · rw [List.mem_append, opt_mem, i2]
      simp only [List.mem_cons, List.not_mem_nil, not_false_eq_true, true_and, false_and, or_false, false_or]
      exact ⟨fun k => k.elim (fun k => ⟨.inl k.1, k.2⟩) (fun k => ⟨.inr k.1, k.2⟩), fun k => k.1.elim (fun e => .inl ⟨e, k.2⟩) (fun e => .inr ⟨e, k.2⟩)⟩
  | n + 1, x :: p, y :: q, hn, hp, hq => by
    obtain ⟨p1, p2⟩ := List.pairwise_cons.1 hp
    obtain ⟨q1, q2⟩ := List.pairwise_cons.1 hq
    rw [joinL]
    split
    · rename_i hxy
      obtain ⟨i1, i2⟩ := joinL_is h k0 k1 k2 n p (y :: q) (by simp at hn ⊢; omega) p2 hq
      have hxq : x ∉ y :: q := fun k => by
        rcases List.mem_cons.1 k with e | e
        · exact h.ne hxy e
        · have := h.tr x y x hxy (q1 x e)
          rw [h.irr] at this; cases this
      refine ⟨opt_rise k0 x i1 (fun z hz => ?_), fun z => ?_⟩
      · have hz' : z ∈ p ∨ z ∈ y :: q := by rcases (i2 z).1 hz with k | k | k; exact .inl k.1; exact .inr k.2.1; exact .inl k.1
        rcases hz' with k | k
        · exact p1 z k
        · rcases List.mem_cons.1 k with e | e
          · rw [e]; exact hxy
          · exact h.tr x y z hxy (q1 z e)
      · rw [List.mem_append, opt_mem, i2]
        have hxp : x ∉ p := fun k => by have := p1 x k; rw [h.irr] at this; cases this
        by_cases e : z = x
        · subst e
          simp [hxq, hxp]
        · simp [e]
    · rename_i hxy
      split
      · rename_i hyx
        obtain ⟨i1, i2⟩ := joinL_is h k0 k1 k2 n (x :: p) q (by simp at hn ⊢; omega) hp q2
        have hyp : y ∉ x :: p := fun k => by
          rcases List.mem_cons.1 k with e | e
          · exact h.ne hyx e
          · have := h.tr y x y hyx (p1 y e)
            rw [h.irr] at this; cases this
        refine ⟨opt_rise k1 y i1 (fun z hz => ?_), fun z => ?_⟩
        · have hz' : z ∈ x :: p ∨ z ∈ q := by rcases (i2 z).1 hz with k | k | k; exact .inl k.1; exact .inr k.2.1; exact .inl k.1
          rcases hz' with k | k
          · rcases List.mem_cons.1 k with e | e
            · rw [e]; exact hyx
            · exact h.tr y x z hyx (p1 z e)
          · exact q1 z k
        · rw [List.mem_append, opt_mem, i2]
          have hyq : y ∉ q := fun k => by have := q1 y k; rw [h.irr] at this; cases this
          by_cases e : z = y
          · subst e
            simp [hyp, hyq]
          · simp [e]
      · rename_i hyx
        have e0 : x = y := h.tot x y (by simpa using hxy) (by simpa using hyx)
        subst e0
        obtain ⟨i1, i2⟩ := joinL_is h k0 k1 k2 n p q (by simp at hn ⊢; omega) p2 q2
        refine ⟨opt_rise k2 x i1 (fun z hz => ?_), fun z => ?_⟩
        · have hz' : z ∈ p ∨ z ∈ q := by rcases (i2 z).1 hz with k | k | k; exact .inl k.1; exact .inr k.2.1; exact .inl k.1
          exact hz'.elim (p1 z) (q1 z)
        · rw [List.mem_append, opt_mem, i2]
          have hxp : x ∉ p := fun k => by have := p1 x k; rw [h.irr] at this; cases this
          have hxq : x ∉ q := fun k => by have := q1 x k; rw [h.irr] at this; cases this
          by_cases e : z = x
          · subst e
            simp [hxp, hxq]
          · simp [e]
theorem joinL_rise (h : OrdB lt) (k0 k1 k2 : Bool) {p q : List α} (hp : Rise lt p) (hq : Rise lt q) : Rise lt (joinL lt k0 k1 k2 p q) := (joinL_is h k0 k1 k2 _ p q (Nat.le_refl _) hp hq).1
theorem joinL_mem (h : OrdB lt) (k0 k1 k2 : Bool) {p q : List α} (hp : Rise lt p) (hq : Rise lt q) (z : α) : z ∈ joinL lt k0 k1 k2 p q ↔ (z ∈ p ∧ z ∉ q ∧ k0 = true) ∨ (z ∉ p ∧ z ∈ q ∧ k1 = true) ∨ (z ∈ p ∧ z ∈ q ∧ k2 = true) := (joinL_is h k0 k1 k2 _ p q (Nat.le_refl _) hp hq).2 z
theorem joinL_len (lt : α → α → Bool) (k0 k1 k2 : Bool) : ∀ (n : Nat) (p q : List α), p.length + q.length ≤ n → (joinL lt k0 k1 k2 p q).length ≤ p.length + q.length
  | n, [], [], _ => by rw [joinL]; exact Nat.le_refl _
  | 0, x :: p, _, hn => by simp at hn
  | 0, [], y :: q, hn => by simp at hn
  | n + 1, x :: p, [], hn => by
    have := joinL_len lt k0 k1 k2 n p [] (by simp at hn ⊢; omega)
    rw [joinL, List.length_append]
    have : (if k0 = true then [x] else []).length ≤ 1 := by split <;> simp
    simp at *; omega
  | n + 1, [], y :: q, hn => by
    have := joinL_len lt k0 k1 k2 n [] q (by simp at hn ⊢; omega)
    rw [joinL, List.length_append]
    have : (if k1 = true then [y] else []).length ≤ 1 := by split <;> simp
    simp at *; omega
  | n + 1, x :: p, y :: q, hn => by
    have h1 := joinL_len lt k0 k1 k2 n p (y :: q) (by simp at hn ⊢; omega)
    have h2 := joinL_len lt k0 k1 k2 n (x :: p) q (by simp at hn ⊢; omega)
    have h3 := joinL_len lt k0 k1 k2 n p q (by simp at hn ⊢; omega)
    have o0 : (if k0 = true then [x] else []).length ≤ 1 := by split <;> simp
    have o1 : (if k1 = true then [y] else []).length ≤ 1 := by split <;> simp
    have o2 : (if k2 = true then [x] else []).length ≤ 1 := by split <;> simp
    rw [joinL]
    split
    · rw [List.length_append]; simp only [List.length_cons] at *; omega
    · split
      · rw [List.length_append]; simp only [List.length_cons] at *; omega
      · rw [List.length_append]; simp only [List.length_cons] at *; omega
end
end Go.Proofs.Ytoifmfdaghmleaa
