/-
  What the joins of lists that rise are, one against the other; plain laws.
-/
import Derived.Test.YtoifmfdaghmleaaBagJoin
namespace Go.Proofs.Ytoifmfdaghmleaa

section
variable {α : Type} {lt : α → α → Bool}
abbrev unL (lt : α → α → Bool) (p q : List α) : List α := joinL lt true true true p q
abbrev boL (lt : α → α → Bool) (p q : List α) : List α := joinL lt false false true p q
abbrev leL (lt : α → α → Bool) (p q : List α) : List α := joinL lt true false false p q
theorem un_mem (h : OrdB lt) {p q : List α} (hp : Rise lt p) (hq : Rise lt q) (z : α) : z ∈ unL lt p q ↔ z ∈ p ∨ z ∈ q := by
  rw [joinL_mem h true true true hp hq]
  by_cases a : z ∈ p <;> by_cases b : z ∈ q <;> simp [a, b]
theorem bo_mem (h : OrdB lt) {p q : List α} (hp : Rise lt p) (hq : Rise lt q) (z : α) : z ∈ boL lt p q ↔ z ∈ p ∧ z ∈ q := by
  rw [joinL_mem h false false true hp hq]
  by_cases a : z ∈ p <;> by_cases b : z ∈ q <;> simp [a, b]
theorem le_mem (h : OrdB lt) {p q : List α} (hp : Rise lt p) (hq : Rise lt q) (z : α) : z ∈ leL lt p q ↔ z ∈ p ∧ z ∉ q := by
  rw [joinL_mem h true false false hp hq]
  by_cases a : z ∈ p <;> by_cases b : z ∈ q <;> simp [a, b]
theorem un_bo_le (h : OrdB lt) {p q : List α} (hp : Rise lt p) (hq : Rise lt q) : unL lt (boL lt p q) (leL lt p q) = p := by
  have r1 := joinL_rise h false false true hp hq
  have r2 := joinL_rise h true false false hp hq
  refine rise_ext h (joinL_rise h _ _ _ r1 r2) hp (fun z => ?_)
  rw [un_mem h r1 r2, bo_mem h hp hq, le_mem h hp hq]
  by_cases b : z ∈ q <;> simp [b]
theorem un_comm (h : OrdB lt) {p q : List α} (hp : Rise lt p) (hq : Rise lt q) : unL lt q p = unL lt p q := by
  refine rise_ext h (joinL_rise h _ _ _ hq hp) (joinL_rise h _ _ _ hp hq) (fun z => ?_)
  rw [un_mem h hq hp, un_mem h hp hq]
  exact Or.comm
theorem bo_comm (h : OrdB lt) {p q : List α} (hp : Rise lt p) (hq : Rise lt q) : boL lt q p = boL lt p q := by
  refine rise_ext h (joinL_rise h _ _ _ hq hp) (joinL_rise h _ _ _ hp hq) (fun z => ?_)
  rw [bo_mem h hq hp, bo_mem h hp hq]
  exact And.comm
theorem le_self (h : OrdB lt) {p : List α} (hp : Rise lt p) : leL lt p p = [] := by
  refine rise_ext h (joinL_rise h _ _ _ hp hp) rise_nil (fun z => ?_)
  rw [le_mem h hp hp]
  simp
theorem un_self (h : OrdB lt) {p : List α} (hp : Rise lt p) : unL lt p p = p := by
  refine rise_ext h (joinL_rise h _ _ _ hp hp) hp (fun z => ?_)
  rw [un_mem h hp hp]
  simp
theorem un_nil (h : OrdB lt) {p : List α} (hp : Rise lt p) : unL lt p [] = p := by
  refine rise_ext h (joinL_rise h _ _ _ hp rise_nil) hp (fun z => ?_)
  rw [un_mem h hp rise_nil]
  simp
theorem bo_nil (h : OrdB lt) {p : List α} (hp : Rise lt p) : boL lt [] p = [] := by
  refine rise_ext h (joinL_rise h _ _ _ rise_nil hp) rise_nil (fun z => ?_)
  rw [bo_mem h rise_nil hp]
  simp
end
/-- counted: of a list that rises the members of one kind -/
theorem rise_nodup {α : Type} {lt : α → α → Bool} (h : OrdB lt) {l : List α} (hl : Rise lt l) : l.Nodup := List.Pairwise.imp (fun k => h.ne k) hl
theorem rise_filter {α : Type} {lt : α → α → Bool} {l : List α} (hl : Rise lt l) (f : α → Bool) : Rise lt (l.filter f) := hl.sublist List.filter_sublist
theorem le_filter {α : Type} [DecidableEq α] {lt : α → α → Bool} (h : OrdB lt) {p q : List α} (hp : Rise lt p) (hq : Rise lt q) : leL lt p q = p.filter (fun z => !decide (z ∈ q)) := by
  refine rise_ext h (joinL_rise h _ _ _ hp hq) (rise_filter hp _) (fun z => ?_)
  rw [le_mem h hp hq, List.mem_filter]
  simp
theorem bo_filter {α : Type} [DecidableEq α] {lt : α → α → Bool} (h : OrdB lt) {p q : List α} (hp : Rise lt p) (hq : Rise lt q) : boL lt p q = p.filter (fun z => decide (z ∈ q)) := by
  refine rise_ext h (joinL_rise h _ _ _ hp hq) (rise_filter hp _) (fun z => ?_)
  rw [bo_mem h hp hq, List.mem_filter]
  simp
theorem filter_len {α : Type} (f : α → Bool) : ∀ l : List α, (l.filter f).length + (l.filter (fun z => !f z)).length = l.length
  | [] => rfl
  | x :: l => by
    have := filter_len f l
    cases e : f x
    · simp [e]; omega
    · simp [e]; omega
theorem bo_le_len {α : Type} [DecidableEq α] {lt : α → α → Bool} (h : OrdB lt) {p q : List α} (hp : Rise lt p) (hq : Rise lt q) : (boL lt p q).length + (leL lt p q).length = p.length := by
  rw [bo_filter h hp hq, le_filter h hp hq]
  exact filter_len _ p
theorem un_len {α : Type} [DecidableEq α] {lt : α → α → Bool} (h : OrdB lt) : ∀ (n : Nat) (p q : List α), p.length + q.length ≤ n → Rise lt p → Rise lt q → (unL lt p q).length + (boL lt p q).length = p.length + q.length
  | n, [], [], _, _, _ => by unfold unL boL; rw [joinL, joinL]
  | 0, x :: p, _, hn, _, _ => by simp at hn
  | 0, [], y :: q, hn, _, _ => by simp at hn
  | n + 1, x :: p, [], hn, hp, hq => by
    have ih := un_len h n p [] (by simp only [List.length_cons, List.length_nil] at *; omega) (List.pairwise_cons.1 hp).2 hq
    unfold unL boL at *
    rw [joinL, joinL]
    simp only [if_true, List.length_append, List.length_cons, List.length_nil] at *
    simp at *; omega
  | n + 1, [], y :: q, hn, hp, hq => by
    have ih := un_len h n [] q (by simp only [List.length_cons, List.length_nil] at *; omega) hp (List.pairwise_cons.1 hq).2
    unfold unL boL at *
    rw [joinL, joinL]
    simp only [if_true, List.length_append, List.length_cons, List.length_nil] at *
    simp at *; omega
  | n + 1, x :: p, y :: q, hn, hp, hq => by
    have i1 := un_len h n p (y :: q) (by simp only [List.length_cons, List.length_nil] at *; omega) (List.pairwise_cons.1 hp).2 hq
    have i2 := un_len h n (x :: p) q (by simp only [List.length_cons, List.length_nil] at *; omega) hp (List.pairwise_cons.1 hq).2
    have i3 := un_len h n p q (by simp only [List.length_cons, List.length_nil] at *; omega) (List.pairwise_cons.1 hp).2 (List.pairwise_cons.1 hq).2
    unfold unL boL at *
    rw [joinL, joinL]
    cases lt x y <;> cases lt y x <;> simp at * <;> omega
end Go.Proofs.Ytoifmfdaghmleaa
