/-
  Lists that rise, of whatever order: places, members, what is put and taken; plain laws.
-/
import Derived.Test.YtoifmfdaghmleaaBagMath
import Derived.Sort.Walk0
namespace Go.Proofs.Ytoifmfdaghmleaa

/-- a total order, as a test -/
structure OrdB {α : Type} (lt : α → α → Bool) : Prop where
  irr : ∀ a, lt a a = false
  tr : ∀ a b c, lt a b = true → lt b c = true → lt a c = true
  tot : ∀ a b, lt a b = false → lt b a = false → a = b
theorem OrdB.asym {α : Type} {lt : α → α → Bool} (h : OrdB lt) {a b : α} (k : lt a b = true) : lt b a = false := by
  cases e : lt b a with
  | false => rfl
  | true => have := h.tr a b a k e; rw [h.irr] at this; cases this
theorem OrdB.ne {α : Type} {lt : α → α → Bool} (h : OrdB lt) {a b : α} (k : lt a b = true) : a ≠ b := fun e => by rw [e, h.irr] at k; cases k
/-- what cmp.Compare tells -/
def cmpf {α : Type} (lt : α → α → Bool) (x y : α) : Int := if lt x y = true then -1 else if lt y x = true then 1 else 0
theorem cmpf_neg {α : Type} (lt : α → α → Bool) (x y : α) : decide (cmpf lt x y < 0) = lt x y := by
  unfold cmpf
  cases h : lt x y with
  | true => simp
  | false =>
    cases h2 : lt y x <;> simp
theorem cmpf_zero {α : Type} {lt : α → α → Bool} (h : OrdB lt) (x y : α) : cmpf lt x y = 0 ↔ x = y := by
  unfold cmpf
  cases h1 : lt x y with
  | true => simp only [if_true]; exact ⟨fun e => by omega, fun e => absurd e (h.ne h1)⟩
  | false =>
    cases h2 : lt y x with
    | true => simp; exact fun e => h.ne h2 e.symm
    | false => simp; exact h.tot x y h1 h2
theorem cmpf_swap {α : Type} {lt : α → α → Bool} (h : OrdB lt) (x y : α) : decide (cmpf lt x y < 0) = decide (0 < cmpf lt y x) := by
  unfold cmpf
  cases h1 : lt x y with
  | true => rw [h.asym h1]; simp
  | false => cases h2 : lt y x <;> simp

section
variable {α : Type} {lt : α → α → Bool}
/-- a list that rises -/
def Rise (lt : α → α → Bool) (l : List α) : Prop := l.Pairwise (fun a b => lt a b = true)
theorem rise_nil : Rise lt ([] : List α) := List.Pairwise.nil
theorem rise_ext (h : OrdB lt) : ∀ {a b : List α}, Rise lt a → Rise lt b → (∀ x, x ∈ a ↔ x ∈ b) → a = b
  | [], [], _, _, _ => rfl
  | [], y :: b, _, _, k => by have := (k y).2 (by simp); cases this
  | x :: a, [], _, _, k => by have := (k x).1 (by simp); cases this
  | x :: a, y :: b, ha, hb, k => by
    obtain ⟨a1, a2⟩ := List.pairwise_cons.1 ha
    obtain ⟨b1, b2⟩ := List.pairwise_cons.1 hb
    have e : x = y := by
      rcases List.mem_cons.1 ((k x).1 (by simp)) with h1 | h1
      · exact h1
      · rcases List.mem_cons.1 ((k y).2 (by simp)) with h2 | h2
        · exact h2.symm
        · have p := b1 x h1
          have q := a1 y h2
          rw [h.asym p] at q; cases q
    subst e
    rw [rise_ext h a2 b2 (fun z => by
      have kz := k z
      simp only [List.mem_cons] at kz
      constructor
      · intro hz
        rcases kz.1 (.inr hz) with e | e
        · exact absurd e (h.ne (a1 z hz)).symm
        · exact e
      · intro hz
        rcases kz.2 (.inr hz) with e | e
        · exact absurd e (h.ne (b1 z hz)).symm
        · exact e)]
/-- how many are below one -/
def rk (lt : α → α → Bool) (l : List α) (x : α) : Nat := l.countP (fun y => lt y x)
theorem rk_le (l : List α) (x : α) : rk lt l x ≤ l.length := List.countP_le_length
theorem rk_cons (y : α) (l : List α) (x : α) : rk lt (y :: l) x = rk lt l x + if lt y x = true then 1 else 0 := List.countP_cons
/-- of a list that rises the lesser ones stand ahead -/
theorem rk_at (h : OrdB lt) {l : List α} (hl : Rise lt l) (x : α) : ∀ t (ht : t < l.length), (lt l[t] x = true ↔ t < rk lt l x) := by
  induction l with
  | nil => intro t ht; simp at ht
  | cons y l ih =>
    obtain ⟨a1, a2⟩ := List.pairwise_cons.1 hl
    intro t ht
    rw [rk_cons]
    cases hy : lt y x with
    | true =>
      rw [if_pos rfl]
      cases t with
      | zero => simp [hy]
      | succ t =>
        rw [List.getElem_cons_succ, ih a2 t (by simpa using ht)]
        omega
    | false =>
      have hz : rk lt l x = 0 := by
        refine List.countP_eq_zero.2 fun z hz h1 => ?_
        have := h.tr y z x (a1 z hz) h1
        rw [hy] at this; cases this
      rw [hz]
      cases t with
      | zero => simp [hy]
      | succ t =>
        rw [List.getElem_cons_succ, ih a2 t (by simpa using ht), hz]
        simp
theorem rk_mem (h : OrdB lt) {l : List α} (hl : Rise lt l) (x : α) : x ∈ l ↔ ∃ ht : rk lt l x < l.length, l[rk lt l x] = x := by
  constructor
  · intro hm
    obtain ⟨t, ht, e⟩ := List.getElem_of_mem hm
    have h0 : ¬ t < rk lt l x := fun k => by
      have := (rk_at h hl x t ht).2 k
      rw [e, h.irr] at this; cases this
    have h1 : rk lt l x < l.length := by omega
    refine ⟨h1, ?_⟩
    have h2 : ¬ lt l[rk lt l x] x = true := fun k => Nat.lt_irrefl _ ((rk_at h hl x _ h1).1 k)
    rcases Nat.lt_or_ge (rk lt l x) t with k | k
    · have := (List.pairwise_iff_getElem.1 hl) _ _ h1 ht k
      rw [e] at this
      exact absurd this h2
    · have : t = rk lt l x := by omega
      subst this; exact e
  · rintro ⟨ht, e⟩
    rw [← e]; exact List.getElem_mem ht
/-- put where it belongs -/
def insAt (l : List α) (r : Nat) (x : α) : List α := l.take r ++ x :: l.drop r
def delAt (l : List α) (r : Nat) : List α := l.take r ++ l.drop (r + 1)
theorem insAt_mem (l : List α) (r : Nat) (x y : α) : y ∈ insAt l r x ↔ y = x ∨ y ∈ l := by
  unfold insAt
  rw [List.mem_append, List.mem_cons]
  have : y ∈ l ↔ y ∈ l.take r ∨ y ∈ l.drop r := by rw [← List.mem_append, List.take_append_drop]
  rw [this]
  constructor
  · rintro (h | h | h)
    · exact .inr (.inl h)
    · exact .inl h
    · exact .inr (.inr h)
  · rintro (h | h | h)
    · exact .inr (.inl h)
    · exact .inl h
    · exact .inr (.inr h)
theorem insAt_len (l : List α) (r : Nat) (x : α) : (insAt l r x).length = l.length + 1 := by
  unfold insAt
  simp
  omega
theorem delAt_len (l : List α) (r : Nat) (h : r < l.length) : (delAt l r).length + 1 = l.length := by
  unfold delAt
  simp
  omega
theorem take_rk (h : OrdB lt) {l : List α} (hl : Rise lt l) (x y : α) (hy : y ∈ l.take (rk lt l x)) : lt y x = true := by
  obtain ⟨t, ht, e⟩ := List.getElem_of_mem hy
  rw [List.length_take] at ht
  rw [List.getElem_take] at e
  rw [← e]
  exact (rk_at h hl x t (by omega)).2 (by omega)
theorem drop_rk (h : OrdB lt) {l : List α} (hl : Rise lt l) (x y : α) (hy : y ∈ l.drop (rk lt l x)) : lt y x = false := by
  obtain ⟨t, ht, e⟩ := List.getElem_of_mem hy
  rw [List.length_drop] at ht
  rw [List.getElem_drop] at e
  cases k : lt y x with
  | false => rfl
  | true =>
    rw [← e] at k
    have := (rk_at h hl x _ (by omega)).1 k
    omega
theorem insAt_rise (h : OrdB lt) {l : List α} (hl : Rise lt l) (x : α) (hx : x ∉ l) : Rise lt (insAt l (rk lt l x) x) := by
  have hp : Rise lt (l.take (rk lt l x) ++ l.drop (rk lt l x)) := by rw [List.take_append_drop]; exact hl
  obtain ⟨p1, p2, p3⟩ := List.pairwise_append.1 hp
  refine List.pairwise_append.2 ⟨p1, List.pairwise_cons.2 ⟨fun y hy => ?_, p2⟩, fun a ha b hb => ?_⟩
  · have h1 := drop_rk h hl x y hy
    cases k : lt x y with
    | true => rfl
    | false => exact absurd (by rw [h.tot x y k h1]; exact List.mem_of_mem_drop hy) hx
  · rcases List.mem_cons.1 hb with e | e
    · rw [e]; exact take_rk h hl x a ha
    · exact p3 a ha b e
theorem delAt_rise {l : List α} (hl : Rise lt l) (r : Nat) : Rise lt (delAt l r) := by
  have hp : Rise lt (l.take r ++ l.drop r) := by rw [List.take_append_drop]; exact hl
  obtain ⟨p1, p2, p3⟩ := List.pairwise_append.1 hp
  have hd : l.drop (r + 1) = (l.drop r).drop 1 := by rw [List.drop_drop]
  unfold delAt
  refine List.pairwise_append.2 ⟨p1, ?_, fun a ha b hb => p3 a ha b ?_⟩
  · rw [hd]; exact p2.sublist (List.drop_sublist 1 _)
  · rw [hd] at hb; exact List.mem_of_mem_drop hb
theorem delAt_mem (h : OrdB lt) {l : List α} (hl : Rise lt l) (x y : α) (hx : x ∈ l) : y ∈ delAt l (rk lt l x) ↔ y ∈ l ∧ y ≠ x := by
  obtain ⟨ht, e⟩ := (rk_mem h hl x).1 hx
  have hd : l.drop (rk lt l x) = x :: l.drop (rk lt l x + 1) := by rw [List.drop_eq_getElem_cons ht, e]
  have hp : Rise lt (l.take (rk lt l x) ++ l.drop (rk lt l x)) := by rw [List.take_append_drop]; exact hl
  have hm : y ∈ l ↔ y ∈ l.take (rk lt l x) ∨ y ∈ l.drop (rk lt l x) := by rw [← List.mem_append, List.take_append_drop]
  rw [hd] at hm hp
  obtain ⟨p1, p2, p3⟩ := List.pairwise_append.1 hp
  obtain ⟨p4, p5⟩ := List.pairwise_cons.1 p2
  unfold delAt
  rw [List.mem_append, hm, List.mem_cons]
  constructor
  · rintro (k | k)
    · exact ⟨.inl k, h.ne (take_rk h hl x y k)⟩
    · exact ⟨.inr (.inr k), (h.ne (p4 y k)).symm⟩
  · rintro ⟨k | k | k, n⟩
    · exact .inl k
    · exact absurd k n
    · exact .inr k
/-- a list in order with one more, if it is not there -/
def putL [DecidableEq α] (lt : α → α → Bool) (l : List α) (x : α) : List α := if x ∈ l then l else insAt l (rk lt l x) x
def delL [DecidableEq α] (lt : α → α → Bool) (l : List α) (x : α) : List α := if x ∈ l then delAt l (rk lt l x) else l
variable [DecidableEq α]
theorem putL_rise (h : OrdB lt) {l : List α} (hl : Rise lt l) (x : α) : Rise lt (putL lt l x) := by
  unfold putL
  split
  · exact hl
  · rename_i hx; exact insAt_rise h hl x hx
theorem putL_mem (l : List α) (x y : α) : y ∈ putL lt l x ↔ y = x ∨ y ∈ l := by
  unfold putL
  split
  · rename_i hx
    exact ⟨.inr, fun k => k.elim (fun e => by rw [e]; exact hx) id⟩
  · exact insAt_mem _ _ _ _
theorem putL_len (l : List α) (x : α) : (putL lt l x).length ≤ l.length + 1 := by
  unfold putL
  split
  · omega
  · rw [insAt_len]; exact Nat.le_refl _
theorem delL_rise {l : List α} (hl : Rise lt l) (x : α) : Rise lt (delL lt l x) := by
  unfold delL
  split
  · exact delAt_rise hl _
  · exact hl
theorem delL_mem (h : OrdB lt) {l : List α} (hl : Rise lt l) (x y : α) : y ∈ delL lt l x ↔ y ∈ l ∧ y ≠ x := by
  unfold delL
  split
  · rename_i hx; exact delAt_mem h hl x y hx
  · rename_i hx
    exact ⟨fun k => ⟨k, fun e => hx (by rw [← e]; exact k)⟩, fun k => k.1⟩
theorem delL_len (h : OrdB lt) {l : List α} (hl : Rise lt l) (x : α) : (delL lt l x).length ≤ l.length := by
  unfold delL
  split
  · rename_i hx
    obtain ⟨ht, _⟩ := (rk_mem h hl x).1 hx
    have := delAt_len l _ ht
    omega
  · exact Nat.le_refl _
/-- a list's members in order, each once -/
def setL (lt : α → α → Bool) (l : List α) : List α := l.foldl (putL lt) []
theorem setL_snoc (l : List α) (x : α) : setL lt (l ++ [x]) = putL lt (setL lt l) x := by
  unfold setL
  rw [List.foldl_append]
  rfl
theorem setL_is (h : OrdB lt) (l : List α) : Rise lt (setL lt l) ∧ ∀ y, y ∈ setL lt l ↔ y ∈ l := by
  refine snoc_ind (P := fun l => Rise lt (setL lt l) ∧ ∀ y, y ∈ setL lt l ↔ y ∈ l) ⟨rise_nil, fun y => Iff.rfl⟩ (fun l x ih => ?_) l
  rw [setL_snoc]
  refine ⟨putL_rise h ih.1 x, fun y => ?_⟩
  rw [putL_mem, ih.2, List.mem_append, List.mem_singleton]
  exact Or.comm
theorem setL_len (l : List α) : (setL lt l).length ≤ l.length := by
  refine snoc_ind (P := fun l => (setL lt l).length ≤ l.length) (Nat.le_refl 0) (fun l x ih => ?_) l
  rw [setL_snoc, List.length_append, List.length_singleton]
  have := putL_len (lt := lt) (setL lt l) x
  omega
/-- what is sorted and made one of neighbours -/
theorem setL_sorted (h : OrdB lt) (l : List α) : cpt (l.mergeSort (fun x y => !lt y x)) = setL lt l := by
  have hs : (l.mergeSort (fun x y => !lt y x)).Pairwise (fun x y => (!lt y x) = true) := List.pairwise_mergeSort (fun a b c h1 h2 => by
      simp only [Bool.not_eq_true'] at *
      cases k : lt c a with
      | false => rfl
      | true =>
        cases kab : lt a b with
        | true => rw [h.tr c a b k kab] at h2; cases h2
        | false =>
          have := h.tot a b kab h1
          subst this
          rw [h2] at k; cases k) (fun a b => by
      cases k : lt b a with
      | false => rfl
      | true => rw [h.asym k]; rfl) l
  refine rise_ext h (cpt_rise (lt := fun a b => lt a b = true) (le := fun a b => (!lt b a) = true) (fun a b h1 h2 => ?_) (fun a b c h1 h2 => ?_) (fun a h1 => by rw [h.irr] at h1; cases h1) _ hs) (setL_is h l).1 (fun x => ?_)
  · cases k : lt a b with
    | true => rfl
    | false => exact absurd (h.tot a b k (by simpa using h1)) h2
  · cases k : lt b c with
    | true => exact h.tr a b c h1 k
    | false =>
      have := h.tot b c k (by simpa using h2)
      subst this
      exact h1
  · rw [cpt_mem, (setL_is h l).2, List.mem_mergeSort]
theorem setL_of_rise (h : OrdB lt) {l : List α} (hl : Rise lt l) : setL lt l = l := rise_ext h (setL_is h l).1 hl (setL_is h l).2
end

/-- numbers -/
def ltI (a b : Int) : Bool := decide (a < b)
theorem ordI : OrdB ltI := ⟨fun a => by simp [ltI], fun a b c h1 h2 => by simp [ltI] at *; omega, fun a b h1 h2 => by simp [ltI] at *; omega⟩
/-- texts -/
def ltT (a b : ByteArray) : Bool := Op.bytesLess a.toList b.toList
theorem ltT_eq (a b : ByteArray) : ltT a b = decide (a.data.toList < b.data.toList) := by
  unfold ltT
  rw [bytesLess_eq, Lib.toList_data, Lib.toList_data]
theorem ba_ext {a b : ByteArray} (h : a.data.toList = b.data.toList) : a = b := by
  obtain ⟨⟨l⟩⟩ := a
  obtain ⟨⟨k⟩⟩ := b
  simp at h
  rw [h]
theorem ordT : OrdB ltT := ⟨fun a => by rw [ltT_eq]; exact decide_eq_false (List.lt_irrefl _), fun a b c h1 h2 => by
    rw [ltT_eq] at *
    exact decide_eq_true (List.lt_trans (of_decide_eq_true h1) (of_decide_eq_true h2)), fun a b h1 h2 => by
    rw [ltT_eq] at *
    exact ba_ext (List.le_antisymm (List.not_lt.1 (of_decide_eq_false h2)) (List.not_lt.1 (of_decide_eq_false h1)))⟩
theorem ba_eqs (a b : ByteArray) : (a.toList == b.toList) = decide (a = b) := by
  rw [Lib.toList_data, Lib.toList_data]
  by_cases h : a = b
  · subst h; simp
  · rw [decide_eq_false h]
    exact beq_false_of_ne (fun e => h (ba_ext e))
end Go.Proofs.Ytoifmfdaghmleaa
