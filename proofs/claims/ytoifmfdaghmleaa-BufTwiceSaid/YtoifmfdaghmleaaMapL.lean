/-
  Maps as lists of keys and values, the keys rising; their cells; plain laws.
-/
import Derived.Test.YtoifmfdaghmleaaBagOrd
import Derived.Test.YtoifmfdaghmleaaBagRow
namespace Go.Proofs.Ytoifmfdaghmleaa
open Go.RowKit

section
variable {α : Type}
def keysL (l : List (α × Value)) : List α := l.map Prod.fst
theorem keysL_len (l : List (α × Value)) : (keysL l).length = l.length := by unfold keysL; rw [List.length_map]
def mvs (enc : α → Value) (l : List (α × Value)) : List Value := l.flatMap fun e => [enc e.1, e.2]
theorem mvs_cons (enc : α → Value) (e : α × Value) (l : List (α × Value)) : mvs enc (e :: l) = enc e.1 :: e.2 :: mvs enc l := rfl
theorem mvs_nil (enc : α → Value) : mvs enc [] = [] := rfl
theorem mvs_append (enc : α → Value) (a b : List (α × Value)) : mvs enc (a ++ b) = mvs enc a ++ mvs enc b := by unfold mvs; exact List.flatMap_append
theorem mvs_len (enc : α → Value) (l : List (α × Value)) : (mvs enc l).length = l.length * 2 := by
  induction l with
  | nil => rfl
  | cons p l ih => rw [mvs_cons, List.length_cons, List.length_cons, ih, List.length_cons]; omega
theorem mvs_at (enc : α → Value) (l : List (α × Value)) : ∀ k (h : k < l.length), (mvs enc l)[k * 2]? = some (enc l[k].1) ∧ (mvs enc l)[k * 2 + 1]? = some l[k].2 := by
  induction l with
  | nil => intro k hk; simp at hk
  | cons p l ih =>
    intro k hk
    rw [mvs_cons]
    cases k with
    | zero => exact ⟨rfl, rfl⟩
    | succ k =>
      have h := ih k (by simpa using hk)
      rw [show (k + 1) * 2 = k * 2 + 1 + 1 by omega]
      simpa using h
theorem mvs_take (enc : α → Value) (l : List (α × Value)) : ∀ k, (mvs enc l).take (k * 2) = mvs enc (l.take k) := by
  induction l with
  | nil => intro k; simp [mvs]
  | cons p l ih =>
    intro k
    cases k with
    | zero => simp [mvs_nil]
    | succ k => rw [mvs_cons, show (k + 1) * 2 = k * 2 + 1 + 1 by omega, List.take_succ_cons, List.take_succ_cons, ih k, List.take_succ_cons, mvs_cons]
theorem mvs_drop (enc : α → Value) (l : List (α × Value)) : ∀ k, (mvs enc l).drop (k * 2) = mvs enc (l.drop k) := by
  induction l with
  | nil => intro k; simp [mvs]
  | cons p l ih =>
    intro k
    cases k with
    | zero => simp
    | succ k => rw [mvs_cons, show (k + 1) * 2 = k * 2 + 1 + 1 by omega, List.drop_succ_cons, List.drop_succ_cons, ih k, List.drop_succ_cons]
theorem mvs_ins (enc : α → Value) (l : List (α × Value)) (r : Nat) (e : α × Value) : (mvs enc l).take (r * 2) ++ [enc e.1, e.2] ++ (mvs enc l).drop (r * 2) = mvs enc (insAt l r e) := by
  unfold insAt
  rw [mvs_take, mvs_drop, mvs_append, mvs_cons, List.append_assoc]; rfl
theorem mvs_del (enc : α → Value) (l : List (α × Value)) (r : Nat) : (mvs enc l).take (r * 2) ++ (mvs enc l).drop ((r + 1) * 2) = mvs enc (delAt l r) := by
  unfold delAt
  rw [mvs_take, mvs_drop, mvs_append]
theorem keys_get {l : List (α × Value)} {r : Nat} (h : r < (keysL l).length) (h' : r < l.length) : (keysL l)[r] = l[r].1 := by simp [keysL]
theorem keysL_ins (l : List (α × Value)) (r : Nat) (e : α × Value) : keysL (insAt l r e) = insAt (keysL l) r e.1 := by unfold keysL insAt; rw [List.map_append, List.map_cons, List.map_take, List.map_drop]
theorem keysL_del (l : List (α × Value)) (r : Nat) : keysL (delAt l r) = delAt (keysL l) r := by unfold keysL delAt; rw [List.map_append, List.map_take, List.map_drop]
theorem keysL_set (l : List (α × Value)) (r : Nat) (x : α) (v : Value) (h : ∀ hr : r < (keysL l).length, (keysL l)[r] = x) : keysL (l.set r (x, v)) = keysL l := by
  unfold keysL at *
  rw [List.map_set]
  show (List.map Prod.fst l).set r x = _
  rcases Nat.lt_or_ge r (List.map Prod.fst l).length with hr | hr
  · rw [← h hr, List.set_getElem_self]
  · rw [List.set_eq_of_length_le hr]
theorem mvs_set (enc : α → Value) (l : List (α × Value)) : ∀ (r : Nat) (x : α) (v : Value), r < l.length → (∀ hr : r < l.length, l[r].1 = x) → mvs enc (l.set r (x, v)) = (mvs enc l).set (r * 2 + 1) v := by
  induction l with
  | nil => intro r x v h; simp at h
  | cons e l ih =>
    intro r x v h hx
    cases r with
    | zero =>
      have := hx h
      simp at this
      subst this
      rfl
    | succ r =>
      rw [List.set_cons_succ, mvs_cons, mvs_cons, ih r x v (by simpa using h) (fun hr => by have := hx h; simpa using this), show (r + 1) * 2 + 1 = (r * 2 + 1) + 1 + 1 by omega, List.set_cons_succ, List.set_cons_succ]
theorem mvs_one (enc : α → Value) (h1 : ∀ x, (enc x).oneCell' = true) (l : List (α × Value)) (h : ∀ e ∈ l, e.2.oneCell' = true) : ∀ u ∈ mvs enc l, u.oneCell' = true := by
  intro u hu
  obtain ⟨e, he, hp⟩ := List.mem_flatMap.1 hu
  simp at hp
  rcases hp with rfl | rfl
  · exact h1 _
  · exact h e he
variable [DecidableEq α]
/-- let a key have a value -/
def mput (lt : α → α → Bool) (l : List (α × Value)) (x : α) (v : Value) : List (α × Value) := if x ∈ keysL l then l.set (rk lt (keysL l) x) (x, v) else insAt l (rk lt (keysL l) x) (x, v)
/-- take a key away -/
def mdel (lt : α → α → Bool) (l : List (α × Value)) (x : α) : List (α × Value) := if x ∈ keysL l then delAt l (rk lt (keysL l) x) else l
theorem mput_keys {lt : α → α → Bool} (h : OrdB lt) {l : List (α × Value)} (hl : Rise lt (keysL l)) (x : α) (v : Value) : keysL (mput lt l x v) = putL lt (keysL l) x := by
  unfold mput putL
  by_cases hx : x ∈ keysL l
  · rw [if_pos hx, if_pos hx]
    exact keysL_set l _ x v (fun hr => ((rk_mem h hl x).1 hx).2)
  · rw [if_neg hx, if_neg hx, keysL_ins]
theorem mdel_keys (lt : α → α → Bool) (l : List (α × Value)) (x : α) : keysL (mdel lt l x) = delL lt (keysL l) x := by
  unfold mdel delL
  by_cases hx : x ∈ keysL l
  · rw [if_pos hx, if_pos hx, keysL_del]
  · rw [if_neg hx, if_neg hx]
end
/-- entries whose values are all of one kind -/
def ents {α β : Type} (f : β → Value) (L : List (α × β)) : List (α × Value) := L.map fun e => (e.1, f e.2)
theorem ents_len {α β : Type} (f : β → Value) (L : List (α × β)) : (ents f L).length = L.length := by unfold ents; rw [List.length_map]
theorem ents_one {α β : Type} (f : β → Value) (h : ∀ x, (f x).oneCell' = true) (L : List (α × β)) : ∀ e ∈ ents f L, e.2.oneCell' = true := by
  intro e he
  obtain ⟨x, _, rfl⟩ := List.mem_map.1 he
  exact h _
theorem ents_get {α β : Type} (f : β → Value) (L : List (α × β)) (k : Nat) (h : k < L.length) (h' : k < (ents f L).length) : (ents f L)[k] = (L[k].1, f L[k].2) := by simp [ents]
theorem ents_keys {α β : Type} (f : β → Value) (L : List (α × β)) : keysL (ents f L) = L.map Prod.fst := by unfold keysL ents; rw [List.map_map]; rfl
/-- a row of two-cell entries, cell by cell -/
theorem mrow_of_owns {α : Type} {enc : α → Value} {w : World} {base : Nat} {e : TypeId} {v : Value} {n : Nat} {l : List (α × Value)} (h : w.ownsRow base e 2 v n (mvs enc l)) (hn : n = l.length) :
    ∃ a cap, v = .slice a l.length cap ∧ l.length ≤ cap ∧ Row w a (l.length * 2) (fun j => (mvs enc l).getD j undef) ∧ (l.length = 0 ∨ base ≤ bOf a) := by
  subst hn
  obtain ⟨hl, h⟩ := h
  rcases h with ⟨rfl, h0⟩ | ⟨g, cap, cur, rfl, hb, hh, hn, hc, hs, ht⟩
  · rw [h0]
    exact ⟨none, 0, rfl, Nat.le_refl _, Row.nil _ _ _, .inl rfl⟩
  · refine ⟨some ⟨g, 0, none⟩, cap, rfl, hn, ⟨.inr rfl, fun k hk => ?_⟩, .inr hb⟩
    have hx : (mvs enc l)[k]? = cur[k]? := by rw [← ht, List.getElem?_take_of_lt (by omega)]; simp
    simp only [bOf, oOf, Option.map_some, Option.getD_some, Nat.zero_add]
    rw [World.cell?, hh]
    have hk2 : k < (mvs enc l).length := by rw [mvs_len]; exact hk
    rw [List.getElem?_eq_getElem hk2] at hx
    simp [List.getD_eq_getElem?_getD, List.getElem?_eq_getElem hk2, ← hx]
end Go.Proofs.Ytoifmfdaghmleaa
