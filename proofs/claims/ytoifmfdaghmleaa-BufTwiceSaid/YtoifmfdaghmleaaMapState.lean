/-
  BagMaps' state: the map, and the statement's own rows of keys and values.
-/
import Derived.Test.YtoifmfdaghmleaaMapPut
import Derived.Test.YtoifmfdaghmleaaMapPairs
import Derived.Test.YtoifmfdaghmleaaOpsOpen
import Derived.Test.YtoifmfdaghmleaaBagApp
set_option linter.unusedVariables false
namespace Go.Proofs.Ytoifmfdaghmleaa
open Go.RowKit Go.Lib Go.Sort Go.Shelf

abbrev MEnt := ByteArray × Int
section
variable {α β : Type}
def ksG (L : List (α × β)) : List α := L.map Prod.fst
def vsG (L : List (α × β)) : List β := L.map Prod.snd
theorem ksG_len (L : List (α × β)) : (ksG L).length = L.length := by unfold ksG; rw [List.length_map]
theorem vsG_len (L : List (α × β)) : (vsG L).length = L.length := by unfold vsG; rw [List.length_map]
theorem ents_ks (f : β → Value) (L : List (α × β)) : keysL (ents f L) = ksG L := ents_keys f L
theorem rk_in {lt : α → α → Bool} (ho : OrdB lt) {L : List (α × β)} {x : α} (hr : Rise lt (ksG L)) (h : x ∈ ksG L) : rk lt (ksG L) x < L.length ∧ ∀ d, (ksG L).getD (rk lt (ksG L) x) d = x := by
  obtain ⟨h1, h2⟩ := (rk_mem ho hr x).1 h
  exact ⟨by rw [← ksG_len]; exact h1, fun d => by rw [List.getD_eq_getElem?_getD, List.getElem?_eq_getElem h1, Option.getD_some, h2]⟩
variable [DecidableEq α]
def putE (lt : α → α → Bool) (L : List (α × β)) (x : α) (z : β) : List (α × β) := if x ∈ ksG L then L.set (rk lt (ksG L) x) (x, z) else insAt L (rk lt (ksG L) x) (x, z)
def delE (lt : α → α → Bool) (L : List (α × β)) (x : α) : List (α × β) := if x ∈ ksG L then delAt L (rk lt (ksG L) x) else L
theorem mput_ents (lt : α → α → Bool) (f : β → Value) (L : List (α × β)) (x : α) (z : β) : mput lt (ents f L) x (f z) = ents f (putE lt L x z) := by
  unfold mput putE
  rw [ents_ks]
  by_cases h : x ∈ ksG L
  · rw [if_pos h, if_pos h]; unfold ents; rw [List.map_set]
  · rw [if_neg h, if_neg h]; unfold ents insAt; rw [List.map_append, List.map_cons, List.map_take, List.map_drop]
theorem mdel_ents (lt : α → α → Bool) (f : β → Value) (L : List (α × β)) (x : α) : mdel lt (ents f L) x = ents f (delE lt L x) := by
  unfold mdel delE
  rw [ents_ks]
  by_cases h : x ∈ ksG L
  · rw [if_pos h, if_pos h]; unfold ents delAt; rw [List.map_append, List.map_take, List.map_drop]
  · rw [if_neg h, if_neg h]
theorem mget_in (lt : α → α → Bool) (f : β → Value) (d : β) (z : Value) (L : List (α × β)) (x : α) (h : x ∈ ksG L) (hr : rk lt (ksG L) x < L.length) : mgetV lt z (ents f L) x = f ((vsG L).getD (rk lt (ksG L) x) d) := by
  unfold mgetV
  rw [ents_ks, if_pos h]
  unfold ents vsG
  rw [List.getElem?_map, List.getElem?_eq_getElem hr, List.getD_eq_getElem?_getD, List.getElem?_map, List.getElem?_eq_getElem hr]; rfl
theorem mget_out (lt : α → α → Bool) (f : β → Value) (z : Value) (L : List (α × β)) (x : α) (h : x ∉ ksG L) : mgetV lt z (ents f L) x = z := by
  unfold mgetV
  rw [ents_ks, if_neg h]
variable {lt : α → α → Bool}
theorem putE_in (ho : OrdB lt) {L : List (α × β)} {x : α} (z : β) (hr : Rise lt (ksG L)) (h : x ∈ ksG L) : ksG (putE lt L x z) = ksG L ∧ vsG (putE lt L x z) = (vsG L).set (rk lt (ksG L) x) z ∧ (putE lt L x z).length = L.length := by
  have e : putE lt L x z = L.set (rk lt (ksG L) x) (x, z) := if_pos h
  obtain ⟨h1, h2⟩ := (rk_mem ho hr x).1 h
  refine ⟨?_, ?_, by rw [e, List.length_set]⟩
  · rw [e]
    have : ksG (L.set (rk lt (ksG L) x) (x, z)) = (ksG L).set (rk lt (ksG L) x) x := by unfold ksG; rw [List.map_set]
    rw [this]
    have h3 : (ksG L).set (rk lt (ksG L) x) x = (ksG L).set (rk lt (ksG L) x) ((ksG L)[rk lt (ksG L) x]) := by rw [h2]
    rw [h3, List.set_getElem_self]
  · rw [e]; unfold vsG; rw [List.map_set]
theorem putE_out {L : List (α × β)} {x : α} (z : β) (h : x ∉ ksG L) : ksG (putE lt L x z) = insAt (ksG L) (rk lt (ksG L) x) x ∧ vsG (putE lt L x z) = insAt (vsG L) (rk lt (ksG L) x) z ∧ (putE lt L x z).length = L.length + 1 := by
  have e : putE lt L x z = insAt L (rk lt (ksG L) x) (x, z) := if_neg h
  refine ⟨?_, ?_, by rw [e]; exact insAt_len _ _ _⟩
  · rw [e]; unfold ksG insAt; rw [List.map_append, List.map_cons, List.map_take, List.map_drop]
  · rw [e]; unfold vsG insAt; rw [List.map_append, List.map_cons, List.map_take, List.map_drop]
theorem delE_in (ho : OrdB lt) {L : List (α × β)} {x : α} (hr : Rise lt (ksG L)) (h : x ∈ ksG L) : ksG (delE lt L x) = delAt (ksG L) (rk lt (ksG L) x) ∧ vsG (delE lt L x) = delAt (vsG L) (rk lt (ksG L) x) ∧ (delE lt L x).length + 1 = L.length := by
  have e : delE lt L x = delAt L (rk lt (ksG L) x) := if_pos h
  have h1 := (rk_in ho hr h).1
  refine ⟨?_, ?_, by rw [e]; exact delAt_len _ _ h1⟩
  · rw [e]; unfold ksG delAt; rw [List.map_append, List.map_take, List.map_drop]
  · rw [e]; unfold vsG delAt; rw [List.map_append, List.map_take, List.map_drop]
theorem delE_out {L : List (α × β)} {x : α} (h : x ∉ ksG L) : delE lt L x = L := if_neg h
theorem putE_len (L : List (α × β)) (x : α) (z : β) : (putE lt L x z).length ≤ L.length + 1 := by
  unfold putE
  split
  · rw [List.length_set]; omega
  · rw [insAt_len]; omega
theorem delE_len (L : List (α × β)) (x : α) : (delE lt L x).length ≤ L.length := by
  unfold delE
  split
  · unfold delAt; rw [List.length_append, List.length_take, List.length_drop]; omega
  · exact Nat.le_refl _
end
structure MSt (w W : World) (p : Nat) (v va vb : Value) (L : List MEnt) : Prop where
  map : MapS W p v (ents vI L)
  rk : W.ownsRow w.heap.size 9 1 va L.length ((ksG L).map Value.string)
  rv : W.ownsRow w.heap.size 3 1 vb L.length ((vsG L).map vI)
  ap : Apart va vb
  fk : ∀ g, va.ownBlock = some g → ¬ SetB p v g
  fv : ∀ g, vb.ownBlock = some g → ¬ SetB p v g
  bel : Below w.heap.size w W
  hp : w.heap.size ≤ p
theorem owns_stepX {W W' : World} {X : Nat → Prop} {base : Nat} {e : TypeId} {v : Value} {n : Nat} {xs : List Value} (h : W.ownsRow base e 1 v n xs) (st : StepX X W W') (hx : ∀ g, v.ownBlock = some g → ¬ X g) : W'.ownsRow base e 1 v n xs := ownsRow_stepX h st hx
theorem MSt.rise {w W : World} {p : Nat} {v va vb : Value} {L : List MEnt} (h : MSt w W p v va vb L) : Rise ltT (ksG L) := by have := h.map.rise; rwa [ents_ks] at this
theorem MSt.kept {w W W' : World} {p : Nat} {v va vb : Value} {L : List MEnt} (h : MSt w W p v va vb L) (hb : Below W.heap.size W W') : MSt w W' p v va vb L :=
  ⟨h.map.kept hb, owns_stepX h.rk (StepX.of_below (X := fun _ => False) hb) (fun g _ k => k), owns_stepX h.rv (StepX.of_below (X := fun _ => False) hb) (fun g _ k => k), h.ap, h.fk, h.fv, below_next h.bel hb h.bel.size, h.hp⟩
/-- the map is turned, the rows are not yet -/
structure MTurned (w W : World) (p : Nat) (v va vb : Value) (L L' : List MEnt) : Prop where
  map : MapS W p v (ents vI L')
  rk : W.ownsRow w.heap.size 9 1 va L.length ((ksG L).map Value.string)
  rv : W.ownsRow w.heap.size 3 1 vb L.length ((vsG L).map vI)
  ap : Apart va vb
  fk : ∀ g, va.ownBlock = some g → ¬ SetB p v g
  fv : ∀ g, vb.ownBlock = some g → ¬ SetB p v g
  bel : Below w.heap.size w W
  hp : w.heap.size ≤ p
theorem MSt.turned {w W W' : World} {p : Nat} {v v' va vb : Value} {L L' : List MEnt} (h : MSt w W p v va vb L) (hm : MapS W' p v' (ents vI L')) (st : StepX (SetB p v) W W') (hvo : ∀ g, v'.ownBlock = some g → SetB p v g ∨ W.heap.size ≤ g) : MTurned w W' p v' va vb L L' := by
  have hrow : ∀ g, v.ownBlock = some g → p + 1 ≤ g := fun g e => (h.map.row.lt g e).1
  have key : ∀ g, g < W.heap.size → ¬ SetB p v g → ¬ SetB p v' g := fun g hg hn k => by
    rcases k with e | e
    · exact hn (.inl e)
    · rcases hvo g e with h2 | h2
      · exact hn h2
      · omega
  exact ⟨hm, owns_stepX h.rk st h.fk, owns_stepX h.rv st h.fv, h.ap, fun g e => key g (h.rk.lt g e).2 (h.fk g e), fun g e => key g (h.rv.lt g e).2 (h.fv g e), stepB h.bel h.hp hrow st, h.hp⟩
/-- two new rows -/
theorem MTurned.rows {w W W1 W2 : World} {p : Nat} {v va vb va' vb' : Value} {L L' : List MEnt} (h : MTurned w W p v va vb L L') (hb1 : Below W.heap.size W W1) (hk : W1.ownsRow W.heap.size 9 1 va' L'.length ((ksG L').map Value.string)) (hb2 : Below W1.heap.size W1 W2) (hv : W2.ownsRow W1.heap.size 3 1 vb' L'.length ((vsG L').map vI)) :
    MSt w W2 p v va' vb' L' := by
  have hlow := h.bel.size
  have far : ∀ g, W.heap.size ≤ g → ¬ SetB p v g := fun g hg k => by
    rcases k with e | e
    · have := h.map.box.lt; omega
    · have := (h.map.row.lt g e).2; omega
  refine ⟨(h.map.kept hb1).kept hb2, owns_lower (owns_stepX hk (StepX.of_below (X := fun _ => False) hb2) (fun g _ k => k)) hlow, owns_lower hv (Nat.le_trans hlow hb1.size), ?_, fun g e => far g (hk.lt g e).1, fun g e => far g (Nat.le_trans hb1.size (hv.lt g e).1), below_next (below_next h.bel hb1 h.bel.size) hb2 (Nat.le_trans hlow hb1.size), h.hp⟩
  cases h1 : va'.ownBlock with
  | none => exact .inl h1
  | some g =>
    cases h2 : vb'.ownBlock with
    | none => exact .inr (.inl h2)
    | some g' =>
      refine .inr (.inr ?_)
      rw [h1, h2]
      intro e
      injection e with e
      have := (hk.lt g h1).2
      have := (hv.lt g' h2).1
      omega
/-- a value written in place -/
theorem MTurned.put {w W : World} {p : Nat} {v va : Value} {L L' : List MEnt} {g r cap n : Nat} {z : Int} (h : MTurned w W p v va (.slice (some ⟨g, 0, none⟩) n cap) L L') (hn : n = L.length) (hk : ksG L' = ksG L) (hv : vsG L' = (vsG L).set r z) (hr : r < L.length) :
    W.cell? ⟨g, r, none⟩ = some (vI ((vsG L).getD r 0)) ∧ W.frozen? ⟨g, r, none⟩ = false ∧ MSt w (W.setCell ⟨g, r, none⟩ (vI z)) p v va (.slice (some ⟨g, 0, none⟩) n cap) L' := by
  subst hn
  obtain ⟨hb, hnc, hcm, f, hri, hf⟩ := owns_some h.rv
  have hlen : L'.length = L.length := by have := congrArg List.length hk; rwa [ksG_len, ksG_len] at this
  have hgp : ¬ SetB p v g := h.fv g rfl
  have hgb : W.grownBy (W.setCell ⟨g, r, none⟩ (vI z)) (some g) := gb_setCells g [vI z] r W (gb_refl _ _)
  have hlt := h.map.box.lt
  refine ⟨?_, hri.frozen _, ⟨h.map.gb hgb (fun e => hgp (.inl (by injection e with e; exact e.symm))) (.inr (fun e => hgp (.inr e))), ?_, ?_, h.ap, h.fk, h.fv, h.bel.setCell (p := ⟨g, r, none⟩) (by have := (h.rv.lt g rfl).1; exact this) _, h.hp⟩⟩
  · rw [hri.cell (by omega), hf r (by omega), List.getD_eq_getElem?_getD, List.getElem?_map, List.getElem?_eq_getElem (by rw [vsG_len]; exact hr), List.getD_eq_getElem?_getD, List.getElem?_eq_getElem (by rw [vsG_len]; exact hr)]; rfl
  · rw [hk, hlen]
    refine h.rk.kept hgb ?_
    rcases h.ap with k | k | k
    · exact .inl k
    · cases k
    · exact .inr k
  · rw [hv, hlen]
    refine owns_of (hri.set r (vI z)) hb hnc hcm (by rw [List.length_map, List.length_set, vsG_len]; omega) (fun j hj => ?_)
    rw [List.map_set, List.getD_eq_getElem?_getD, List.getElem?_set]
    by_cases e : j = r
    · subst e
      rw [if_pos rfl, if_pos rfl, if_pos (by rw [List.length_map, vsG_len]; exact hr)]; rfl
    · rw [if_neg e, if_neg (fun h => e h.symm), hf j hj, List.getD_eq_getElem?_getD]
theorem getD_insG {α : Type} (d : α) (l : List α) (r : Nat) (x : α) (f : α → Value) (hr : r ≤ l.length) : (List.range r).map (fun j => f (l.getD j d)) ++ (List.range 1).map (fun _ => f x) ++ (List.range (l.length - r)).map (fun j => f (l.getD (r + j) d)) = (insAt l r x).map f := by
  unfold insAt
  rw [List.map_append, List.map_cons, List.append_assoc]
  congr 1
  · apply List.ext_getElem?
    intro j
    rw [List.getElem?_map, List.getElem?_map]
    rcases Nat.lt_or_ge j r with h | h
    · rw [List.getElem?_range h, List.getElem?_take_of_lt h, List.getElem?_eq_getElem (by omega)]
      simp [List.getD_eq_getElem?_getD, List.getElem?_eq_getElem (show j < l.length by omega)]
    · rw [List.getElem?_eq_none (by simpa using h), List.getElem?_eq_none (by simp; omega)]; rfl
  · rw [show (List.range 1).map (fun _ => f x) = [f x] from rfl, List.singleton_append]
    congr 1
    apply List.ext_getElem?
    intro j
    rw [List.getElem?_map, List.getElem?_map, List.getElem?_drop]
    rcases Nat.lt_or_ge j (l.length - r) with h | h
    · rw [List.getElem?_range h, List.getElem?_eq_getElem (by omega)]
      simp [List.getD_eq_getElem?_getD, List.getElem?_eq_getElem (show r + j < l.length by omega)]
    · rw [List.getElem?_eq_none (by simpa using h), List.getElem?_eq_none (by omega)]; rfl
theorem getD_delG {α : Type} (d : α) (l : List α) (r : Nat) (f : α → Value) (hr : r < l.length) : (List.range r).map (fun j => f (l.getD j d)) ++ (List.range (l.length - (r + 1))).map (fun j => f (l.getD (r + 1 + j) d)) = (delAt l r).map f := by
  unfold delAt
  rw [List.map_append]
  congr 1
  · apply List.ext_getElem?
    intro j
    rw [List.getElem?_map, List.getElem?_map]
    rcases Nat.lt_or_ge j r with h | h
    · rw [List.getElem?_range h, List.getElem?_take_of_lt h, List.getElem?_eq_getElem (by omega)]
      simp [List.getD_eq_getElem?_getD, List.getElem?_eq_getElem (show j < l.length by omega)]
    · rw [List.getElem?_eq_none (by simpa using h), List.getElem?_eq_none (by simp; omega)]; rfl
  · apply List.ext_getElem?
    intro j
    rw [List.getElem?_map, List.getElem?_map, List.getElem?_drop]
    rcases Nat.lt_or_ge j (l.length - (r + 1)) with h | h
    · rw [List.getElem?_range h, List.getElem?_eq_getElem (by omega)]
      simp [List.getD_eq_getElem?_getD, List.getElem?_eq_getElem (show r + 1 + j < l.length by omega)]
    · rw [List.getElem?_eq_none (by simpa using h), List.getElem?_eq_none (by omega)]; rfl
end Go.Proofs.Ytoifmfdaghmleaa
