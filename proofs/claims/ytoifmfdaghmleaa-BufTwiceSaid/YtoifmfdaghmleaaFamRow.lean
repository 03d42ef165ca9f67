/-
  A block whose cells are slices of the call's own, each over an array of its own; one of them is appended to and stored back.
-/
import Derived.Test.YtoifmfdaghmleaaAppendRow
namespace Go.Proofs.Ytoifmfdaghmleaa.Tx
open Go.RowKit

def upd {α : Type} (f : Nat → α) (j : Nat) (x : α) : Nat → α := fun i => if i = j then x else f i
theorem upd_self {α : Type} (f : Nat → α) (j : Nat) (x : α) : upd f j x j = x := by unfold upd; rw [if_pos rfl]
theorem upd_ne {α : Type} (f : Nat → α) (j : Nat) (x : α) {i : Nat} (h : i ≠ j) : upd f j x i = f i := by unfold upd; rw [if_neg h]

structure Fam (w : World) (base bt : Nat) (T : TypeId) (m : Nat) (E : Nat → TypeId) (V : Nat → Value) (X : Nat → List Value) (K : Nat → Prop) : Prop where
  cells : w.rowIs bt T m V
  own : ∀ j, j < m → w.ownsRow base (E j) 1 (V j) (X j).length (X j)
  apart : ∀ i j, i < m → j < m → i ≠ j → Apart (V i) (V j)
  safe : ∀ j, j < m → (V j).ownBlock ≠ some bt
  keep : ∀ b, K b → b < w.heap.size ∧ b ≠ bt ∧ ∀ j, j < m → (V j).ownBlock ≠ some b
  low : base ≤ w.heap.size

theorem Fam.kept {w w' : World} {base bt : Nat} {T : TypeId} {m : Nat} {E : Nat → TypeId} {V : Nat → Value} {X : Nat → List Value} {K : Nat → Prop} (h : Fam w base bt T m E V X K) (hb : Below w.heap.size w w') : Fam w' base bt T m E V X K :=
  ⟨row_below h.cells hb h.cells.lt, fun j hj => owns_below (h.own j hj) hb, h.apart, h.safe, fun b hb' => ⟨Nat.lt_of_lt_of_le (h.keep b hb').1 hb.size, (h.keep b hb').2⟩, Nat.le_trans h.low hb.size⟩
theorem Fam.drewN {w : World} {base bt : Nat} {T : TypeId} {m : Nat} {E : Nat → TypeId} {V : Nat → Value} {X : Nat → List Value} {K : Nat → Prop} (h : Fam w base bt T m E V X K) (n : Nat) : Fam (w.drewN n) base bt T m E V X K :=
  ⟨h.cells, h.own, h.apart, h.safe, h.keep, h.low⟩
theorem Fam.drew {w : World} {base bt : Nat} {T : TypeId} {m : Nat} {E : Nat → TypeId} {V : Nat → Value} {X : Nat → List Value} {K : Nat → Prop} (h : Fam w base bt T m E V X K) : Fam w.drew base bt T m E V X K :=
  ⟨h.cells, h.own, h.apart, h.safe, h.keep, h.low⟩
/-- a block more that is to be kept: new since a world in which the family stood -/
theorem Fam.more {w w' : World} {base bt : Nat} {T : TypeId} {m : Nat} {E : Nat → TypeId} {V : Nat → Value} {X : Nat → List Value} {K : Nat → Prop} (h : Fam w base bt T m E V X K) (hb : Below w.heap.size w w') (g : Nat) (h1 : w.heap.size ≤ g) (h2 : g < w'.heap.size) :
    Fam w' base bt T m E V X (fun b => K b ∨ b = g) := by
  have h' := h.kept hb
  refine ⟨h'.cells, h'.own, h'.apart, h'.safe, fun b hk => ?_, h'.low⟩
  rcases hk with hk | hk
  · exact h'.keep b hk
  · subst hk
    have := h.cells.lt
    refine ⟨h2, by omega, fun j hj e => ?_⟩
    have := ((h.own j hj).lt _ e).2
    omega
theorem Fam.fewer {w : World} {base bt : Nat} {T : TypeId} {m : Nat} {E : Nat → TypeId} {V : Nat → Value} {X : Nat → List Value} {K K' : Nat → Prop} (h : Fam w base bt T m E V X K) (hk : ∀ b, K' b → K b) : Fam w base bt T m E V X K' :=
  ⟨h.cells, h.own, h.apart, h.safe, fun b hb => h.keep b (hk b hb), h.low⟩

/-- between the append and the store -/
theorem Fam.mid {w w1 : World} {base bt : Nat} {T : TypeId} {m : Nat} {E : Nat → TypeId} {V : Nat → Value} {X : Nat → List Value} {K : Nat → Prop} (h : Fam w base bt T m E V X K) (j : Nat) (hj : j < m) {tmp : Obj}
    (hgrow : (w.alloc tmp).grownBy w1 (V j).ownBlock) : w1.rowIs bt T m V :=
  (h.cells.alloc tmp).of_block (hgrow.block bt (by rw [World.size_alloc]; have := h.cells.lt; omega) (fun e => h.safe j hj e.symm))
theorem Fam.app {w w1 : World} {base bt : Nat} {T : TypeId} {m : Nat} {E : Nat → TypeId} {V : Nat → Value} {X : Nat → List Value} {K : Nat → Prop} (h : Fam w base bt T m E V X K) (j : Nat) (hj : j < m) {tmp : Obj} {v' : Value} {n : Nat} {Y : List Value}
    (hown : w1.ownsRow base (E j) 1 v' n Y) (hn : n = Y.length) (hgrow : (w.alloc tmp).grownBy w1 (V j).ownBlock) (hat : v'.ownBlock = (V j).ownBlock ∨ v'.ownBlock = some (w.alloc tmp).heap.size) :
    Fam (w1.setCell ⟨bt, j, none⟩ v') base bt T m E (upd V j v') (upd X j Y) K ∧
    (∀ b, b < w.heap.size → b ≠ bt → (V j).ownBlock ≠ some b → (w1.setCell ⟨bt, j, none⟩ v').heap[b]? = w.heap[b]?) ∧
    (∀ B, B ≤ base → B ≤ bt → Below B w (w1.setCell ⟨bt, j, none⟩ v')) := by
  subst hn
  have hlt := (h.own j hj).lt
  have hbt := h.cells.lt
  have hsz : w.heap.size + 1 ≤ w1.heap.size := by have := hgrow.size; rw [World.size_alloc] at this; exact this
  have hsz2 : (w1.setCell ⟨bt, j, none⟩ v').heap.size = w1.heap.size := by simp [World.setCell]
  have blk : ∀ b, b < w.heap.size → b ≠ bt → (V j).ownBlock ≠ some b → (w1.setCell ⟨bt, j, none⟩ v').heap[b]? = w.heap[b]? := fun b hb hbt hne => by
    rw [Below.heap_setCell w1 ⟨bt, j, none⟩ v' b (by simpa using hbt), hgrow.block b (by rw [World.size_alloc]; omega) (fun e => hne e.symm), Below.heap_alloc w tmp b hb]
  have hbt1 : w1.heap[bt]? = w.heap[bt]? := by
    rw [hgrow.block bt (by rw [World.size_alloc]; omega) (fun e => h.safe j hj e.symm), Below.heap_alloc w tmp bt hbt]
  have hv' : v'.ownBlock ≠ some bt := by
    rcases hat with e | e
    · rw [e]; exact h.safe j hj
    · rw [e, World.size_alloc]; intro e2; injection e2; omega
  refine ⟨⟨?_, fun i hi => ?_, fun i k hi hk hik => ?_, fun i hi => ?_, fun b hb => ?_, ?_⟩, blk, fun B hB1 hB2 => ?_⟩
  · exact (h.cells.of_block hbt1).set j v'
  · by_cases e : i = j
    · subst e
      rw [upd_self, upd_self]
      exact hown.kept (grownBy_setCell' w1 bt v' |> fun g => (show w1.grownBy (w1.setCell ⟨bt, i, none⟩ v') (some bt) from gb_set (gb_refl _ _) i v')) (.inr (fun e => hv' e))
    · rw [upd_ne _ _ _ e, upd_ne _ _ _ e]
      have h2 := (owns_two (h.own i hi) (h.apart i j hi hj e) hgrow hat).1
      exact h2.kept (show w1.grownBy (w1.setCell ⟨bt, j, none⟩ v') (some bt) from gb_set (gb_refl _ _) j v') (.inr (h.safe i hi))
  · by_cases e : i = j
    · subst e
      rw [upd_self, upd_ne _ _ _ (Ne.symm hik)]
      exact (owns_two (h.own k hk) (h.apart k i hk hj (Ne.symm hik)) hgrow hat).2.symm
    · rw [upd_ne _ _ _ e]
      by_cases e2 : k = j
      · subst e2
        rw [upd_self]
        exact (owns_two (h.own i hi) (h.apart i k hi hj hik) hgrow hat).2
      · rw [upd_ne _ _ _ e2]; exact h.apart i k hi hk hik
  · by_cases e : i = j
    · subst e; rw [upd_self]; exact hv'
    · rw [upd_ne _ _ _ e]; exact h.safe i hi
  · obtain ⟨k1, k2, k3⟩ := h.keep b hb
    refine ⟨by rw [hsz2]; omega, k2, fun i hi => ?_⟩
    by_cases e : i = j
    · subst e
      rw [upd_self]
      rcases hat with e | e
      · rw [e]; exact k3 i hi
      · rw [e, World.size_alloc]; intro e2; injection e2; omega
    · rw [upd_ne _ _ _ e]; exact k3 i hi
  · rw [hsz2]; have := h.low; omega
  · exact ((((Below.refl B w).alloc (by have := h.low; omega) tmp).grown hgrow (by rw [World.size_alloc]; have := h.low; omega) (fun g hg => by have := (hlt g hg).1; omega))).setCell (p := ⟨bt, j, none⟩) hB2 v'
end Go.Proofs.Ytoifmfdaghmleaa.Tx
