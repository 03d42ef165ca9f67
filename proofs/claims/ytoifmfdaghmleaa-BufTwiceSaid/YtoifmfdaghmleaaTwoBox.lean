/-
  Two rows of the call's own in two boxes, within a range over an iterator: each appended to in turn.
-/
import Derived.Test.YtoifmfdaghmleaaSeqX
import Derived.Test.YtoifmfdaghmleaaAppendRow
set_option linter.unusedVariables false
namespace Go.Proofs.Ytoifmfdaghmleaa
open Go.RowKit

structure TwoB {α β : Type} (e1 e2 t1 t2 : TypeId) (k1 : α → Value) (k2 : β → Value) (b1 b2 base : Nat) (X : Nat → Prop) (P : List α) (Q : List β) (W : World) (v1 v2 : Value) : Prop where
  x1 : Boxed W b1 t1 v1 ∧ ¬ X b1
  x2 : Boxed W b2 t2 v2 ∧ ¬ X b2
  r1 : W.ownsRow base e1 1 v1 P.length (P.map k1)
  r2 : W.ownsRow base e2 1 v2 Q.length (Q.map k2)
  o1 : ∀ g, v1.ownBlock = some g → ¬ X g
  o2 : ∀ g, v2.ownBlock = some g → ¬ X g
  ap : Apart v1 v2
theorem Fr.twoB {γ α β : Type} (e1 e2 t1 t2 : TypeId) (k1 : α → Value) (k2 : β → Value) (b1 b2 base : Nat) (P : γ → List α) (Q : γ → List β) (p : γ → Prop) : Fr (fun X (s : γ) W => ∃ v1 v2, TwoB e1 e2 t1 t2 k1 k2 b1 b2 base X (P s) (Q s) W v1 v2 ∧ p s) := fun X X' s W W' ⟨v1, v2, h, hp⟩ st hx =>
  ⟨v1, v2, ⟨Fr.boxed (β := Unit) b1 t1 (fun _ => v1) X X' () W W' h.x1 st hx, Fr.boxed (β := Unit) b2 t2 (fun _ => v2) X X' () W W' h.x2 st hx, ownsRow_stepX h.r1 st h.o1, ownsRow_stepX h.r2 st h.o2,
    fun g e k => (hx g k).elim (h.o1 g e) (fun k => by have := (h.r1.lt g e).2; omega), fun g e k => (hx g k).elim (h.o2 g e) (fun k => by have := (h.r2.lt g e).2; omega), h.ap⟩, hp⟩
theorem TwoB.flip {α β : Type} {e1 e2 t1 t2 : TypeId} {k1 : α → Value} {k2 : β → Value} {b1 b2 base : Nat} {X : Nat → Prop} {P : List α} {Q : List β} {W : World} {v1 v2 : Value} (h : TwoB e1 e2 t1 t2 k1 k2 b1 b2 base X P Q W v1 v2) : TwoB e2 e1 t2 t1 k2 k1 b2 b1 base X Q P W v2 v1 :=
  ⟨h.x2, h.x1, h.r2, h.r1, h.o2, h.o1, h.ap.symm⟩
theorem TwoB.app1 {α β : Type} {e1 e2 t1 t2 : TypeId} {k1 : α → Value} {k2 : β → Value} {b1 b2 base : Nat} {X : Nat → Prop} {P : List α} {Q : List β} {W w1 : World} {v1 v2 v' : Value} {x : α} {tmp : Obj} (h : TwoB e1 e2 t1 t2 k1 k2 b1 b2 base X P Q W v1 v2) (hbd : ∀ b, X b → b < W.heap.size) (hb : base ≤ W.heap.size)
    (h1 : b1 < base) (h2 : b2 < base) (hne : b1 ≠ b2) (hown' : w1.ownsRow base e1 1 v' (P.length + 1) (P.map k1 ++ [k1 x])) (hgrow : (W.alloc tmp).grownBy w1 v1.ownBlock) (hat : v'.ownBlock = v1.ownBlock ∨ v'.ownBlock = some (W.alloc tmp).heap.size) :
    Boxed w1 b1 t1 v1 ∧ TwoB e1 e2 t1 t2 k1 k2 b1 b2 base X (P ++ [x]) Q (w1.setCell ⟨b1, 0, none⟩ v') v' v2 ∧ KeepX X W (w1.setCell ⟨b1, 0, none⟩ v') ∧ (∀ b, b < base → b ≠ b1 → (w1.setCell ⟨b1, 0, none⟩ v').heap[b]? = W.heap[b]?) ∧ (∀ n0, n0 ≤ b1 → Below n0 W (w1.setCell ⟨b1, 0, none⟩ v')) ∧ W.heap.size ≤ (w1.setCell ⟨b1, 0, none⟩ v').heap.size := by
  obtain ⟨hv1, hv2, hr2, hg2, hk2, hb2, hb3, hs2⟩ := boxed_appX h.x1 h.r1 h.o1 hbd hb h1 hown' hgrow hat
  obtain ⟨ho, hap⟩ := owns_two h.r2 h.ap.symm hgrow hat
  refine ⟨hv1, ⟨hv2, ⟨(hb2 b2 h2 (Ne.symm hne)).trans h.x2.1, h.x2.2⟩, by rw [List.length_append, List.map_append]; exact hr2, ?_, hg2, h.o2, hap.symm⟩, hk2, hb2, hb3, hs2⟩
  exact ho.kept (grownBy_setCell' w1 b1 v') (.inr fun e => by have := (h.r2.lt b1 e).1; omega)
end Go.Proofs.Ytoifmfdaghmleaa
