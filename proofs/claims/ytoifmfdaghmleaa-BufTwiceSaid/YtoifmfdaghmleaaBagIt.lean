/-
  A function that tells a list, wherever its memory is as it was; or none.
-/
import Derived.Test.YtoifmfdaghmleaaSeqX
import Derived.Test.YtoifmfdaghmleaaProg
namespace Go.Proofs.Ytoifmfdaghmleaa
open Go.RowKit

/-- D: the blocks that it reads between two rounds, and that a round keeps -/
def Iter1 {α : Type} (enc : α → Value) (D : Nat → Prop) (fv : Value) (l : List α) (w : World) : Prop :=
  (fv = .nilFunc ∧ l = []) ∨ ∃ gf lb, fv = .func (.func gf) #[] lb ∧ (∀ args W, (callFunc gf args).run Try.prog W = .ok (.enter gf args) W) ∧ (∀ b, D b → b < w.heap.size) ∧
    ∀ n, 1 ≤ n → ∀ K : Nat → Prop, (∀ b, D b → K b) → SeqX Fence.wide n Try.prog gf lb (fun x => #[enc x]) K (fun xs => xs = l) (fun pre => pre <+: l) l.length w
theorem SeqG.kept {α : Type} {F : Fence} {n : Nat} {P : Program} {g : Nat} {lb : Array Value} {encs : α → Array Value} {K : Nat → Prop} {S Sp : List α → Prop} {Ok : List α → α → Prop} {w w' : World} (h : SeqG F n P g lb encs K S Sp Ok w) (hb : Below w.heap.size w w') : SeqG F n P g lb encs K S Sp Ok w' :=
  fun l J Jx W hW => h l J Jx W (hb.trans (hW.mono hb.size))
theorem Iter1.kept {α : Type} {enc : α → Value} {D : Nat → Prop} {fv : Value} {l : List α} {w w' : World} (h : Iter1 enc D fv l w) (hb : Below w.heap.size w w') : Iter1 enc D fv l w' := by
  rcases h with h | ⟨gf, lb, h1, h2, hd, h3⟩
  · exact .inl h
  · exact .inr ⟨gf, lb, h1, h2, fun b h => Nat.lt_of_lt_of_le (hd b h) hb.size, fun n hn K hK => SeqG.kept (h3 n hn K hK) hb⟩
abbrev noB : Nat → Prop := fun _ => False
end Go.Proofs.Ytoifmfdaghmleaa
