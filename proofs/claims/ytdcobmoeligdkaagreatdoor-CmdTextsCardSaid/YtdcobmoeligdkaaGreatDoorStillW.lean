/-
  A region that draws its order, within the body of an iterator: operations that leave the world alone, then a tail in one forced order.
-/
import Derived.Test.YtdcobmoeligdkaaGreatDoorSeqX
import Derived.StillTailTactics
import Derived.OrdersIn
import Derived.TacticsIn
namespace Go.Proofs.YtdcobmoeligdkaaGreatDoor
open Go.RowKit

theorem semAt_noneW (ρ : Operand → Value) (o : Oper) (_ : ∀ c, o.op ≠ .defer c) : Oper.semAt none ρ o = execOp ρ o := rfl
section
variable {P : Program} {ops : Array Oper} {md : Region.Mode} {w : World} {n : Nat}
def isDeferW (o : Oper) : Bool := match o.op with | .defer _ => true | _ => false
theorem not_deferW {o : Oper} (h : isDeferW o = false) : ∀ c, o.op ≠ .defer c := fun c e => by
  unfold isDeferW at h
  rw [e] at h
  cases h
def noDeferW (ops : Array Oper) : Bool := ops.toList.all fun o => !isDeferW o
theorem noDefer_atW (h : noDeferW ops = true) {i : Nat} {o : Oper} (ho : ops[i]? = some o) : ∀ c, o.op ≠ .defer c := by
  have h1 := List.all_eq_true.1 h o (Array.mem_toList_iff.2 (Array.mem_of_getElem? ho))
  exact not_deferW (by simpa using h1)
theorem callsIn_roundW {f : FuncId} {args : Array Value} {R : Ending → World → Prop} {W : World} (h : Calls P f args W R) : CallsIn (Fence.wide) n P f args W R := (callsIn_wide (n := n)).2 h
theorem wpOpIn_of_stOpW {i : Nat} {a : Act} {K : Act → Prop} {K' : Act → World → Prop} {Q' : Exit → Act → World → Prop} (hd : noDeferW ops = true) (h : ∀ a, K a → K' a w) (hh : stOp P ops w i K a) : wpOpIn (Fence.wide) n P ops Q' i K' a w := by
  unfold stOp at hh
  unfold wpOpIn
  split
  · rename_i ho; simp only [ho] at hh; exact h _ hh
  · rename_i o ho
    simp only [ho] at hh
    split
    · rename_i hw
      simp only [hw, if_true] at hh
      refine ⟨fun _ _ => trivial, ?_⟩
      have e : o.semAt (Fence.wide).round a.eval = execOp a.eval o := semAt_noneW _ _ (noDefer_atW hd ho)
      rw [e]
      unfold Oper.still at hh
      generalize (execOp a.eval o).run P w = r at *
      cases r with
      | ok nx w' =>
        cases nx <;> simp only [Oper.stillUpon] at hh <;> simp only [Oper.uponIn]
        case enter f args =>
          obtain ⟨rfl, v, hc, hn⟩ := hh
          refine ⟨fun h => (by cases h), (callsIn_roundW hc).mono fun e w'' ⟨he, hw⟩ => ?_⟩
          subst he; subst hw; exact h _ hn
        all_goals (obtain ⟨rfl, h2⟩ := hh; exact h _ h2)
      | halt x w' => simp only [Oper.stillUpon] at hh
    · rename_i hw
      simp only [hw] at hh
      exact ⟨fun _ _ => trivial, h _ hh⟩
theorem wpAnyIn_of_headW {k g : Nat} {L : Array Bool → Act → Prop} {Q' : Exit → Act → World → Prop} (hd : noDeferW ops = true) (hL : ∀ listed a, L listed a → wpAnyIn (Fence.wide) n P md ops Q' g listed a w) :
    ∀ (f : Nat) (listed : Array Bool) (a : Act), wpAnyL P md ops w k L f listed a → wpAnyIn (Fence.wide) n P md ops Q' (f + g) listed a w
  | 0, listed, a, h => by rw [Nat.zero_add]; exact hL _ _ h
  | f + 1, listed, a, h => by
    rw [show f + 1 + g = (f + g) + 1 by omega]
    exact ⟨fun h0 => absurd h0 h.1, fun i hi => wpOpIn_of_stOpW hd (fun a' h' => wpAnyIn_of_headW hd hL f _ a' h') (h.2 i hi).2⟩
theorem wpAnyIn_of_seqW {Q' : Exit → Act → World → Prop} : ∀ (L : List Oper) (k : Nat) (listed : Array Bool) (a : Act) (W : World), (∀ j, L[j]? = ops[k + j]?) →
    Region.seqB md ops L.length k listed = true → wpListIn (Fence.wide) n P ops Q' L a W → wpAnyIn (Fence.wide) n P md ops Q' L.length listed a W
  | [], _, _, _, _, _, hB, h => ⟨by simpa [Region.seqB] using hB, h⟩
  | o :: L, k, listed, a, W, hl, hB, h => by
    have h0 : ops[k]? = some o := by simpa using (hl 0).symm
    simp only [List.length_cons, Region.seqB, Bool.and_eq_true, decide_eq_true_eq] at hB
    refine ⟨fun h1 => (by rw [hB.1] at h1; cases h1), fun i hi => ?_⟩
    rw [hB.1] at hi
    have hik : i = k := by simpa using hi
    subst hik
    have hw : wpOpIn (Fence.wide) n P ops Q' i (wpListIn (Fence.wide) n P ops Q' L) a W := by unfold wpOpIn; simp only [h0]; exact h
    exact wpOpIn_mono (fun a' w' h' => wpAnyIn_of_seqW L (i + 1) _ a' w' (fun j => by have := hl (j + 1); simpa [Nat.add_assoc, Nat.add_comm 1 j] using this) hB.2 h') hw
theorem wpW_region_still_tail {id : Nat} {Q : Exit → Act → World → Prop} {a : Act} {W : World} {L : List Oper} (k : Nat) (hm : P.follows .mixedOrders = true) (hB : Region.lexTailB .any L.toArray k = true) (hd : noDeferW L.toArray = true)
    (h : wpStill P L.toArray { W with drawn := W.drawn + 1 } (fun a' => wpListIn (Fence.wide) n P L.toArray Q (L.drop k) a' { W with drawn := W.drawn + 1 }) (L.take k) a) : (Code.region id L.toArray true).wpIn (Fence.wide) n P Q a W := by
  simp only [Region.lexTailB, Bool.and_eq_true, decide_eq_true_eq] at hB
  obtain ⟨⟨⟨⟨hsel, hn⟩, hs⟩, hc⟩, hlex⟩ := hB
  have hn' : k < L.length := by simpa using hn
  have htl : (L.take k).length = k := by simp; omega
  have hdl : (L.drop k).length = L.toArray.size - k := by simp
  have inv0 : HeadInv .any L.toArray k (Array.replicate L.toArray.size false) :=
    ⟨by simp, fun j oj _ hl => (by rw [getD_replicate_false] at hl; cases hl), fun t _ ht => getD_in (by simpa using ht) (getD_replicate_false _ _)⟩
  have H := wpAnyL_lex (md := .any) (g := L.toArray.size - k) hsel hs hc hn (L.take k) 0 _ a (fun j hj => by
    have hj' : j < k := by rw [htl] at hj; exact hj
    simp [hj']) (by simpa using htl) inv0 (by rw [htl]; exact hlex) h
  refine wpIn_region_any hm ?_
  have := wpAnyIn_of_headW (n := n) (Q' := Q) (g := L.toArray.size - k) hd (fun listed a' hL => by
    have := wpAnyIn_of_seqW (n := n) (md := .any) (Q' := Q) (L.drop k) k listed a' { W with drawn := W.drawn + 1 } (fun j => by simp [List.getElem?_drop]) (by rw [hdl]; exact hL.1) hL.2
    rwa [hdl] at this) _ _ _ H
  rw [htl, show k + (L.toArray.size - k) = L.toArray.size by omega] at this
  exact this
theorem wpAnyIn_of_stillW {Q : Act → Prop} {Q' : Exit → Act → World → Prop} (hd : noDeferW ops = true) (hQ : ∀ a, Q a → Q' .normal a w) : ∀ (fuel : Nat) (listed : Array Bool) (a : Act),
    wpAnyS P md ops w Q fuel listed a → wpAnyIn (Fence.wide) n P md ops Q' fuel listed a w
  | 0, _, _, h => ⟨h.1, hQ _ h.2⟩
  | fuel + 1, _, _, h => ⟨fun h0 => hQ _ (h.1 h0), fun i hi => wpOpIn_of_stOpW hd (fun a' => wpAnyIn_of_stillW hd hQ fuel _ a') (h.2 i hi)⟩
theorem wpW_region_still {id : Nat} {Q : Exit → Act → World → Prop} {a : Act} {W : World} {L : List Oper} (hm : P.follows .mixedOrders = true) (hB : Region.lexB .any L.toArray = true) (hd : noDeferW L.toArray = true)
    (h : wpStill P L.toArray { W with drawn := W.drawn + 1 } (fun a' => Q .normal a' { W with drawn := W.drawn + 1 }) L a) : (Code.region id L.toArray true).wpIn (Fence.wide) n P Q a W := by
  simp only [Region.lexB, Bool.and_eq_true] at hB
  refine wpIn_region_any hm (wpAnyIn_of_stillW (Q := fun a' => Q .normal a' { W with drawn := W.drawn + 1 }) hd (fun _ h => h) _ _ _ ?_)
  have := wpAnyS_lex (md := .any) hB.1 L 0 (Array.replicate L.toArray.size false) a (by simp) (by simpa using hB.2) h
  simpa using this
end
end Go.Proofs.YtdcobmoeligdkaaGreatDoor
