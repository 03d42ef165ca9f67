/-
  Laws of single operations inside a fence: an operation that the kernel can run, a store of a whole row.
-/
import Derived.Test.YtdcobmoeligdkaaGreatDoorCommon
import Derived.Great.BuildSlice
import Derived.Great.Walk
namespace Go.Proofs.YtdcobmoeligdkaaGreatDoor
open Go.RowKit
section
variable {F : Fence} {n : Nat} {P : Program}
theorem wpListIn_runTo {ops : Array Oper} {rest : List Oper} {o : Oper} {a : Act} {w : World} {Q : Exit → Act → World → Prop} (hg : o.guard = none) (hnd : ∀ c, o.op ≠ .defer c) (hab : o.about P w a.eval = none)
    (dst : Option Tmp) (hdst : o.dst = dst) (v : Value) (w' : World) (hrun : (execOp a.eval o).run P w = .ok (.value v) w')
    (h : wpListIn F n P ops Q rest (a.put dst v) w') : wpListIn F n P ops Q (o :: rest) a w := by
  subst hdst
  refine wpListIn_plain hg fun K hK => ?_
  unfold Oper.wpIn
  refine ⟨fun f hf => (by rw [hab] at hf; cases hf), ?_⟩
  rw [Oper.semAt_plain F _ _ hnd, hrun]
  exact hK _ _ h
theorem wpListIn_store_rowTo {ops : Array Oper} {rest : List Oper} {o : Oper} {a : Act} {w : World} {Q : Exit → Act → World → Prop} (hgd : o.guard = none) (ty : TypeId) (x y : Operand) (ho : o.op = .store ty x y)
    (hd : o.dst = none) (g : Nat) (cells : Array Value) (hx : a.eval x = .pointer (some ⟨g, 0, none⟩)) (hy : a.eval y = .agg cells)
    (t : TypeId) (old : Array Value) (hg : w.heap[g]? = some (.cells old t (0, 0))) (hi : (P.info? ty).map (·.size) = some cells.size)
    (hold : old.size = cells.size) (h1 : cells.all (·.oneCell') = true)
    (h : wpListIn F n P ops Q rest a (w.setRow g cells)) : wpListIn F n P ops Q (o :: rest) a w := by
  refine wpListIn_plain hgd fun K hK => ?_
  unfold Oper.wpIn
  refine ⟨fun f hf => (by simp [Oper.about, ho] at hf), ?_⟩
  rw [Oper.semAt_plain F _ _ (by rw [ho]; intro c hc; cases hc)]
  unfold execOp
  simp only [ho, hx, hy, Instr.storeAt, Instr.sureAddr, Sem.run_bind, Sem.run_pure, Result.andThen_ok, run_storeVar_row w g t ty old cells hg hi hold h1]
  refine hK _ _ ?_
  rw [hd]
  exact h
end
end Go.Proofs.YtdcobmoeligdkaaGreatDoor
