/-
  A round's own copy of a call of a script.
-/
import Derived.Test.YtoifmfdaghmleaaOpsOpen
import Derived.Test.YtoifmfdaghmleaaSeqX
namespace Go.Proofs.Ytoifmfdaghmleaa
open Go.RowKit

/-- the round's own copy of a call -/
def Blk (W : World) (B : Nat) (kd x vv : Int) (sx : ByteArray) : Prop := W.heap[B]? = some (.cells #[.int .i64 kd, .int .i64 x, .int .i64 vv, .string sx] 67 (0, 0))
theorem Blk.new (W : World) (kd x vv : Int) (sx : ByteArray) : Blk (W.alloc (.cells #[.int .i64 kd, .int .i64 x, .int .i64 vv, .string sx] 67)) W.heap.size kd x vv sx := heap_alloc_new W _
theorem Blk.lt {W : World} {B : Nat} {kd x vv : Int} {sx : ByteArray} (h : Blk W B kd x vv sx) : B < W.heap.size := (Array.getElem?_eq_some_iff.1 h).1
theorem Blk.k {W : World} {B : Nat} {kd x vv : Int} {sx : ByteArray} (h : Blk W B kd x vv sx) : W.cell? ⟨B, 0, none⟩ = some (.int .i64 kd) := by unfold Blk at h; simp [World.cell?, h]
theorem Blk.x {W : World} {B : Nat} {kd x vv : Int} {sx : ByteArray} (h : Blk W B kd x vv sx) : W.cell? ⟨B, 1, none⟩ = some (.int .i64 x) := by unfold Blk at h; simp [World.cell?, h]
theorem Blk.v {W : World} {B : Nat} {kd x vv : Int} {sx : ByteArray} (h : Blk W B kd x vv sx) : W.cell? ⟨B, 2, none⟩ = some (.int .i64 vv) := by unfold Blk at h; simp [World.cell?, h]
theorem Blk.s {W : World} {B : Nat} {kd x vv : Int} {sx : ByteArray} (h : Blk W B kd x vv sx) : W.cell? ⟨B, 3, none⟩ = some (.string sx) := by unfold Blk at h; simp [World.cell?, h]
theorem Blk.kept {W W' : World} {B : Nat} {kd x vv : Int} {sx : ByteArray} (h : Blk W B kd x vv sx) (hb : Below W.heap.size W W') : Blk W' B kd x vv sx := (hb.block _ h.lt).trans h
theorem Blk.step {W W' : World} {X : Nat → Prop} {B : Nat} {kd x vv : Int} {sx : ByteArray} (h : Blk W B kd x vv sx) (st : StepX X W W') (hx : ¬ X B) : Blk W' B kd x vv sx := (st.block _ h.lt hx).trans h
end Go.Proofs.Ytoifmfdaghmleaa
