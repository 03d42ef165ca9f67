/-
  text.New: documents in new memory, where each begins, the row of symbols.
-/
import Derived.Test.YtelndbjjkhlacaaTextWalk
import Derived.Deep.RegionHeld3
import Derived.Deep.AppendLies
import Derived.Deep.RegionLaw
import Derived.Deep.DeepCutAuto
namespace Go.Proofs.Ytelndbjjkhlacaa
open Go.RowKit

theorem getD_mem' {l : List Nat} {i : Nat} (h : i < l.length) : l.getD i 0 ∈ l := by
  rw [List.getD_eq_getElem?_getD, List.getElem?_eq_getElem h]; exact List.getElem_mem _
/-- where a Text's slices lie -/
structure TxP where
  ad : Option Addr
  aa : Option Addr
  ar : Option Addr
  cd : Nat
  ca : Nat
  cr : Nat
  A : Nat → Option Addr
  C : Nat → Nat
structure TextAt (w : World) (bt : Nat) (x : TxP) (ds : List (List Nat)) : Prop where
  c0 : w.cell? ⟨bt, 0, none⟩ = some (.slice x.ad ds.length x.cd)
  c1 : w.cell? ⟨bt, 1, none⟩ = some (.slice x.aa ds.length x.ca)
  c2 : w.cell? ⟨bt, 2, none⟩ = some (.slice x.ar (rowOf ds).length x.cr)
  docs : DocsAt w x.ad x.A x.C ds
  at_ : Row w x.aa ds.length (fun r => .int .i64 ((startOf ds r : Nat) : Int))
  row : Row w x.ar (rowOf ds).length (fun p => .int .u16 (((rowOf ds).getD p 0 : Nat) : Int))
  cap : (rowOf ds).length ≤ x.cr
  caps : ∀ r, r < ds.length → x.C r = (ds.getD r []).length
theorem TextAt.kept {w w' : World} {bt : Nat} {x : TxP} {ds : List (List Nat)} (h : TextAt w bt x ds) (hb : Below w.heap.size w w') : TextAt w' bt x ds :=
  have hl : bt < w.heap.size := World.block_lt_of_cell? w _ h.c0
  ⟨(hb.cell (p := ⟨bt, 0, none⟩) hl).trans h.c0, (hb.cell (p := ⟨bt, 1, none⟩) hl).trans h.c1, (hb.cell (p := ⟨bt, 2, none⟩) hl).trans h.c2, h.docs.kept hb, h.at_.kept hb, h.row.kept hb, h.cap, h.caps⟩
theorem TextAt.drewN {w : World} {bt : Nat} {x : TxP} {ds : List (List Nat)} (h : TextAt w bt x ds) (k : Nat) : TextAt (w.drewN k) bt x ds := ⟨h.c0, h.c1, h.c2, h.docs.drewN k, h.at_.drewN k, h.row.drewN k, h.cap, h.caps⟩
/-- documents that New takes -/
structure NewOk (ds : List (List Nat)) : Prop where
  many : ds.length ≤ 500
  long : ∀ d ∈ ds, d.length ≤ 2000
  all : (rowOf ds).length ≤ 60000
  byte : ∀ d ∈ ds, ∀ c ∈ d, c < 256
theorem FewP.ok {ds : List (List Nat)} (h : FewP ds) : NewOk ds := ⟨by have := h.many; omega, h.long, by have := h.all; omega, h.byte⟩

theorem info_int' : (Try.prog.info? 3).map (fun i => (i.zero, i.size, i.bytes)) = some (some (.int .i64 0), 1, 8) := by kernel_rfl
abbrev docV (ds : List (List Nat)) (A : Nat → Option Addr) (C : Nat → Nat) : Nat → Value := fun j => .slice (A j) (ds.getD j []).length (C j)
theorem row_of_block {w w' : World} {a : Option Addr} {n : Nat} {f : Nat → Value} (h : Row w a n f) (e : n = 0 ∨ w'.heap[bOf a]? = w.heap[bOf a]?) : Row w' a n f := by
  refine ⟨h.at_, fun k hk => ?_⟩
  rcases e with e | e
  · omega
  · exact (World.cell?_of_block (w := w) (a := ⟨bOf a, oOf a + k, none⟩) e).trans (h.cell k hk)
def NewPost (w : World) (ds : List (List Nat)) (e : Ending) (w' : World) : Prop :=
  ∃ bt x, e = .returned (.tuple #[.pointer (some ⟨bt, 0, none⟩), .int .i64 0]) ∧ TextAt w' bt x ds ∧ Below w.heap.size w w'
end Go.Proofs.Ytelndbjjkhlacaa
