/-
  The walk's iterator, to a caller whose words speak of the iterator's blocks (it has none of its own).
-/
import Derived.Test.YtjpoebmjfedecaaGreatBackIter
import Derived.Test.YtjpoebmjfedecaaGreatPlainFmOf
import Derived.Test.YtjpoebmjfedecaaGreatWayRow
namespace Go.Proofs.YtjpoebmjfedecaaGreat
open Go.RowKit Go.Shelf

/-- the walk of a row, or of none -/
def WkOf (L : List Nat) (i : Int) (ys : List (Nat × Fin 256)) : Prop :=
  (∃ r M : Nat, i = (r : Int) ∧ r < L.length ∧ EndsL L r M ∧ M < L.length ∧ ys = wkTo L r M) ∨ ((i < 0 ∨ (L.length : Int) ≤ i) ∧ ys = [])
theorem walkX (n : Nat) (hn : 1 ≤ n) (K : Nat → Prop) (w0 : World) (bx bm : Nat) (al : Option Addr) (cap : Nat) (L : List Nat) (hI : IdxAt w0 bx bm al cap L) (hKa : ∀ b, b < w0.heap.size → K b) (B1 B2 : Nat) (hK2 : K B2)
    (i : Int) (ys : List (Nat × Fin 256)) (hw : WkOf L i ys) (w : World) (hk0 : Keeps w0 w) (hs : w0.heap.size ≤ w.heap.size) (h1 : w.cell? ⟨B1, 0, none⟩ = some (.int .i64 i)) (h2 : w.cell? ⟨B2, 0, none⟩ = some (.pointer (some ⟨bx, 0, none⟩))) :
    SeqG Fence.wide n Tryz.prog 73 #[.pointer (some ⟨B1, 0, none⟩), .pointer (some ⟨B2, 0, none⟩)] bwV K (fun zs => zs = ys) (fun pre => pre <+: ys) (fun pre y => ys[pre.length]? = some y) w := by
  intro l J Jx W hW hJ hJx hY h0
  have hb1 : B1 < w.heap.size := World.block_lt_of_cell? w _ h1
  have hb2 : B2 < w.heap.size := World.block_lt_of_cell? w _ h2
  have hk : Keeps w0 W := fun b hb => (hW.block b (by omega)).trans (hk0 b hb)
  have c1 := (hW.cell (p := ⟨B1, 0, none⟩) hb1).trans h1
  have c2 := (hW.cell (p := ⟨B2, 0, none⟩) hb2).trans h2
  have hA : ∀ s V k, (J (fun _ => False) s V ∧ w.heap.size ≤ V.heap.size) → (J (fun _ => False) s (World.drewN V k) ∧ w.heap.size ≤ (World.drewN V k).heap.size) := fun s V k h => ⟨hJ.step h.1 ((StepX.refl _ _).drewN k), h.2⟩
  have h0' : J (fun _ => False) [] W ∧ w.heap.size ≤ W.heap.size := ⟨h0, hW.size⟩
  rcases hw with ⟨r, M, hi, hr, hE, hM, hy⟩ | ⟨h, hy⟩
  · subst hi
    subst hy
    refine (walk1_in n hn l B1 B2 w.heap.size (fun b => ¬ K b) w0 bx bm al cap L hI (fun b h => Nat.le_of_not_lt (fun h2 => h (hKa b h2))) hs r M hr hE hM (fun s V => J (fun _ => False) s V ∧ w.heap.size ≤ V.heap.size) (Jx (fun _ => False)) hA ?_ W c1 c2 hk h0' ⟨hb2, fun h => h hK2⟩).mono ?_
    · rintro pre y V ⟨hj, hsz⟩ _ hlt
      obtain ⟨fn, tmps, assign, body, hy, hR⟩ := hY _ pre y V hj hlt
      refine ⟨fn, tmps, assign, body, hy, hR.mono ?_⟩
      rintro e V' ⟨_, hk2, h⟩
      refine h.imp (fun h => ⟨h.1, ⟨h.2, by have := hk2.size; omega⟩, fun b hb hx => hk2.block b (by omega) (Classical.byContradiction hx)⟩) id
    · rintro e V ⟨hv, h⟩
      exact ⟨hv, h.imp (fun ⟨ys, hy, hj⟩ => ⟨ys, _, hy, hj.1⟩) (fun ⟨pre, hp, hj⟩ => ⟨pre, _, hp, hj⟩)⟩
  · subst hy
    refine (walk1_out n hn l B1 B2 w0 bx bm al cap L hI i h (fun s V => J (fun _ => False) s V ∧ w.heap.size ≤ V.heap.size) (Jx (fun _ => False)) hA W c1 c2 hk h0').mono ?_
    rintro e V ⟨hv, h⟩
    exact ⟨hv, h.imp (fun ⟨ys, hy, hj⟩ => ⟨ys, _, hy, hj.1⟩) (fun ⟨pre, hp, hj⟩ => ⟨pre, _, hp, hj⟩)⟩
end Go.Proofs.YtjpoebmjfedecaaGreat
