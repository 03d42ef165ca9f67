/-
  A buffer: its struct, its map, the bytes of its documents; the blocks that are its own.
-/
import Derived.Test.YtoifmfdaghmleaaMapState
import Derived.Test.YtoifmfdaghmleaaTextWalk
set_option linter.unusedVariables false
namespace Go.Proofs.Ytoifmfdaghmleaa
open Go.RowKit Go.Lib Go.Sort Go.Shelf Go.Proofs.Ytoifmfdaghmleaa.Tx

abbrev DocA := Option Addr × Nat × Nat
abbrev BEnt := Int × DocA
def totL (L : List BEnt) : Nat := (L.map fun e => e.2.2.1).sum
theorem totL_nil : totL [] = 0 := rfl
theorem totL_app (a b : List BEnt) : totL (a ++ b) = totL a + totL b := by unfold totL; rw [List.map_append, List.sum_append]
theorem totL_cons (e : BEnt) (b : List BEnt) : totL (e :: b) = e.2.2.1 + totL b := by unfold totL; rw [List.map_cons, List.sum_cons]
theorem totL_ins (L : List BEnt) (r : Nat) (e : BEnt) : totL (insAt L r e) = totL L + e.2.2.1 := by
  unfold insAt
  rw [totL_app, totL_cons]
  have := congrArg totL (List.take_append_drop r L)
  rw [totL_app] at this
  omega
theorem totL_del (L : List BEnt) (r : Nat) (hr : r < L.length) : totL (delAt L r) + L[r].2.2.1 = totL L := by
  unfold delAt
  rw [totL_app]
  have h1 := congrArg totL (List.take_append_drop r L)
  rw [totL_app, List.drop_eq_getElem_cons hr, totL_cons] at h1
  omega
theorem mem_ins {α : Type} {l : List α} {r : Nat} {x e : α} (h : e ∈ insAt l r x) : e = x ∨ e ∈ l := by
  unfold insAt at h
  rcases List.mem_append.1 h with h | h
  · exact .inr (List.mem_of_mem_take h)
  · rcases List.mem_cons.1 h with h | h
    · exact .inl h
    · exact .inr (List.mem_of_mem_drop h)
theorem mem_del {α : Type} {l : List α} {r : Nat} {e : α} (h : e ∈ delAt l r) : e ∈ l := by
  unfold delAt at h
  rcases List.mem_append.1 h with h | h
  · exact List.mem_of_mem_take h
  · exact List.mem_of_mem_drop h
theorem ksG_getD {α β : Type} (L : List (α × β)) (k : Nat) (d : α) (h : k < L.length) : (ksG L).getD k d = L[k].1 := by
  unfold ksG
  rw [List.getD_eq_getElem?_getD, List.getElem?_map, List.getElem?_eq_getElem h]; rfl
theorem vsG_getD {α β : Type} (L : List (α × β)) (k : Nat) (d : β) (h : k < L.length) : (vsG L).getD k d = L[k].2 := by
  unfold vsG
  rw [List.getD_eq_getElem?_getD, List.getElem?_map, List.getElem?_eq_getElem h]; rfl
/-- a key's entry -/
theorem get_mem {β : Type} (d : β) {L : List (Int × β)} {x : Int} (hr : Rise ltI (ksG L)) (h : x ∈ ksG L) : ∃ hlt : rk ltI (ksG L) x < L.length, L[rk ltI (ksG L) x] = (x, (vsG L).getD (rk ltI (ksG L) x) d) := by
  obtain ⟨h1, h2⟩ := rk_in ordI hr h
  have h3 := h2 0
  rw [ksG_getD L _ 0 h1] at h3
  refine ⟨h1, Prod.ext h3 ?_⟩
  rw [vsG_getD L _ d h1]
/-- what a buffer turns when it is written to -/
def SetF (bp mp : Nat) (mv : Value) : Nat → Prop := fun b => b = bp ∨ SetB mp mv b
/-- all blocks that are a buffer's -/
def FPb (bp mp : Nat) (mv : Value) (L : List BEnt) : Nat → Prop := fun b => SetF bp mp mv b ∨ ∃ e ∈ L, 0 < e.2.2.1 ∧ b = bOf e.2.1
structure BufS (base : Nat) (dd : Int → List Nat) (W : World) (bp mp : Nat) (mv : Value) (L : List BEnt) : Prop where
  box : W.heap[bp]? = some (.cells #[.pointer (some ⟨mp, 0, none⟩), .int .i64 ((totL L : Nat) : Int)] 80 (0, 0))
  map : MapI W mp mv (ents vS L)
  ne : bp ≠ mp ∧ mv.ownBlock ≠ some bp
  docs : ∀ e ∈ L, (e.2.2.1 = (dd e.1).length ∧ e.2.2.2 = e.2.2.1) ∧ Row W e.2.1 (dd e.1).length (byteV (dd e.1))
  far : ∀ e ∈ L, 0 < e.2.2.1 → ¬ SetF bp mp mv (bOf e.2.1) ∧ base ≤ bOf e.2.1
  low : base ≤ bp ∧ base ≤ mp
theorem MapI.step {W W' : World} {X : Nat → Prop} {p : Nat} {v : Value} {l : List (Int × Value)} (h : MapI W p v l) (st : StepX X W W') (hx : ∀ b, SetB p v b → ¬ X b) : MapI W' p v l :=
  ⟨(st.block p h.box.lt (hx p (.inl rfl))).trans h.box, ownsRow_stepX h.row st (fun g e => hx g (.inr e)), h.rise, h.one⟩
section
variable {base : Nat} {dd : Int → List Nat} {W W' : World} {bp mp : Nat} {mv : Value} {L : List BEnt}
theorem BufS.rise (h : BufS base dd W bp mp mv L) : Rise ltI (ksG L) := by have := h.map.rise; rwa [ents_ks] at this
theorem BufS.setF_ge (h : BufS base dd W bp mp mv L) : ∀ b, SetF bp mp mv b → base ≤ b := by
  rintro b (rfl | rfl | e)
  · exact h.low.1
  · exact h.low.2
  · have := (h.map.row.lt b e).1; have := h.low.2; omega
theorem BufS.ge (h : BufS base dd W bp mp mv L) : ∀ b, FPb bp mp mv L b → base ≤ b := by
  rintro b (hb | ⟨e, he, h0, rfl⟩)
  · exact h.setF_ge b hb
  · exact (h.far e he h0).2
theorem BufS.setF_lt (h : BufS base dd W bp mp mv L) : ∀ b, SetF bp mp mv b → b < W.heap.size := by
  rintro b (rfl | rfl | e)
  · exact (Array.getElem?_eq_some_iff.1 h.box).1
  · exact h.map.box.lt
  · exact (h.map.row.lt b e).2
theorem BufS.lt (h : BufS base dd W bp mp mv L) : ∀ b, FPb bp mp mv L b → b < W.heap.size := by
  rintro b (hb | ⟨e, he, h0, rfl⟩)
  · exact h.setF_lt b hb
  · obtain ⟨h1, h2⟩ := h.docs e he
    exact h2.lt (by omega)
theorem row_stepX {W W' : World} {X : Nat → Prop} {a : Option Addr} {n : Nat} {f : Nat → Value} (h : Row W a n f) (st : StepX X W W') (hx : n = 0 ∨ ¬ X (bOf a)) : Row W' a n f :=
  ⟨h.at_, fun j hj => by
    have h1 := h.cell j hj
    have hlt1 := World.block_lt_of_cell? W _ h1
    exact (World.cell?_of_block (a := ⟨bOf a, oOf a + j, none⟩) (st.block _ hlt1 (hx.resolve_left (by omega)))).trans h1⟩
theorem BufS.step {X : Nat → Prop} (h : BufS base dd W bp mp mv L) (st : StepX X W W') (hx : ∀ b, FPb bp mp mv L b → ¬ X b) : BufS base dd W' bp mp mv L :=
  ⟨(st.block bp (Array.getElem?_eq_some_iff.1 h.box).1 (hx bp (.inl (.inl rfl)))).trans h.box, h.map.step st (fun b hb => hx b (.inl (.inr hb))), h.ne,
    fun e he => by
      obtain ⟨h1, h2⟩ := h.docs e he
      refine ⟨h1, row_stepX h2 st ?_⟩
      rcases Nat.eq_zero_or_pos (dd e.1).length with h0 | h0
      · exact .inl h0
      · exact .inr (hx _ (.inr ⟨e, he, by omega, rfl⟩)), h.far, h.low⟩
theorem BufS.kept (h : BufS base dd W bp mp mv L) (hb : Below W.heap.size W W') : BufS base dd W' bp mp mv L := h.step (StepX.of_below (X := fun _ => False) hb) (fun _ _ k => k)
theorem BufS.cap (h : BufS base dd W bp mp mv L) : W.cell? ⟨bp, 0, none⟩ = some (.pointer (some ⟨mp, 0, none⟩)) ∧ W.cell? ⟨bp, 1, none⟩ = some (.int .i64 ((totL L : Nat) : Int)) := by
  have := h.box
  constructor <;> simp [World.cell?, this]
end
/-- a buffer is written to -/
def BufTurn (base : Nat) (dd : Int → List Nat) (W : World) (bp mp : Nat) (mv : Value) (L L' : List BEnt) (W' : World) : Prop :=
  ∃ mv', BufS base dd W' bp mp mv' L' ∧ StepX (SetF bp mp mv) W W' ∧ ∀ b, FPb bp mp mv' L' b → FPb bp mp mv L b ∨ W.heap.size ≤ b
/-- two buffers beside one another -/
structure TwoBuf (w : World) (da db : Int → List Nat) (W : World) (ba ma : Nat) (va : Value) (La : List BEnt) (bb mb : Nat) (vb : Value) (Lb : List BEnt) : Prop where
  a : BufS w.heap.size da W ba ma va La
  b : BufS w.heap.size db W bb mb vb Lb
  dis : ∀ x, FPb ba ma va La x → ¬ FPb bb mb vb Lb x
  bel : Below w.heap.size w W
theorem TwoBuf.flip {w W : World} {da db : Int → List Nat} {ba ma bb mb : Nat} {va vb : Value} {La Lb : List BEnt} (h : TwoBuf w da db W ba ma va La bb mb vb Lb) : TwoBuf w db da W bb mb vb Lb ba ma va La :=
  ⟨h.b, h.a, fun x h1 h2 => h.dis x h2 h1, h.bel⟩
theorem TwoBuf.kept {w W W' : World} {da db : Int → List Nat} {ba ma bb mb : Nat} {va vb : Value} {La Lb : List BEnt} (h : TwoBuf w da db W ba ma va La bb mb vb Lb) (hb : Below W.heap.size W W') : TwoBuf w da db W' ba ma va La bb mb vb Lb :=
  ⟨h.a.kept hb, h.b.kept hb, h.dis, below_next h.bel hb h.bel.size⟩
theorem TwoBuf.left {w W W' : World} {da db : Int → List Nat} {ba ma bb mb : Nat} {va vb : Value} {La La' Lb : List BEnt} (h : TwoBuf w da db W ba ma va La bb mb vb Lb) (ht : BufTurn w.heap.size da W ba ma va La La' W') : ∃ va', TwoBuf w da db W' ba ma va' La' bb mb vb Lb := by
  obtain ⟨va', h1, st, h2⟩ := ht
  refine ⟨va', h1, h.b.step st (fun b hb hs => h.dis b (.inl hs) hb), fun x hx hy => ?_, h.bel.trans (st.below h.bel.size h.a.setF_ge)⟩
  rcases h2 x hx with h3 | h3
  · exact h.dis x h3 hy
  · have := h.b.lt x hy; omega
theorem TwoBuf.right {w W W' : World} {da db : Int → List Nat} {ba ma bb mb : Nat} {va vb : Value} {La Lb Lb' : List BEnt} (h : TwoBuf w da db W ba ma va La bb mb vb Lb) (ht : BufTurn w.heap.size db W bb mb vb Lb Lb' W') : ∃ vb', TwoBuf w da db W' ba ma va La bb mb vb' Lb' := by
  obtain ⟨vb', h1⟩ := h.flip.left ht
  exact ⟨vb', h1.flip⟩
attribute [irreducible] totL
end Go.Proofs.Ytoifmfdaghmleaa
