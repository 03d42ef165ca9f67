/-
  A set is turned: one member more, one fewer.
-/
import Derived.Test.YtoifmfdaghmleaaBagSet
import Derived.Test.YtoifmfdaghmleaaBagIns
import Derived.Shelf.SlicesE.Delete
set_option linter.unusedVariables false
namespace Go.Proofs.Ytoifmfdaghmleaa
open Go.RowKit Go.Lib Go.Sort Go.Shelf
attribute [local go_sem] Oper.semAt_some

/-- the blocks of a set -/
def SetB (p : Nat) (v : Value) : Nat → Prop := fun b => b = p ∨ v.ownBlock = some b
theorem SetB.row {p : Nat} {v : Value} {w w' : World} (h : w.grownBy w' v.ownBlock) : StepX (SetB p v) w w' := StepX.gb h (fun r e _ => .inr e)
theorem stepB {w W W' : World} {p : Nat} {v : Value} (hb : Below w.heap.size w W) (hp : w.heap.size ≤ p) (hr : ∀ g, v.ownBlock = some g → p + 1 ≤ g) (st : StepX (SetB p v) W W') : Below w.heap.size w W' :=
  hb.trans (st.below hb.size (fun b h => h.elim (fun e => by omega) (fun e => by have := hr b e; omega)))
theorem insAt_map {α : Type} (l : List α) (r : Nat) (x : α) (f : α → Value) : (l.map f).take (r * 1) ++ [f x] ++ (l.map f).drop (r * 1) = (insAt l r x).map f := by
  unfold insAt
  rw [Nat.mul_one, List.map_append, List.map_cons, List.map_take, List.map_drop]; simp
theorem delAt_map {α : Type} (l : List α) (r : Nat) : l.take r ++ l.drop (r + 1) = delAt l r := rfl
theorem delI (w : World) (base n i cap g : Nat) (l : List Int) (hown : w.ownsRow base 3 1 (.slice (some ⟨g, 0, none⟩) n cap) n (l.map fun x => (Value.int .i64 x : Value))) (hl : l.length = n) (hi : i < n) :
    Calls Try.prog 88 #[.slice (some ⟨g, 0, none⟩) n cap, .int .i64 (i : Int), .int .i64 ((i + 1 : Nat) : Int)] w fun e w' => e = .returned (.slice (some ⟨g, 0, none⟩) (n - 1) cap) ∧ w'.ownsRow base 3 1 (.slice (some ⟨g, 0, none⟩) (n - 1) cap) (n - 1) ((delAt l i).map fun x => (Value.int .i64 x : Value)) ∧ w.grownBy w' (some g) := by
  obtain ⟨i0, hi0, hz0, hz1, hz2⟩ := info_parts info_rI
  obtain ⟨hb, hnc, hcm, _⟩ := owns_some hown
  have hH := holds_of_owns hown hl
  have hcon := AnyE.slices_Delete (P := Try.prog) (ρ := Try.bgDelI_ren) { Try.bgDelI with } (fun x : Int => (Value.int .i64 x : Value)) oneI (0 : Int) (fun w => by kernel_rfl) i0 hi0 hz1 g 0 cap i (i + 1) l.toArray w hH (by simpa [hl] using hnc) (by unfold maxLen at hcm; exact hcm) (by omega) (by simp [hl]; omega)
  change Calls Try.prog 88 _ _ _ at hcon
  rw [show l.toArray.size = n by simpa using hl] at hcon
  refine hcon.mono ?_
  rintro e w' ⟨rfl, q, rfl⟩
  rw [show i + 1 - i = 1 by omega]
  obtain ⟨h1, h2⟩ := owns_put (ys := l.take i ++ l.drop (i + 1) ++ List.replicate 1 (0 : Int)) hown hl (by simp; omega) q #[] (n - 1) (by omega)
  rw [List.take_left' (by simp; omega)] at h1
  rw [grow_empty] at h1 h2
  exact ⟨rfl, h1, h2⟩
set_option maxRecDepth 100000 in
set_option maxHeartbeats 1000000 in
theorem addI (w : World) (p : Nat) (v : Value) (l : List Int) (h : SetI w p v l) (hn : l.length ≤ 900000) (x : Int) :
    Calls Try.prog 46 #[.pointer (some ⟨p, 0, none⟩), Value.int .i64 x] w fun e w' => ∃ v', e = .returned (.bool (!memB l x)) ∧ SetI w' p v' (putL ltI l x) ∧ StepX (SetB p v) w w' ∧ (∀ g, v'.ownBlock = some g → SetB p v g ∨ w.heap.size ≤ g) := by
  have HPL := Lib.hid (placeI w p v l h (by omega) x)
  by_cases hm : x ∈ l
  · rw [memB_true hm] at HPL ⊢
    have hput : putL ltI l x = l := if_pos hm
    rw [hput]
    have HS := Lib.hid h
    clear h hput hm
    generalize rk ltI l x = r at *
    go_enter Try.func46, Try.ntmps46
    go_wp2_with (go_at_call 85; refine HPL.out.mono ?_; rintro e w' ⟨rfl, rfl⟩)
    go_ret
    exact ⟨v, rfl, HS.out, StepX.refl _ _, fun g e => .inl (.inr e)⟩
  · rw [memB_false hm] at HPL ⊢
    have hput : putL ltI l x = insAt l (rk ltI l x) x := if_neg hm
    rw [hput]
    have hri := insAt_rise ordI h.rise x hm
    have hle := rk_le (lt := ltI) l x
    have hw1 : Below w.heap.size w (w.alloc (.cells #[Value.int .i64 x] 3)) := (Below.refl _ w).alloc (Nat.le_refl _) _
    have hS1 := h.kept hw1
    have hvb : (w.alloc (.cells #[Value.int .i64 x] 3)).heap[w.heap.size]? = some (.cells [(Value.int .i64 x : Value)].toArray 3 (0, 0)) := heap_alloc_new w _
    have hlt := h.box.lt
    have HIN := Lib.hid (insI (w.alloc (.cells #[Value.int .i64 x] 3)) (p + 1) l.length (rk ltI l x) w.heap.size v _ [(Value.int .i64 x : Value)] hS1.row hle (by omega) (by intro u hu; obtain ⟨y, _, rfl⟩ := List.mem_map.1 hu; rfl) rfl (by intro u hu; simp at hu; subst hu; rfl) hvb (fun e => by have := (h.row.lt _ e).2; omega) (by simp; omega))
    rw [insAt_map] at HIN
    obtain ⟨a, cap, rfl, -⟩ := Row.of_owns h.row
    have c := h.box.cell
    have HC1 := Lib.hid hS1.box
    have HS := Lib.hid h
    have HRI := Lib.hid hri
    have HW1 := Lib.hid hw1
    have HLL := Lib.hid (insAt_len l (rk ltI l x) x)
    clear h hput hm hri hle hw1 hS1 hvb hlt
    obtain ⟨L', hL'⟩ : ∃ L', L' = insAt l (rk ltI l x) x := ⟨_, rfl⟩
    rw [← hL'] at HIN HRI HLL ⊢
    clear hL'
    have HNE := Lib.hid HS.out.ne
    generalize rk ltI l x = r at *
    generalize l.length = n at *
    go_enter Try.func46, Try.ntmps46
    go_wp2_with fail
    refine HPL.out.mono ?_
    rintro e w1 ⟨rfl, rfl⟩
    go_wp2_with fail
    refine HIN.out.mono ?_
    rintro e w2 ⟨v', rfl, ho2, hg2, hat2⟩
    obtain ⟨a', cap', rfl, -⟩ := Row.of_owns ho2
    have x2 := HC1.out.kept hg2 (fun e => HNE.out e.symm)
    have c2 := x2.cell
    have f2 := x2.frozen
    have HX2 := Lib.hid x2
    have HO2 := Lib.hid ho2
    have HG2 := Lib.hid hg2
    have HAT := Lib.hid hat2
    clear x2 ho2 hg2 hat2 c HIN HC1
    go_wp2
    go_ret
    refine ⟨_, rfl, ⟨HX2.out.set _, ?_, HRI.out⟩, ((StepX.of_below HW1.out).trans (SetB.row HG2.out)).trans (StepX.setCell w2 ⟨p, 0, none⟩ _ (.inl rfl)), fun g e => ?_⟩
    · rw [HLL.out]
      exact HO2.out.kept (grownBy_setCell' w2 p _) (.inr (fun e => by
        rcases HAT.out with h | h
        · exact HNE.out (h ▸ e)
        · have := HX2.out.lt; rw [h] at e; simp at e; have := HS.out.box.lt; omega))
    · rcases HAT.out with h | h
      · exact .inl (.inr (h ▸ e))
      · right; rw [h] at e; simp at e; omega
set_option maxRecDepth 100000 in
set_option maxHeartbeats 1000000 in
theorem dropI (w : World) (p : Nat) (v : Value) (l : List Int) (h : SetI w p v l) (hn : l.length ≤ 900000) (x : Int) :
    Calls Try.prog 47 #[.pointer (some ⟨p, 0, none⟩), Value.int .i64 x] w fun e w' => ∃ v', e = .returned (.bool (memB l x)) ∧ SetI w' p v' (delL ltI l x) ∧ StepX (SetB p v) w w' ∧ (∀ g, v'.ownBlock = some g → SetB p v g ∨ w.heap.size ≤ g) := by
  have HPL := Lib.hid (placeI w p v l h (by omega) x)
  by_cases hm : x ∈ l
  · rw [memB_true hm] at HPL ⊢
    have hput : delL ltI l x = delAt l (rk ltI l x) := if_pos hm
    rw [hput]
    have hri := delAt_rise h.rise (rk ltI l x)
    have hlt := ((rk_mem ordI h.rise x).1 hm).1
    have hdl := delAt_len l _ hlt
    obtain ⟨g, cap, rfl⟩ : ∃ g cap, v = .slice (some ⟨g, 0, none⟩) l.length cap := by
      rcases owns_cases h.row with ⟨_, e⟩ | ⟨g, cap, e, _⟩
      · omega
      · exact ⟨g, cap, e⟩
    have HDE := Lib.hid (delI w (p + 1) l.length (rk ltI l x) cap g l h.row rfl hlt)
    have c := h.box.cell
    have HS := Lib.hid h
    have HRI := Lib.hid hri
    have HNE := Lib.hid h.ne
    have HLL : Hid (l.length - 1 = (delAt l (rk ltI l x)).length) := by show _ = _; omega
    have hn2 : (rk ltI l x : Int) + 1 ≤ 900000 := by omega
    have e1 : IntKind.i64.wrap ((rk ltI l x : Int) + 1) = ((rk ltI l x + 1 : Nat) : Int) := by rw [IntWalk.i64_in _ (by omega)]; rfl
    clear h hput hm hri hlt hdl
    obtain ⟨L', hL'⟩ : ∃ L', L' = delAt l (rk ltI l x) := ⟨_, rfl⟩
    rw [← hL'] at HDE HRI HLL ⊢
    clear hL'
    generalize rk ltI l x = r at *
    generalize l.length = n at *
    go_enter Try.func47, Try.ntmps47
    go_wp2_with fail
    refine HPL.out.mono ?_
    rintro e w1 ⟨rfl, rfl⟩
    go_wp2_with fail
    refine HDE.out.mono ?_
    rintro e w2 ⟨rfl, ho2, hg2⟩
    have x2 := HS.out.box.kept hg2 (fun e => HNE.out e.symm)
    have c2 := x2.cell
    have f2 := x2.frozen
    have HX2 := Lib.hid x2
    have HO2 := Lib.hid ho2
    have HG2 := Lib.hid hg2
    clear x2 ho2 hg2 c HDE
    go_wp2
    go_ret
    refine ⟨_, rfl, ⟨HX2.out.set _, ?_, HRI.out⟩, (SetB.row (v := .slice (some ⟨g, 0, none⟩) n cap) HG2.out).trans (StepX.setCell w2 ⟨p, 0, none⟩ _ (.inl rfl)), fun g' e => .inl (.inr e)⟩
    rw [← HLL.out]
    exact HO2.out.kept (grownBy_setCell' w2 p _) (.inr HNE.out)
  · rw [memB_false hm] at HPL ⊢
    have hput : delL ltI l x = l := if_neg hm
    rw [hput]
    have HS := Lib.hid h
    clear h hput hm
    generalize rk ltI l x = r at *
    go_enter Try.func47, Try.ntmps47
    go_wp2_with (go_at_call 85; refine HPL.out.mono ?_; rintro e w' ⟨rfl, rfl⟩)
    go_ret
    exact ⟨v, rfl, HS.out, StepX.refl _ _, fun g e => .inl (.inr e)⟩
end Go.Proofs.Ytoifmfdaghmleaa
