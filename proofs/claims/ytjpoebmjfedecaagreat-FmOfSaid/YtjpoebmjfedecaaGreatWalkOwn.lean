/-
  Places: the sizes' append; a boxed row that lies below its box; lists of the sizes.
-/
import Derived.Test.YtjpoebmjfedecaaGreatWalkPut
import Derived.Test.YtjpoebmjfedecaaGreatWalkX
import Derived.Test.YtjpoebmjfedecaaGreatWalkPlain
namespace Go.Proofs.YtjpoebmjfedecaaGreat
open Go.RowKit Go.Maps

/-- behind the append to the sizes and its store -/
theorem PlIn.appZ {Y : Nat → Prop} {W w1 : World} {bp bm : Nat} {vS vZ v' : Value} {S Z : List Nat} {n : Nat} {f : Int → Option (Nat × Nat)} (h : PlIn Y W bp bm vS vZ S Z n f) (r : Nat) {tmp : Obj}
    (hown : w1.ownsRow 0 3 1 v' (Z.length + 1) (intsN Z ++ [.int .i64 (r : Int)])) (hgrow : (W.alloc tmp).grownBy w1 vZ.ownBlock) (hat : v'.ownBlock = vZ.ownBlock ∨ v'.ownBlock = some (W.alloc tmp).heap.size) :
    w1.heap[bp]? = some (.cells #[vS, vZ, .map (some bm)] 108 (0, 0)) ∧
    PlIn (fun b => Y b ∨ (W.heap.size ≤ b ∧ b < (w1.setCell ⟨bp, 1, none⟩ v').heap.size)) (w1.setCell ⟨bp, 1, none⟩ v') bp bm vS v' S (Z ++ [r]) n f ∧ StepX Y W (w1.setCell ⟨bp, 1, none⟩ v') := by
  have hsz : W.heap.size + 1 ≤ w1.heap.size := by have := hgrow.size; rw [World.size_alloc] at this; exact this
  have hsz2 : (w1.setCell ⟨bp, 1, none⟩ v').heap.size = w1.heap.size := by simp [World.setCell]
  have hbl : bp < W.heap.size := (Array.getElem?_eq_some_iff.1 h.box).1
  have hk : ∀ b, b < W.heap.size → vZ.ownBlock ≠ some b → w1.heap[b]? = W.heap[b]? := fun b hb hn => by
    rw [hgrow.block b (by rw [World.size_alloc]; omega) (fun e => hn e.symm), Below.heap_alloc W tmp b hb]
  have hset : ∀ b, b ≠ bp → (w1.setCell ⟨bp, 1, none⟩ v').heap[b]? = w1.heap[b]? := fun b hb => Below.heap_setCell w1 ⟨bp, 1, none⟩ v' b hb
  have hb1 := (hk bp hbl h.nz).trans h.box
  have hln := hown.lt
  obtain ⟨hz, hap⟩ := owns_two h.rs h.ap.symm hgrow hat
  have hnb : ∀ b, b < W.heap.size → vZ.ownBlock ≠ some b → v'.ownBlock ≠ some b := fun b hb hn => by
    rcases hat with e | e
    · rw [e]; exact hn
    · rw [e]; intro e2; have := Option.some.inj e2; rw [World.size_alloc] at this; omega
  have hgs : w1.grownBy (w1.setCell ⟨bp, 1, none⟩ v') (some bp) := gb_set (gb_refl _ _) 1 v'
  refine ⟨hb1, ⟨?_, ?_, ?_, hap.symm, ?_, h.ne, by rw [hsz2]; have := h.lm; omega, h.ns, hnb _ hbl h.nz, h.ms, hnb _ h.lm h.mz, .inl h.yp, .inl h.ym, fun g e => .inl (h.ys g e), fun g e => ?_⟩, ?_⟩
  · have hlt1 : bp < w1.heap.size := by omega
    have he := (Array.getElem?_eq_some_iff.1 hb1).2
    simp [World.setCell, hlt1, Array.getElem_modify, he]
  · exact hz.kept hgs (.inr h.ns)
  · rw [List.length_append, intsN_snoc]
    exact hown.kept hgs (.inr (hnb _ hbl h.nz))
  · refine h.mp.kept ?_
    rw [hset bm h.ne]
    exact hk bm h.lm h.mz
  · rcases hat with e2 | e2
    · exact .inl (h.yz g (by rw [← e2]; exact e))
    · have h1 := hln g e
      rw [e2] at e
      have := Option.some.inj e
      rw [World.size_alloc] at this
      exact .inr ⟨by omega, by omega⟩
  · refine ⟨hgrow.os, hgrow.tape, hgrow.output, by omega, fun b hb hy => ?_⟩
    rw [hset b (fun e => hy (by rw [e]; exact h.yp))]
    exact hk b hb (fun e => hy (h.yz b e))
/-- a boxed slice whose row may lie below its box, appended to and stored back within a round of an iterator whose blocks are X -/
theorem boxed_appY {X : Nat → Prop} {W w1 : World} {r0 B : Nat} {t e : TypeId} {size : Nat} {v v' : Value} {k m : Nat} {xs ys : List Value} {tmp : Obj}
    (hv : Boxed W B t v ∧ ¬ X B) (hrow : W.ownsRow r0 e size v k xs) (hg : ∀ g, v.ownBlock = some g → ¬ X g ∧ g ≠ B) (hbd : ∀ b, X b → b < W.heap.size) (hr0 : r0 ≤ W.heap.size)
    (hown' : w1.ownsRow r0 e size v' m ys) (hgrow : (W.alloc tmp).grownBy w1 v.ownBlock) (hat : v'.ownBlock = v.ownBlock ∨ v'.ownBlock = some (W.alloc tmp).heap.size) :
    Boxed w1 B t v ∧ (Boxed (w1.setCell ⟨B, 0, none⟩ v') B t v' ∧ ¬ X B) ∧ (w1.setCell ⟨B, 0, none⟩ v').ownsRow r0 e size v' m ys ∧ (∀ g, v'.ownBlock = some g → (¬ X g ∧ g ≠ B) ∧ (v.ownBlock = some g ∨ W.heap.size < g)) ∧ KeepX X W (w1.setCell ⟨B, 0, none⟩ v') ∧
      (∀ b, b < W.heap.size → b ≠ B → some b ≠ v.ownBlock → (w1.setCell ⟨B, 0, none⟩ v').heap[b]? = W.heap[b]?) ∧ (∀ n0, n0 ≤ B → n0 ≤ r0 → Below n0 W (w1.setCell ⟨B, 0, none⟩ v')) ∧ W.heap.size ≤ (w1.setCell ⟨B, 0, none⟩ v').heap.size := by
  have hlt := hrow.lt
  have hlt' := hown'.lt
  have hBl : B < W.heap.size := hv.1.lt
  have hsz : W.heap.size + 1 ≤ w1.heap.size := by have := hgrow.size; rw [World.size_alloc] at this; exact this
  have hsz2 : (w1.setCell ⟨B, 0, none⟩ v').heap.size = w1.heap.size := by simp [World.setCell]
  have hne : some B ≠ v.ownBlock := fun h => (hg B h.symm).2 rfl
  have hv1 : Boxed w1 B t v := (hv.1.alloc tmp).kept hgrow hne
  have hblk : ∀ b, b < W.heap.size → b ≠ B → some b ≠ v.ownBlock → (w1.setCell ⟨B, 0, none⟩ v').heap[b]? = W.heap[b]? := fun b hb hbB hbo => by
    rw [Below.heap_setCell w1 ⟨B, 0, none⟩ v' b hbB, hgrow.block b (by rw [World.size_alloc]; omega) hbo, Below.heap_alloc W tmp b hb]
  have hg' : ∀ g, v'.ownBlock = some g → (¬ X g ∧ g ≠ B) ∧ (v.ownBlock = some g ∨ W.heap.size < g) := fun g e => by
    rcases hat with h | h
    · rw [h] at e; exact ⟨hg g e, .inl e⟩
    · rw [h] at e
      have := Option.some.inj e
      rw [World.size_alloc] at this
      exact ⟨⟨fun hx => by have := hbd g hx; omega, by omega⟩, .inr (by omega)⟩
  refine ⟨hv1, ⟨hv1.set v', hv.2⟩, hown'.kept (grownBy_setCell' w1 B v') (.inr (fun h => (hg' B h).1.2 rfl)), hg', ⟨by omega, fun b hb hx => ?_⟩, hblk, fun n0 hn0 hn1 => ⟨hgrow.os, hgrow.tape, hgrow.output, by omega, fun b hb => hblk b (by omega) (by omega) (fun h => by have := (hlt b h.symm).1; omega)⟩, by omega⟩
  exact hblk b hb (fun e => hv.2 (by rw [← e]; exact hx)) (fun e => (hg b e.symm).1 hx)
theorem Fr.rowY {β : Type} (B : Nat) (t : TypeId) (base : Nat) (e : TypeId) (size : Nat) (n : β → Nat) (xs : β → List Value) (p : β → Prop) (q : Nat → Prop) :
    Fr (fun X s W => ∃ v, (Boxed W B t v ∧ ¬ X B) ∧ W.ownsRow base e size v (n s) (xs s) ∧ (∀ g, v.ownBlock = some g → ¬ X g ∧ q g) ∧ p s) := fun X X' s W W' ⟨v, hb, hr, hg, hp⟩ st hx =>
  ⟨v, Fr.boxed (β := Unit) B t (fun _ => v) X X' () W W' hb st hx, ownsRow_stepX hr st (fun g e => (hg g e).1), fun g e => ⟨fun h => by
    rcases hx g h with h | h
    · exact (hg g e).1 h
    · have := (hr.lt g e).2; omega, (hg g e).2⟩, hp⟩
/-- a slice of one element, as it is written down -/
theorem owns_one (w : World) (base : Nat) (x : Value) (t : TypeId) (hb : base ≤ w.heap.size) : (w.alloc (.cells #[x] t)).ownsRow base t 1 (.slice (some ⟨w.heap.size, 0, none⟩) 1 1) 1 [x] :=
  ⟨rfl, .inr ⟨_, 1, #[x], rfl, hb, World.alloc_heap_new _ _, Nat.le_refl _, by unfold maxLen; omega, rfl, rfl⟩⟩
theorem own_slice' {w : World} {base : Nat} {e : TypeId} {v : Value} {k : Nat} {xs : List Value} (h : w.ownsRow base e 1 v (k + 1) xs) : ∃ g c, v = .slice (some ⟨g, 0, none⟩) (k + 1) c := by
  rcases h.2 with ⟨_, h0⟩ | ⟨g, cap, cur, rfl, _⟩
  · cases h0
  · exact ⟨g, cap, rfl⟩
/-- the sizes of the first documents -/
def sizesTo (ds : List (List Nat)) (m : Nat) : List Nat := (List.range m).map fun j => (ds.getD j []).length
theorem sizesTo_zero (ds : List (List Nat)) : sizesTo ds 0 = [] := rfl
theorem sizesTo_succ (ds : List (List Nat)) (m : Nat) : sizesTo ds (m + 1) = sizesTo ds m ++ [(ds.getD m []).length] := by simp [sizesTo, List.range_succ]
theorem sizesTo_len (ds : List (List Nat)) (m : Nat) : (sizesTo ds m).length = m := by simp [sizesTo]
theorem sizesTo_at (ds : List (List Nat)) {m j : Nat} (h : j < m) : (sizesTo ds m).getD j 0 = (ds.getD j []).length := by
  unfold sizesTo; rw [List.getD_eq_getElem?_getD, List.getElem?_map, List.getElem?_range h]; rfl
/-- the first rows of a walk, its own ahead -/
def wayV (L : List Nat) (r k : Nat) : List Value := (List.range k).map fun q => Value.int .i64 ((itL L r q : Nat) : Int)
theorem wayV_one (L : List Nat) (r : Nat) : wayV L r 1 = [.int .i64 (r : Int)] := rfl
theorem wayV_succ (L : List Nat) (r k : Nat) : wayV L r (k + 1) = wayV L r k ++ [.int .i64 ((itL L r k : Nat) : Int)] := by simp [wayV, List.range_succ]
theorem putS_bound (ds : List (List Nat)) (hok : NewOk ds) (m : Nat) (hm : m ≤ ds.length) : (putS (putsTo ds m)).length ≤ startOf ds m := by
  induction m with
  | zero => exact Nat.zero_le _
  | succ m ih =>
    have h1 := ih (by omega)
    have h2 := startOf_succ ds m (by omega)
    have h3 : (putS (putsTo ds (m + 1))).length = (putS (putsTo ds m)).length + ((ds.getD m []).length / 32 + 1) := by
      unfold putS; rw [putsTo_succ, List.map_append, List.length_append]; simp [putD]
    omega
end Go.Proofs.YtjpoebmjfedecaaGreat
