/-
  The contract of an iterator that lays blocks of its own and turns them (it may itself range over another iterator): the caller's words speak of the set X of the blocks that are the iterator's. The caller's law over it.
-/
import Derived.Test.YtdcobmoeligdkaaGreatDoorCommon
import Derived.Maps.OwnIn
namespace Go.Proofs.YtdcobmoeligdkaaGreatDoor
open Go.RowKit

/-- no block but those of X is turned -/
structure StepX (X : Nat → Prop) (W W' : World) : Prop where
  os : W'.os = W.os
  tape : W'.tape = W.tape
  output : W'.output = W.output
  size : W.heap.size ≤ W'.heap.size
  block : ∀ b, b < W.heap.size → ¬ X b → W'.heap[b]? = W.heap[b]?
/-- all blocks of X are kept -/
structure KeepX (X : Nat → Prop) (W W' : World) : Prop where
  size : W.heap.size ≤ W'.heap.size
  block : ∀ b, b < W.heap.size → X b → W'.heap[b]? = W.heap[b]?

theorem StepX.refl (X : Nat → Prop) (W : World) : StepX X W W := ⟨rfl, rfl, rfl, Nat.le_refl _, fun _ _ _ => rfl⟩
theorem StepX.trans {X : Nat → Prop} {A B C : World} (h : StepX X A B) (k : StepX X B C) : StepX X A C :=
  ⟨k.os.trans h.os, k.tape.trans h.tape, k.output.trans h.output, Nat.le_trans h.size k.size, fun b hb hx => (k.block b (Nat.lt_of_lt_of_le hb h.size) hx).trans (h.block b hb hx)⟩
theorem StepX.mono {X Y : Nat → Prop} {A B : World} (h : StepX X A B) (hy : ∀ b, b < A.heap.size → X b → Y b) : StepX Y A B :=
  ⟨h.os, h.tape, h.output, h.size, fun b hb hn => h.block b hb (fun hx => hn (hy b hb hx))⟩
theorem StepX.of_below {X : Nat → Prop} {A B : World} (h : Below A.heap.size A B) : StepX X A B := ⟨h.os, h.tape, h.output, h.size, fun b hb _ => h.block b hb⟩
theorem StepX.drewN {X : Nat → Prop} {A B : World} (h : StepX X A B) (k : Nat) : StepX X A (B.drewN k) := ⟨h.os, h.tape, h.output, h.size, h.block⟩
theorem StepX.drew {X : Nat → Prop} {A B : World} (h : StepX X A B) : StepX X A B.drew := ⟨h.os, h.tape, h.output, h.size, h.block⟩
theorem StepX.alloc (X : Nat → Prop) (A : World) (o : Obj) : StepX X A (A.alloc o) := StepX.of_below ((Below.refl _ _).alloc (Nat.le_refl _) _)
theorem StepX.gb {X : Nat → Prop} {A B : World} {row : Option Nat} (h : A.grownBy B row) (hr : ∀ r, row = some r → r < A.heap.size → X r) : StepX X A B :=
  ⟨h.os, h.tape, h.output, h.size, fun b hb hn => h.block b hb (fun e => hn (hr b e.symm hb))⟩
theorem StepX.putObj {X : Nat → Prop} (A : World) (l : Nat) (o : Obj) (hl : X l) : StepX X A (A.putObj l o) := StepX.gb (grownBy_putObj' A l o) (fun r e _ => by cases e; exact hl)
theorem StepX.setCell {X : Nat → Prop} (A : World) (p : Addr) (v : Value) (hl : X p.block) : StepX X A (A.setCell p v) :=
  ⟨rfl, rfl, rfl, by simp [World.setCell], fun b _ hn => Below.heap_setCell A p v b (fun e => hn (by rw [e]; exact hl))⟩
theorem StepX.below {X : Nat → Prop} {A B : World} (h : StepX X A B) {n₀ : Nat} (hn : n₀ ≤ A.heap.size) (hx : ∀ b, X b → n₀ ≤ b) : Below n₀ A B :=
  ⟨h.os, h.tape, h.output, h.size, fun b hb => h.block b (by omega) (fun hX => by have := hx b hX; omega)⟩
theorem KeepX.refl (X : Nat → Prop) (W : World) : KeepX X W W := ⟨Nat.le_refl _, fun _ _ _ => rfl⟩
theorem KeepX.trans {X : Nat → Prop} {A B C : World} (h : KeepX X A B) (k : KeepX X B C) : KeepX X A C :=
  ⟨Nat.le_trans h.size k.size, fun b hb hx => (k.block b (Nat.lt_of_lt_of_le hb h.size) hx).trans (h.block b hb hx)⟩
theorem KeepX.of_below {X : Nat → Prop} {A B : World} (h : Below A.heap.size A B) : KeepX X A B := ⟨h.size, fun b hb _ => h.block b hb⟩
theorem KeepX.mono {X Y : Nat → Prop} {A B : World} (h : KeepX X A B) (hy : ∀ b, b < A.heap.size → Y b → X b) : KeepX Y A B := ⟨h.size, fun b hb h' => h.block b hb (hy b hb h')⟩
theorem KeepX.drewN {X : Nat → Prop} {A B : World} (h : KeepX X A B) (k : Nat) : KeepX X A (B.drewN k) := ⟨h.size, h.block⟩
theorem KeepX.gb {X : Nat → Prop} {A B : World} {row : Option Nat} (h : A.grownBy B row) (hr : ∀ r, row = some r → ¬ X r) : KeepX X A B :=
  ⟨h.size, fun b hb hx => h.block b hb (fun e => hr b e.symm hx)⟩
theorem KeepX.setCell {X : Nat → Prop} (A : World) (p : Addr) (v : Value) (hl : ¬ X p.block) : KeepX X A (A.setCell p v) :=
  ⟨by simp [World.setCell], fun b _ hx => Below.heap_setCell A p v b (fun e => hl (by rw [← e]; exact hx))⟩
theorem KeepX.putObj {X : Nat → Prop} (A : World) (l : Nat) (o : Obj) (hl : ¬ X l) : KeepX X A (A.putObj l o) := KeepX.gb (grownBy_putObj' A l o) (fun r e => by cases e; exact hl)

/-- what is said by a caller, of a set of the iterator's blocks, abides the turn of these -/
def Fr {β : Type} (J : (Nat → Prop) → β → World → Prop) : Prop :=
  ∀ (X X' : Nat → Prop) (s : β) (W W' : World), J X s W → StepX X W W' → (∀ b, X' b → X b ∨ (W.heap.size ≤ b ∧ b < W'.heap.size)) → J X' s W'
theorem Fr.step {β : Type} {J : (Nat → Prop) → β → World → Prop} (h : Fr J) {X : Nat → Prop} {s : β} {W W' : World} (hs : J X s W) (hst : StepX X W W') : J X s W' := h X X s W W' hs hst (fun _ hb => .inl hb)
theorem Fr.and {β : Type} {J J' : (Nat → Prop) → β → World → Prop} (h : Fr J) (h' : Fr J') : Fr (fun X s W => J X s W ∧ J' X s W) := fun X X' s W W' hs st hx => ⟨h X X' s W W' hs.1 st hx, h' X X' s W W' hs.2 st hx⟩
theorem Fr.pure {β : Type} (p : β → Prop) : Fr (fun _ (s : β) _ => p s) := fun _ _ _ _ _ hs _ _ => hs
theorem Fr.boxed {β : Type} (B : Nat) (t : TypeId) (f : β → Value) : Fr (fun X s W => Boxed W B t (f s) ∧ ¬ X B) := fun X X' s W W' hs st hx =>
  ⟨(st.block B hs.1.lt hs.2).trans hs.1, fun h => (hx B h).elim hs.2 (fun h => by have := hs.1.lt; omega)⟩
theorem ownsRow_stepX {X : Nat → Prop} {W W' : World} {base : Nat} {e : TypeId} {size : Nat} {v : Value} {k : Nat} {xs : List Value} (h : W.ownsRow base e size v k xs) (st : StepX X W W') (hx : ∀ g, v.ownBlock = some g → ¬ X g) : W'.ownsRow base e size v k xs := by
  refine ⟨h.1, ?_⟩
  rcases h.2 with hn | ⟨g, cap, cur, rfl, hb, hh, hr⟩
  · exact .inl hn
  · refine .inr ⟨g, cap, cur, rfl, hb, ?_, hr⟩
    exact (st.block g (Array.getElem?_eq_some_iff.1 hh).1 (hx g rfl)).trans hh
theorem Fr.row {β : Type} (B : Nat) (t : TypeId) (base : Nat) (e : TypeId) (size : Nat) (n : β → Nat) (xs : β → List Value) (p : β → Prop) :
    Fr (fun X s W => ∃ v, (Boxed W B t v ∧ ¬ X B) ∧ W.ownsRow base e size v (n s) (xs s) ∧ (∀ g, v.ownBlock = some g → ¬ X g) ∧ p s) := fun X X' s W W' ⟨v, hb, hr, hg, hp⟩ st hx =>
  ⟨v, Fr.boxed (β := Unit) B t (fun _ => v) X X' () W W' hb st hx, ownsRow_stepX hr st hg, fun g e h => by
    rcases hx g h with h | h
    · exact hg g e h
    · have := (hr.lt g e).2; omega, hp⟩
theorem Fr.below {β : Type} {n₀ : Nat} {w₀ : World} (hn : n₀ ≤ w₀.heap.size) : Fr (fun X (_ : β) W => Below n₀ w₀ W ∧ ∀ b, X b → n₀ ≤ b) := fun X X' s W W' hs st hx =>
  ⟨hs.1.trans (st.below (Nat.le_trans hn hs.1.size) hs.2), fun b h => (hx b h).elim (hs.2 b) (fun h => Nat.le_trans (Nat.le_trans hn hs.1.size) h.1)⟩
/-- the iterator's blocks lie in the heap -/
theorem Fr.bd {β : Type} : Fr (fun X (_ : β) W => ∀ b, X b → b < W.heap.size) := fun X X' s W W' hs st hx b h => (hx b h).elim (fun h => Nat.lt_of_lt_of_le (hs b h) st.size) (fun h => h.2)

def SeqG {α : Type} (F : Fence) (n : Nat) (P : Program) (g : Nat) (lb : Array Value) (encs : α → Array Value) (K : Nat → Prop) (S Sp : List α → Prop) (Ok : List α → α → Prop) (w : World) : Prop :=
  ∀ (l : Nat) (J Jx : (Nat → Prop) → List α → World → Prop) (W : World), Below w.heap.size w W → Fr J → Fr Jx →
    (∀ X pre x W1, J X pre W1 → Ok pre x → YieldAt F (n - 1) P l (encs x) W1 fun e W' =>
      KeepX X W1 W' ∧ KeepX K W1 W' ∧ ((e = .returned (.bool true) ∧ J X (pre ++ [x]) W') ∨ (e = .returned (.bool false) ∧ Jx X (pre ++ [x]) W'))) →
    J (fun _ => False) [] W →
    CallsIn F n P g (#[.func (.yield l) #[] #[]] ++ lb) W fun e W' => (∃ v, e = .returned v) ∧ ((∃ xs X, S xs ∧ J X xs W') ∨ (∃ pre X, Sp pre ∧ Jx X pre W'))
/-- a round is owed where so many have been told -/
def SeqX {α : Type} (F : Fence) (n : Nat) (P : Program) (g : Nat) (lb : Array Value) (encs : α → Array Value) (K : Nat → Prop) (S Sp : List α → Prop) (N : Nat) (w : World) : Prop := SeqG F n P g lb encs K S Sp (fun pre _ => pre.length < N) w

/-- how the body of a round may be left -/
def ownPostX {α : Type} (K : Nat → Prop) (I : (Nat → Prop) → List α → World → Prop) (Ix : Code → (Nat → Prop) → List α → World → Prop) (X : Nat → Prop) (xs : List α) (W : World) : Exit → Act → World → Prop
  | .normal, _, W' => KeepX X W W' ∧ KeepX K W W' ∧ I X xs W'
  | .ret, _, W' => KeepX X W W' ∧ KeepX K W W' ∧ Ix .ret X xs W'
  | .exit id, _, W' => KeepX X W W' ∧ KeepX K W W' ∧ Ix (.exit id) X xs W'
  | .goto t, _, W' => KeepX X W W' ∧ KeepX K W W' ∧ Ix (.goto t) X xs W'
  | .panic _, _, _ => False
  | .outgrown, _, _ => False

theorem wpIn_rangeFunc_G {F : Fence} {n : Nat} {P : Program} {α : Type} {g : Operand} {ps : Array Tmp} {assign body : Code} {Q : Exit → Act → World → Prop} {a : Act} {w : World}
    (hro : F.round = none) (h1 : 1 ≤ n) {gf : Nat} {lb : Array Value} (hg : a.eval g = .func (.func gf) #[] lb) (hFg : F.fn gf) (eg : ∀ args w, (callFunc gf args).run P w = .ok (.enter gf args) w)
    {encs : α → Array Value} {K : Nat → Prop} {S Sp : List α → Prop} {Ok : List α → α → Prop} {w0 : World} (hseq : SeqG F (n - 1) P gf lb encs K S Sp Ok w0) (hK : ∀ b, K b → b < w.heap.size) (hb0 : Below w0.heap.size w0 w) (hps : ∀ x, (encs x).size = ps.size)
    (I : (Nat → Prop) → List α → World → Prop) (Ix : Code → (Nat → Prop) → List α → World → Prop) (hI : Fr I) (hIx : ∀ c, Fr (Ix c)) (h0 : I (fun _ => False) [] w) (a₁ : α → Act)
    (hassign : ∀ (l : Nat) (x : α) (W : World) (G : Act → World → Prop), G (a₁ x) W →
      assign.wpIn (F.inRound l) (n - 1 - 1) P (Exit.then G (fun _ _ _ => False)) { tmps := (ps.zip (encs x)).foldl (fun t (p, v) => t.setIfInBounds p v) a.tmps, defers := [] } W)
    (hbody : ∀ (l : Nat) (X : Nat → Prop) (pre : List α) (x : α) (W : World), (∃ r, W.heap[l]? = some (.loop r)) → X l → I X pre W → Ok pre x → body.wpIn (F.inRound l) (n - 1 - 1) P (ownPostX K I Ix X (pre ++ [x]) W) (a₁ x) W)
    (hdone : ∀ (D : Nat) (X : Nat → Prop) (xs : List α) (W : World), w.heap.size ≤ D → X D → S xs → I X xs W → W.heap[D]? = some (.deferred (some [])) → Q .normal { a with defers := { target := .collected D, args := #[] } :: a.defers } W)
    (hstop : ∀ (D : Nat) (X : Nat → Prop) (c : Code) (pre : List α) (W : World), w.heap.size ≤ D → X D → Sp pre → Ix c X pre W → W.heap[D]? = some (.deferred (some [])) → c.wpIn F n P Q { a with defers := { target := .collected D, args := #[] } :: a.defers } W) :
    (Code.rangeFunc g ps assign body).wpIn F n P Q a w := by
  refine wpIn_rangeFunc ?_
  intro fn hfn
  rw [hro]
  obtain ⟨rec, hrec⟩ : ∃ rec : LoopState → Option Code → Loop, rec = fun st pe => { state := st, pending := pe, fn, tmps := a.tmps, params := ps, assign, body, defers := w.heap.size } := ⟨_, rfl⟩
  obtain ⟨W1, hW1⟩ : ∃ W1, (w.alloc (.deferred (some []))).alloc (.loop (rec .ready none)) = W1 := ⟨_, rfl⟩
  have hL1 : W1.heap[w.heap.size + 1]? = some (.loop (rec .ready none)) := by
    rw [← hW1]; have := World.alloc_heap_new (w.alloc (.deferred (some []))) (.loop (rec .ready none)); rwa [World.size_alloc] at this
  have hK1 : W1.heap[w.heap.size]? = some (.deferred (some [])) := by
    rw [← hW1]; exact (Below.heap_alloc _ _ _ (by simp)).trans (World.alloc_heap_new w _)
  have hbw : Below w.heap.size w W1 := by rw [← hW1]; exact (((Below.refl _ w).alloc (Nat.le_refl _) _).alloc (by simp) _)
  have hb1 : Below w0.heap.size w0 W1 := hb0.trans (hbw.mono hb0.size)
  -- the set of the iterator's blocks, and the two of the loop's book-keeping
  obtain ⟨up, hup⟩ : ∃ up : (Nat → Prop) → Nat → Prop, up = fun X b => X b ∨ b = w.heap.size ∨ b = w.heap.size + 1 := ⟨_, rfl⟩
  have hu1 : ∀ X, up X w.heap.size := fun X => by rw [hup]; exact .inr (.inl rfl)
  have hu2 : ∀ X, up X (w.heap.size + 1) := fun X => by rw [hup]; exact .inr (.inr rfl)
  have hu0 : ∀ X b, X b → up X b := fun X b h => by rw [hup]; exact .inl h
  have hI1 : I (up fun _ => False) [] W1 := hI _ _ _ _ _ h0 (StepX.of_below hbw) (fun b hb => by rw [hup] at hb; have := (Array.getElem?_eq_some_iff.1 hL1).1; rcases hb with h | h | h; exact h.elim; all_goals exact .inr (by omega))
  have hfr : ∀ {J : (Nat → Prop) → List α → World → Prop}, Fr J → ∀ {X X' : Nat → Prop} {s : List α} {A B : World}, J (up X) s A → StepX X A B → (∀ b, X' b → X b ∨ (A.heap.size ≤ b ∧ b < B.heap.size)) → J (up X') s B := fun {J} hJ {X X' s A B} hs st hx =>
    hJ _ _ _ _ _ hs (st.mono fun b _ h => hu0 X b h) (fun b hb => by
      rw [hup] at hb
      rcases hb with h | h | h
      · exact (hx b h).imp (hu0 X b) id
      · rw [h]; exact .inl (hu1 X)
      · rw [h]; exact .inl (hu2 X))
  have hbk : ∀ {X X' : Nat → Prop} {A B : World} {k : Nat} {o : Obj}, StepX X A B → (∀ b, X' b → X b ∨ (A.heap.size ≤ b ∧ b < B.heap.size)) → ¬ X k → A.heap[k]? = some o → B.heap[k]? = some o ∧ ¬ X' k := fun {X X' A B k o} st hx hn ho => by
    have hlt := (Array.getElem?_eq_some_iff.1 ho).1
    exact ⟨(st.block k hlt hn).trans ho, fun h => by rcases hx k h with h | h; exact hn h; omega⟩
  refine ⟨w.heap.size + 1, [{ target := .collected w.heap.size, args := #[] }], W1, { target := .fn (.func gf) lb, args := #[.func (.yield (w.heap.size + 1)) #[] #[]] }, W1, gf,
    #[.func (.yield (w.heap.size + 1)) #[] #[]] ++ lb, W1, ?_, ?_, ?_, ?_, fun _ => h1, ?_⟩
  · rw [← hW1, hrec]; exact run_enterLoop_outer _ _ _ _ _
  · simp only [resolve, hg]
    simp [go_sem]
  · intro f' hf'; simp [Target.leads] at hf'; subst hf'; exact hFg
  · simp [invoke, go_sem, eg]
  · refine (hseq (w.heap.size + 1)
      (fun X pre W => I (up X) pre W ∧ (W.heap[w.heap.size + 1]? = some (.loop (rec .ready none)) ∧ ¬ X (w.heap.size + 1)) ∧ (W.heap[w.heap.size]? = some (.deferred (some [])) ∧ ¬ X w.heap.size))
      (fun X pre W => ∃ c, Ix c (up X) pre W ∧ (W.heap[w.heap.size + 1]? = some (.loop (rec .done (some c))) ∧ ¬ X (w.heap.size + 1)) ∧ (W.heap[w.heap.size]? = some (.deferred (some [])) ∧ ¬ X w.heap.size))
      W1 hb1
      (fun X X' s A B hs st hx => ⟨hfr hI hs.1 st hx, hbk st hx hs.2.1.2 hs.2.1.1, hbk st hx hs.2.2.2 hs.2.2.1⟩)
      (fun X X' s A B hs st hx => by
        obtain ⟨c, hc, hl, hk⟩ := hs
        exact ⟨c, hfr (hIx c) hc st hx, hbk st hx hl.2 hl.1, hbk st hx hk.2 hk.1⟩)
      ?_ ⟨hI1, ⟨hL1, fun h => h⟩, ⟨hK1, fun h => h⟩⟩).mono ?_
    · -- one round
      rintro X pre x W ⟨hi, ⟨hl, nl⟩, ⟨hk, nk⟩⟩ hlen
      have hlt : w.heap.size + 1 < W.heap.size := (Array.getElem?_eq_some_iff.1 hl).1
      have hy := run_yield (P := P) (args := encs x) hl (by rw [hrec]; exact hps x)
      rw [hrec] at hy
      refine ⟨fn, _, assign, body, hy, roundIn_of_wpIn hfn (hassign _ x W _ ⟨_, run_beginRound hl (by rw [hrec]), ?_⟩)⟩
      have hl2 : (W.putObj (w.heap.size + 1) (.loop { rec .ready none with state := .busy })).heap[w.heap.size + 1]? = some (.loop { rec .ready none with state := .busy }) := World.putObj_heap_same hlt
      have hk2 : (W.putObj (w.heap.size + 1) (.loop { rec .ready none with state := .busy })).heap[w.heap.size]? = some (.deferred (some [])) := (World.putObj_heap_other (by omega)).trans hk
      have hx2 : KeepX X W (W.putObj (w.heap.size + 1) (.loop { rec .ready none with state := .busy })) := KeepX.putObj _ _ _ nl
      have hq2 : KeepX K W (W.putObj (w.heap.size + 1) (.loop { rec .ready none with state := .busy })) := KeepX.putObj _ _ _ (fun h => by have := hK _ h; omega)
      refine wpIn_mono (hbody _ (up X) pre x _ ⟨_, hl2⟩ (hu2 X) (hI.step hi (StepX.putObj _ _ _ (hu2 X))) hlen) ?_
      have fin : ∀ (jump : Option Code) (W3 : World), KeepX (up X) (W.putObj (w.heap.size + 1) (.loop { rec .ready none with state := .busy })) W3 → KeepX K (W.putObj (w.heap.size + 1) (.loop { rec .ready none with state := .busy })) W3 →
          (Instr.endRound (w.heap.size + 1) jump).run P W3 = .ok (.bool jump.isNone) (W3.putObj (w.heap.size + 1) (.loop (rec (if jump.isNone then .ready else .done) jump))) ∧
          (W3.putObj (w.heap.size + 1) (.loop (rec (if jump.isNone then .ready else .done) jump))).heap[w.heap.size + 1]? = some (.loop (rec (if jump.isNone then .ready else .done) jump)) ∧
          (W3.putObj (w.heap.size + 1) (.loop (rec (if jump.isNone then .ready else .done) jump))).heap[w.heap.size]? = some (.deferred (some [])) ∧
          KeepX X W (W3.putObj (w.heap.size + 1) (.loop (rec (if jump.isNone then .ready else .done) jump))) ∧ KeepX K W (W3.putObj (w.heap.size + 1) (.loop (rec (if jump.isNone then .ready else .done) jump))) := fun jump W3 hk3 hq3 => by
        have hl3 := (hk3.block _ (by simpa using hlt) (hu2 X)).trans hl2
        have hd3 := (hk3.block _ (by simp; omega) (hu1 X)).trans hk2
        have := run_endRound (P := P) jump hl3
        rw [hrec] at this ⊢
        exact ⟨this, World.putObj_heap_same (Array.getElem?_eq_some_iff.1 hl3).1, (World.putObj_heap_other (by omega)).trans hd3,
          (hx2.trans (hk3.mono fun b _ h => hu0 X b h)).trans (KeepX.putObj _ _ _ nl), (hq2.trans hq3).trans (KeepX.putObj _ _ _ (fun h => by have := hK _ h; omega))⟩
      rintro e a3 W3 hp
      cases e with
      | normal =>
        obtain ⟨hk3, hq3, hi3⟩ := hp
        obtain ⟨hr, hl4, hk4, hx4, hq4⟩ := fin none W3 hk3 hq3
        exact ⟨_, _, hr, hx4, hq4, .inl ⟨rfl, hI.step hi3 (StepX.putObj _ _ _ (hu2 X)), ⟨hl4, nl⟩, ⟨hk4, nk⟩⟩⟩
      | ret =>
        obtain ⟨hk3, hq3, hi3⟩ := hp
        obtain ⟨hr, hl4, hk4, hx4, hq4⟩ := fin (some .ret) W3 hk3 hq3
        exact ⟨_, _, hr, hx4, hq4, .inr ⟨rfl, .ret, (hIx _).step hi3 (StepX.putObj _ _ _ (hu2 X)), ⟨hl4, nl⟩, ⟨hk4, nk⟩⟩⟩
      | exit id =>
        obtain ⟨hk3, hq3, hi3⟩ := hp
        obtain ⟨hr, hl4, hk4, hx4, hq4⟩ := fin (some (.exit id)) W3 hk3 hq3
        exact ⟨_, _, hr, hx4, hq4, .inr ⟨rfl, .exit id, (hIx _).step hi3 (StepX.putObj _ _ _ (hu2 X)), ⟨hl4, nl⟩, ⟨hk4, nk⟩⟩⟩
      | goto t =>
        obtain ⟨hk3, hq3, hi3⟩ := hp
        obtain ⟨hr, hl4, hk4, hx4, hq4⟩ := fin (some (.goto t)) W3 hk3 hq3
        exact ⟨_, _, hr, hx4, hq4, .inr ⟨rfl, .goto t, (hIx _).step hi3 (StepX.putObj _ _ _ (hu2 X)), ⟨hl4, nl⟩, ⟨hk4, nk⟩⟩⟩
      | panic ch => exact hp.elim
      | outgrown => exact hp.elim
    · -- behind the iterator
      rintro e W2 ⟨⟨v, rfl⟩, (⟨xs, X, hS, hi, ⟨hl, _⟩, ⟨hk, _⟩⟩ | ⟨pre, X, hSp, c, hi, ⟨hl, _⟩, ⟨hk, _⟩⟩)⟩
      · exact ⟨none, _, by have := run_endLoop (P := P) hl (by rw [hrec]; simp); rw [hrec] at this; exact this, hdone _ (up X) xs _ (Nat.le_refl _) (hu1 X) hS (hI.step hi (StepX.putObj _ _ _ (hu2 X))) ((World.putObj_heap_other (by omega)).trans hk)⟩
      · exact ⟨some c, _, by have := run_endLoop (P := P) hl (by rw [hrec]; simp); rw [hrec] at this; exact this, hstop _ (up X) c pre _ (Nat.le_refl _) (hu1 X) hSp ((hIx c).step hi (StepX.putObj _ _ _ (hu2 X))) ((World.putObj_heap_other (by omega)).trans hk)⟩
theorem wpIn_rangeFunc_X {F : Fence} {n : Nat} {P : Program} {α : Type} {g : Operand} {ps : Array Tmp} {assign body : Code} {Q : Exit → Act → World → Prop} {a : Act} {w : World}
    (hro : F.round = none) (h1 : 1 ≤ n) {gf : Nat} {lb : Array Value} (hg : a.eval g = .func (.func gf) #[] lb) (hFg : F.fn gf) (eg : ∀ args w, (callFunc gf args).run P w = .ok (.enter gf args) w)
    {encs : α → Array Value} {K : Nat → Prop} {S Sp : List α → Prop} {N : Nat} {w0 : World} (hseq : SeqX F (n - 1) P gf lb encs K S Sp N w0) (hK : ∀ b, K b → b < w.heap.size) (hb0 : Below w0.heap.size w0 w) (hps : ∀ x, (encs x).size = ps.size)
    (I : (Nat → Prop) → List α → World → Prop) (Ix : Code → (Nat → Prop) → List α → World → Prop) (hI : Fr I) (hIx : ∀ c, Fr (Ix c)) (h0 : I (fun _ => False) [] w) (a₁ : α → Act)
    (hassign : ∀ (l : Nat) (x : α) (W : World) (G : Act → World → Prop), G (a₁ x) W →
      assign.wpIn (F.inRound l) (n - 1 - 1) P (Exit.then G (fun _ _ _ => False)) { tmps := (ps.zip (encs x)).foldl (fun t (p, v) => t.setIfInBounds p v) a.tmps, defers := [] } W)
    (hbody : ∀ (l : Nat) (X : Nat → Prop) (pre : List α) (x : α) (W : World), (∃ r, W.heap[l]? = some (.loop r)) → X l → I X pre W → pre.length < N → body.wpIn (F.inRound l) (n - 1 - 1) P (ownPostX K I Ix X (pre ++ [x]) W) (a₁ x) W)
    (hdone : ∀ (D : Nat) (X : Nat → Prop) (xs : List α) (W : World), w.heap.size ≤ D → X D → S xs → I X xs W → W.heap[D]? = some (.deferred (some [])) → Q .normal { a with defers := { target := .collected D, args := #[] } :: a.defers } W)
    (hstop : ∀ (D : Nat) (X : Nat → Prop) (c : Code) (pre : List α) (W : World), w.heap.size ≤ D → X D → Sp pre → Ix c X pre W → W.heap[D]? = some (.deferred (some [])) → c.wpIn F n P Q { a with defers := { target := .collected D, args := #[] } :: a.defers } W) :
    (Code.rangeFunc g ps assign body).wpIn F n P Q a w :=
  wpIn_rangeFunc_G hro h1 hg hFg eg hseq hK hb0 hps I Ix hI hIx h0 a₁ hassign hbody hdone hstop
/-- a boxed slice, appended to and stored back, within a round of an iterator whose blocks are X -/
theorem boxed_appX {X : Nat → Prop} {W w1 : World} {r0 B : Nat} {t e : TypeId} {size : Nat} {v v' : Value} {k m : Nat} {xs ys : List Value} {tmp : Obj}
    (hv : Boxed W B t v ∧ ¬ X B) (hrow : W.ownsRow r0 e size v k xs) (hg : ∀ g, v.ownBlock = some g → ¬ X g) (hbd : ∀ b, X b → b < W.heap.size) (hr0 : r0 ≤ W.heap.size) (hB : B < r0)
    (hown' : w1.ownsRow r0 e size v' m ys) (hgrow : (W.alloc tmp).grownBy w1 v.ownBlock) (hat : v'.ownBlock = v.ownBlock ∨ v'.ownBlock = some (W.alloc tmp).heap.size) :
    Boxed w1 B t v ∧ (Boxed (w1.setCell ⟨B, 0, none⟩ v') B t v' ∧ ¬ X B) ∧ (w1.setCell ⟨B, 0, none⟩ v').ownsRow r0 e size v' m ys ∧ (∀ g, v'.ownBlock = some g → ¬ X g) ∧ KeepX X W (w1.setCell ⟨B, 0, none⟩ v') ∧
      (∀ b, b < r0 → b ≠ B → (w1.setCell ⟨B, 0, none⟩ v').heap[b]? = W.heap[b]?) ∧ (∀ n0, n0 ≤ B → Below n0 W (w1.setCell ⟨B, 0, none⟩ v')) ∧ W.heap.size ≤ (w1.setCell ⟨B, 0, none⟩ v').heap.size := by
  have hlt := hrow.lt
  have hlt' := hown'.lt
  have hsz : W.heap.size + 1 ≤ w1.heap.size := by have := hgrow.size; rw [World.size_alloc] at this; exact this
  have hsz2 : (w1.setCell ⟨B, 0, none⟩ v').heap.size = w1.heap.size := by simp [World.setCell]
  have hne : some B ≠ v.ownBlock := fun h => by have := (hlt B h.symm).1; omega
  have hv1 : Boxed w1 B t v := (hv.1.alloc tmp).kept hgrow hne
  have hblk : ∀ b, b < W.heap.size → b ≠ B → some b ≠ v.ownBlock → (w1.setCell ⟨B, 0, none⟩ v').heap[b]? = W.heap[b]? := fun b hb hbB hbo => by
    rw [Below.heap_setCell w1 ⟨B, 0, none⟩ v' b hbB, hgrow.block b (by rw [World.size_alloc]; omega) hbo, Below.heap_alloc W tmp b hb]
  have hlow : ∀ b, b < r0 → some b ≠ v.ownBlock := fun b hb h => by have := (hlt b h.symm).1; omega
  refine ⟨hv1, ⟨hv1.set v', hv.2⟩, hown'.kept (grownBy_setCell' w1 B v') (.inr (fun h => by have := (hlt' B h).1; omega)), fun g hg' => ?_, ⟨by omega, fun b hb hx => ?_⟩, fun b hb hbB => hblk b (by omega) hbB (hlow b hb), fun n0 hn0 => ⟨hgrow.os, hgrow.tape, hgrow.output, by omega, fun b hb => hblk b (by omega) (by omega) (hlow b (by omega))⟩, by omega⟩
  · rcases hat with h | h
    · rw [h] at hg'; exact hg g hg'
    · rw [h] at hg'
      have := Option.some.inj hg'
      rw [World.size_alloc] at this
      exact fun hx => by have := hbd g hx; omega
  · exact hblk b hb (fun e => hv.2 (by rw [← e]; exact hx)) (fun e => hg b e.symm hx)
theorem roundIn_wide {m n : Nat} {P : Program} {l l0 : Nat} {f : FuncId} {tmps : Array Value} {assign body : Code} {w : World} {R : Ending → World → Prop} (h : RoundIn Fence.wide n P l f tmps assign body w R) : RoundIn (Fence.wide.inRound l0) m P l f tmps assign body w R :=
  ⟨h.1, fun c cs _ => h.2 c cs (fun d hd => by cases hd)⟩
theorem roundIn_any {m n : Nat} {P : Program} {l : Nat} {f : FuncId} {tmps : Array Value} {assign body : Code} {w : World} {R : Ending → World → Prop} (h : RoundIn Fence.wide n P l f tmps assign body w R) : RoundIn Fence.wide m P l f tmps assign body w R :=
  ⟨h.1, fun c cs _ => h.2 c cs (fun d hd => by cases hd)⟩
/-- the caller's word, of a set that grows by the iterator's -/
theorem Fr.or {β γ : Type} {J : (Nat → Prop) → β → World → Prop} (h : Fr J) (X1 : Nat → Prop) (f : γ → β) : Fr (fun Xi (s : γ) W => J (fun b => X1 b ∨ Xi b) (f s) W) := fun X X' s W W' hs st hx =>
  h _ _ _ _ _ hs (st.mono fun b _ hb => .inr hb) (fun b hb => by
    rcases hb with hb | hb
    · exact .inl (.inl hb)
    · exact (hx b hb).imp .inr id)
/-- what lay when the iterator began, and is none of its blocks, abides -/
theorem Fr.keep {β : Type} (Y : Nat → Prop) (w₀ : World) : Fr (fun X (_ : β) W => KeepX Y w₀ W ∧ ∀ b, X b → w₀.heap.size ≤ b) := fun X X' s W W' hs st hx =>
  ⟨⟨Nat.le_trans hs.1.size st.size, fun b hb hy => (st.block b (Nat.lt_of_lt_of_le hb hs.1.size) (fun h => by have := hs.2 b h; omega)).trans (hs.1.block b hb hy)⟩,
   fun b h => (hx b h).elim (fun h => hs.2 b h) (fun h => Nat.le_trans hs.1.size h.1)⟩
/-- the marks of loops that are through are taken in -/
theorem leaves_marks {F : Fence} {n : Nat} {P : Program} {fn : Func} {tmps : Array Value} {R : Ending → World → Prop} (X : Nat → Prop) (G : World → Prop) (hG : ∀ W W', G W → StepX X W W' → G W')
    (hend : ∀ W, G W → LeavesInM F n P fn tmps R [] .returning W) : ∀ (Ms : List Nat) (W : World), Ms.Nodup → (∀ D ∈ Ms, X D ∧ W.heap[D]? = some (.deferred (some []))) → G W →
    LeavesInM F n P fn tmps R (Ms.map fun D => ({ target := .collected D, args := #[] } : Deferred)) .returning W
  | [], W, _, _, hg => hend W hg
  | D :: Ms, W, hn, hd, hg => by
    obtain ⟨hx, hk⟩ := hd D (by simp)
    obtain ⟨hn1, hn2⟩ := List.nodup_cons.1 hn
    refine ⟨by simp, .inl ⟨D, _, rfl, run_takeDeferred hk, ?_⟩⟩
    refine leaves_marks X G hG hend Ms _ hn2 (fun E hE => ⟨(hd E (by simp [hE])).1, ?_⟩) (hG _ _ hg (StepX.putObj _ _ _ hx))
    exact (World.putObj_heap_other (fun e => hn1 (by rw [← e]; exact hE))).trans (hd E (by simp [hE])).2
abbrev mkD (D : Nat) : Deferred := { target := .collected D, args := #[] }
end Go.Proofs.YtdcobmoeligdkaaGreatDoor
