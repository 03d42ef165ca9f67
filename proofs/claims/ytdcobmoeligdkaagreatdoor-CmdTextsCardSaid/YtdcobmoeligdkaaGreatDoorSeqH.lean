/-
  The contract of an iterator that turns blocks which lay before it began (a captured variable that it assigns to): X0 are these.
-/
import Derived.Test.YtdcobmoeligdkaaGreatDoorSeqX
namespace Go.Proofs.YtdcobmoeligdkaaGreatDoor
open Go.RowKit

def SeqH {α : Type} (F : Fence) (n : Nat) (P : Program) (g : Nat) (lb : Array Value) (encs : α → Array Value) (X0 K : Nat → Prop) (S Sp : List α → Prop) (Ok : List α → α → Prop) (w : World) : Prop :=
  ∀ (l : Nat) (J Jx : (Nat → Prop) → List α → World → Prop) (W : World), Below w.heap.size w W → Fr J → Fr Jx →
    (∀ X pre x W1, J X pre W1 → Ok pre x → YieldAt F (n - 1) P l (encs x) W1 fun e W' =>
      KeepX X W1 W' ∧ KeepX K W1 W' ∧ ((e = .returned (.bool true) ∧ J X (pre ++ [x]) W') ∨ (e = .returned (.bool false) ∧ Jx X (pre ++ [x]) W'))) →
    J X0 [] W →
    CallsIn F n P g (#[.func (.yield l) #[] #[]] ++ lb) W fun e W' => (∃ v, e = .returned v) ∧ ((∃ xs X, S xs ∧ J X xs W') ∨ (∃ pre X, Sp pre ∧ Jx X pre W'))
theorem wpIn_rangeFunc_H {F : Fence} {n : Nat} {P : Program} {α : Type} {g : Operand} {ps : Array Tmp} {assign body : Code} {Q : Exit → Act → World → Prop} {a : Act} {w : World}
    (hro : F.round = none) (h1 : 1 ≤ n) {gf : Nat} {lb : Array Value} (hg : a.eval g = .func (.func gf) #[] lb) (hFg : F.fn gf) (eg : ∀ args w, (callFunc gf args).run P w = .ok (.enter gf args) w)
    {encs : α → Array Value} {X0 K : Nat → Prop} {S Sp : List α → Prop} {Ok : List α → α → Prop} {w0 : World} (hseq : SeqH F (n - 1) P gf lb encs X0 K S Sp Ok w0) (hX0 : ∀ b, X0 b → b < w.heap.size) (hK : ∀ b, K b → b < w.heap.size) (hb0 : Below w0.heap.size w0 w) (hps : ∀ x, (encs x).size = ps.size)
    (I : (Nat → Prop) → List α → World → Prop) (Ix : Code → (Nat → Prop) → List α → World → Prop) (hI : Fr I) (hIx : ∀ c, Fr (Ix c)) (h0 : I X0 [] w) (a₁ : α → Act)
    (hassign : ∀ (l : Nat) (x : α) (W : World) (G : Act → World → Prop), G (a₁ x) W →
      assign.wpIn (F.inRound l) (n - 1 - 1) P (Exit.then G (fun _ _ _ => False)) { tmps := (ps.zip (encs x)).foldl (fun t (p, v) => t.setIfInBounds p v) a.tmps, defers := [] } W)
    (hbody : ∀ (l : Nat) (X : Nat → Prop) (pre : List α) (x : α) (W : World), (∃ r, W.heap[l]? = some (.loop r)) → X l → I X pre W → Ok pre x → body.wpIn (F.inRound l) (n - 1 - 1) P (ownPostX K I Ix X (pre ++ [x]) W) (a₁ x) W)
    (hdone : ∀ (D : Nat) (X : Nat → Prop) (xs : List α) (W : World), w.heap.size ≤ D → X D → S xs → I X xs W → W.heap[D]? = some (.deferred (some [])) → Q .normal { a with defers := { target := .collected D, args := #[] } :: a.defers } W)
    (hstop : ∀ (D : Nat) (X : Nat → Prop) (c : Code) (pre : List α) (W : World), w.heap.size ≤ D → X D → Sp pre → Ix c X pre W → W.heap[D]? = some (.deferred (some [])) → c.wpIn F n P Q { a with defers := { target := .collected D, args := #[] } :: a.defers } W) :
    (Code.rangeFunc g ps assign body).wpIn F n P Q a w := by
  refine wpIn_rangeFunc ?_
  intro fn hfn
  rw [hro]
  obtain ⟨rec, hrec⟩ : ∃ rec : LoopState → Option Code → Loop, rec = fun st pe => { state := st, pending := pe, fn, tmps := a.tmps, params := ps, assign, body, defers := w.heap.size } := ⟨_, rfl⟩
  obtain ⟨W1, hW1⟩ : ∃ W1, (w.alloc (.deferred (some []))).alloc (.loop (rec .ready none)) = W1 := ⟨_, rfl⟩
  have hL1 : W1.heap[w.heap.size + 1]? = some (.loop (rec .ready none)) := by
    rw [← hW1]; have := World.alloc_heap_new (w.alloc (.deferred (some []))) (.loop (rec .ready none)); rwa [World.size_alloc] at this
  have hK1 : W1.heap[w.heap.size]? = some (.deferred (some [])) := by
    rw [← hW1]; exact (Below.heap_alloc _ _ _ (by simp)).trans (World.alloc_heap_new w _)
  have hbw : Below w.heap.size w W1 := by rw [← hW1]; exact (((Below.refl _ w).alloc (Nat.le_refl _) _).alloc (by simp) _)
  have hb1 : Below w0.heap.size w0 W1 := hb0.trans (hbw.mono hb0.size)
  -- the set of the iterator's blocks, and the two of the loop's book-keeping
  obtain ⟨up, hup⟩ : ∃ up : (Nat → Prop) → Nat → Prop, up = fun X b => X b ∨ b = w.heap.size ∨ b = w.heap.size + 1 := ⟨_, rfl⟩
  have hu1 : ∀ X, up X w.heap.size := fun X => by rw [hup]; exact .inr (.inl rfl)
  have hu2 : ∀ X, up X (w.heap.size + 1) := fun X => by rw [hup]; exact .inr (.inr rfl)
  have hu0 : ∀ X b, X b → up X b := fun X b h => by rw [hup]; exact .inl h
  have hI1 : I (up X0) [] W1 := hI _ _ _ _ _ h0 (StepX.of_below hbw) (fun b hb => by rw [hup] at hb; have := (Array.getElem?_eq_some_iff.1 hL1).1; rcases hb with h | h | h; exact .inl h; all_goals exact .inr (by omega))
  have hfr : ∀ {J : (Nat → Prop) → List α → World → Prop}, Fr J → ∀ {X X' : Nat → Prop} {s : List α} {A B : World}, J (up X) s A → StepX X A B → (∀ b, X' b → X b ∨ (A.heap.size ≤ b ∧ b < B.heap.size)) → J (up X') s B := fun {J} hJ {X X' s A B} hs st hx =>
    hJ _ _ _ _ _ hs (st.mono fun b _ h => hu0 X b h) (fun b hb => by
      rw [hup] at hb
      rcases hb with h | h | h
      · exact (hx b h).imp (hu0 X b) id
      · rw [h]; exact .inl (hu1 X)
      · rw [h]; exact .inl (hu2 X))
  have hbk : ∀ {X X' : Nat → Prop} {A B : World} {k : Nat} {o : Obj}, StepX X A B → (∀ b, X' b → X b ∨ (A.heap.size ≤ b ∧ b < B.heap.size)) → ¬ X k → A.heap[k]? = some o → B.heap[k]? = some o ∧ ¬ X' k := fun {X X' A B k o} st hx hn ho => by
    have hlt := (Array.getElem?_eq_some_iff.1 ho).1
    exact ⟨(st.block k hlt hn).trans ho, fun h => by rcases hx k h with h | h; exact hn h; omega⟩
  refine ⟨w.heap.size + 1, [{ target := .collected w.heap.size, args := #[] }], W1, { target := .fn (.func gf) lb, args := #[.func (.yield (w.heap.size + 1)) #[] #[]] }, W1, gf,
    #[.func (.yield (w.heap.size + 1)) #[] #[]] ++ lb, W1, ?_, ?_, ?_, ?_, fun _ => h1, ?_⟩
  · rw [← hW1, hrec]; exact run_enterLoop_outer _ _ _ _ _
  · simp only [resolve, hg]
    simp [go_sem]
  · intro f' hf'; simp [Target.leads] at hf'; subst hf'; exact hFg
  · simp [invoke, go_sem, eg]
  · refine (hseq (w.heap.size + 1)
      (fun X pre W => I (up X) pre W ∧ (W.heap[w.heap.size + 1]? = some (.loop (rec .ready none)) ∧ ¬ X (w.heap.size + 1)) ∧ (W.heap[w.heap.size]? = some (.deferred (some [])) ∧ ¬ X w.heap.size))
      (fun X pre W => ∃ c, Ix c (up X) pre W ∧ (W.heap[w.heap.size + 1]? = some (.loop (rec .done (some c))) ∧ ¬ X (w.heap.size + 1)) ∧ (W.heap[w.heap.size]? = some (.deferred (some [])) ∧ ¬ X w.heap.size))
      W1 hb1
      (fun X X' s A B hs st hx => ⟨hfr hI hs.1 st hx, hbk st hx hs.2.1.2 hs.2.1.1, hbk st hx hs.2.2.2 hs.2.2.1⟩)
      (fun X X' s A B hs st hx => by
        obtain ⟨c, hc, hl, hk⟩ := hs
        exact ⟨c, hfr (hIx c) hc st hx, hbk st hx hl.2 hl.1, hbk st hx hk.2 hk.1⟩)
      ?_ ⟨hI1, ⟨hL1, fun h => by have := hX0 _ h; omega⟩, ⟨hK1, fun h => by have := hX0 _ h; omega⟩⟩).mono ?_
    · -- one round
      rintro X pre x W ⟨hi, ⟨hl, nl⟩, ⟨hk, nk⟩⟩ hlen
      have hlt : w.heap.size + 1 < W.heap.size := (Array.getElem?_eq_some_iff.1 hl).1
      have hy := run_yield (P := P) (args := encs x) hl (by rw [hrec]; exact hps x)
      rw [hrec] at hy
      refine ⟨fn, _, assign, body, hy, roundIn_of_wpIn hfn (hassign _ x W _ ⟨_, run_beginRound hl (by rw [hrec]), ?_⟩)⟩
      have hl2 : (W.putObj (w.heap.size + 1) (.loop { rec .ready none with state := .busy })).heap[w.heap.size + 1]? = some (.loop { rec .ready none with state := .busy }) := World.putObj_heap_same hlt
      have hk2 : (W.putObj (w.heap.size + 1) (.loop { rec .ready none with state := .busy })).heap[w.heap.size]? = some (.deferred (some [])) := (World.putObj_heap_other (by omega)).trans hk
      have hx2 : KeepX X W (W.putObj (w.heap.size + 1) (.loop { rec .ready none with state := .busy })) := KeepX.putObj _ _ _ nl
      have hq2 : KeepX K W (W.putObj (w.heap.size + 1) (.loop { rec .ready none with state := .busy })) := KeepX.putObj _ _ _ (fun h => by have := hK _ h; omega)
      refine wpIn_mono (hbody _ (up X) pre x _ ⟨_, hl2⟩ (hu2 X) (hI.step hi (StepX.putObj _ _ _ (hu2 X))) hlen) ?_
      have fin : ∀ (jump : Option Code) (W3 : World), KeepX (up X) (W.putObj (w.heap.size + 1) (.loop { rec .ready none with state := .busy })) W3 → KeepX K (W.putObj (w.heap.size + 1) (.loop { rec .ready none with state := .busy })) W3 →
          (Instr.endRound (w.heap.size + 1) jump).run P W3 = .ok (.bool jump.isNone) (W3.putObj (w.heap.size + 1) (.loop (rec (if jump.isNone then .ready else .done) jump))) ∧
          (W3.putObj (w.heap.size + 1) (.loop (rec (if jump.isNone then .ready else .done) jump))).heap[w.heap.size + 1]? = some (.loop (rec (if jump.isNone then .ready else .done) jump)) ∧
          (W3.putObj (w.heap.size + 1) (.loop (rec (if jump.isNone then .ready else .done) jump))).heap[w.heap.size]? = some (.deferred (some [])) ∧
          KeepX X W (W3.putObj (w.heap.size + 1) (.loop (rec (if jump.isNone then .ready else .done) jump))) ∧ KeepX K W (W3.putObj (w.heap.size + 1) (.loop (rec (if jump.isNone then .ready else .done) jump))) := fun jump W3 hk3 hq3 => by
        have hl3 := (hk3.block _ (by simpa using hlt) (hu2 X)).trans hl2
        have hd3 := (hk3.block _ (by simp; omega) (hu1 X)).trans hk2
        have := run_endRound (P := P) jump hl3
        rw [hrec] at this ⊢
        exact ⟨this, World.putObj_heap_same (Array.getElem?_eq_some_iff.1 hl3).1, (World.putObj_heap_other (by omega)).trans hd3,
          (hx2.trans (hk3.mono fun b _ h => hu0 X b h)).trans (KeepX.putObj _ _ _ nl), (hq2.trans hq3).trans (KeepX.putObj _ _ _ (fun h => by have := hK _ h; omega))⟩
      rintro e a3 W3 hp
      cases e with
      | normal =>
        obtain ⟨hk3, hq3, hi3⟩ := hp
        obtain ⟨hr, hl4, hk4, hx4, hq4⟩ := fin none W3 hk3 hq3
        exact ⟨_, _, hr, hx4, hq4, .inl ⟨rfl, hI.step hi3 (StepX.putObj _ _ _ (hu2 X)), ⟨hl4, nl⟩, ⟨hk4, nk⟩⟩⟩
      | ret =>
        obtain ⟨hk3, hq3, hi3⟩ := hp
        obtain ⟨hr, hl4, hk4, hx4, hq4⟩ := fin (some .ret) W3 hk3 hq3
        exact ⟨_, _, hr, hx4, hq4, .inr ⟨rfl, .ret, (hIx _).step hi3 (StepX.putObj _ _ _ (hu2 X)), ⟨hl4, nl⟩, ⟨hk4, nk⟩⟩⟩
      | exit id =>
        obtain ⟨hk3, hq3, hi3⟩ := hp
        obtain ⟨hr, hl4, hk4, hx4, hq4⟩ := fin (some (.exit id)) W3 hk3 hq3
        exact ⟨_, _, hr, hx4, hq4, .inr ⟨rfl, .exit id, (hIx _).step hi3 (StepX.putObj _ _ _ (hu2 X)), ⟨hl4, nl⟩, ⟨hk4, nk⟩⟩⟩
      | goto t =>
        obtain ⟨hk3, hq3, hi3⟩ := hp
        obtain ⟨hr, hl4, hk4, hx4, hq4⟩ := fin (some (.goto t)) W3 hk3 hq3
        exact ⟨_, _, hr, hx4, hq4, .inr ⟨rfl, .goto t, (hIx _).step hi3 (StepX.putObj _ _ _ (hu2 X)), ⟨hl4, nl⟩, ⟨hk4, nk⟩⟩⟩
      | panic ch => exact hp.elim
      | outgrown => exact hp.elim
    · -- behind the iterator
      rintro e W2 ⟨⟨v, rfl⟩, (⟨xs, X, hS, hi, ⟨hl, _⟩, ⟨hk, _⟩⟩ | ⟨pre, X, hSp, c, hi, ⟨hl, _⟩, ⟨hk, _⟩⟩)⟩
      · exact ⟨none, _, by have := run_endLoop (P := P) hl (by rw [hrec]; simp); rw [hrec] at this; exact this, hdone _ (up X) xs _ (Nat.le_refl _) (hu1 X) hS (hI.step hi (StepX.putObj _ _ _ (hu2 X))) ((World.putObj_heap_other (by omega)).trans hk)⟩
      · exact ⟨some c, _, by have := run_endLoop (P := P) hl (by rw [hrec]; simp); rw [hrec] at this; exact this, hstop _ (up X) c pre _ (Nat.le_refl _) (hu1 X) hSp ((hIx c).step hi (StepX.putObj _ _ _ (hu2 X))) ((World.putObj_heap_other (by omega)).trans hk)⟩
end Go.Proofs.YtdcobmoeligdkaaGreatDoor
