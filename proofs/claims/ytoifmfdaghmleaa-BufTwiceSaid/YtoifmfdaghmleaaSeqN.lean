/-
  A range over an iterator within a round of another: the caller's law.
-/
import Derived.Test.YtoifmfdaghmleaaSeqX
import Derived.RangeFuncNested
namespace Go.Proofs.Ytoifmfdaghmleaa
open Go.RowKit

theorem wpIn_rangeFunc_GN {F : Fence} {n : Nat} {P : Program} {α : Type} {g : Operand} {ps : Array Tmp} {assign body : Code} {Q : Exit → Act → World → Prop} {a : Act} {w : World}
    {l₀ : Nat} {r₀ : Loop} (hro : F.round = some l₀) (hl₀ : w.heap[l₀]? = some (.loop r₀)) (h1 : 1 ≤ n) {gf : Nat} {lb : Array Value} (hg : a.eval g = .func (.func gf) #[] lb) (hFg : F.fn gf) (eg : ∀ args w, (callFunc gf args).run P w = .ok (.enter gf args) w)
    {encs : α → Array Value} {K : Nat → Prop} {S Sp : List α → Prop} {Ok : List α → α → Prop} {w0 : World} (hseq : SeqG F (n - 1) P gf lb encs K S Sp Ok w0) (hK : ∀ b, K b → b < w.heap.size) (hb0 : Below w0.heap.size w0 w) (hps : ∀ x, (encs x).size = ps.size)
    (I : (Nat → Prop) → List α → World → Prop) (Ix : Code → (Nat → Prop) → List α → World → Prop) (hI : Fr I) (hIx : ∀ c, Fr (Ix c)) (h0 : I (fun _ => False) [] w) (a₁ : α → Act)
    (hassign : ∀ (l : Nat) (x : α) (W : World) (G : Act → World → Prop), G (a₁ x) W →
      assign.wpIn (F.inRound l) (n - 1 - 1) P (Exit.then G (fun _ _ _ => False)) { tmps := (ps.zip (encs x)).foldl (fun t (p, v) => t.setIfInBounds p v) a.tmps, defers := [] } W)
    (hbody : ∀ (l : Nat) (X : Nat → Prop) (pre : List α) (x : α) (W : World), (∃ r, W.heap[l]? = some (.loop r)) → X l → I X pre W → Ok pre x → body.wpIn (F.inRound l) (n - 1 - 1) P (ownPostX K I Ix X (pre ++ [x]) W) (a₁ x) W)
    (hdone : ∀ (X : Nat → Prop) (xs : List α) (W : World), S xs → I X xs W → Q .normal a W)
    (hstop : ∀ (X : Nat → Prop) (c : Code) (pre : List α) (W : World), Sp pre → Ix c X pre W → c.wpIn F n P Q a W) :
    (Code.rangeFunc g ps assign body).wpIn F n P Q a w := by
  refine wpIn_rangeFunc ?_
  intro fn hfn
  rw [hro]
  obtain ⟨rec, hrec⟩ : ∃ rec : LoopState → Option Code → Loop, rec = fun st pe => { state := st, pending := pe, fn, tmps := a.tmps, params := ps, assign, body, defers := r₀.defers } := ⟨_, rfl⟩
  obtain ⟨W1, hW1⟩ : ∃ W1, w.alloc (.loop (rec .ready none)) = W1 := ⟨_, rfl⟩
  have hL1 : W1.heap[w.heap.size]? = some (.loop (rec .ready none)) := by rw [← hW1]; exact World.alloc_heap_new w _
  have hbw : Below w.heap.size w W1 := by rw [← hW1]; exact (Below.refl _ w).alloc (Nat.le_refl _) _
  have hb1 : Below w0.heap.size w0 W1 := hb0.trans (hbw.mono hb0.size)
  -- the set of the iterator's blocks, and the two of the loop's book-keeping
  obtain ⟨up, hup⟩ : ∃ up : (Nat → Prop) → Nat → Prop, up = fun X b => X b ∨ b = w.heap.size := ⟨_, rfl⟩
  have hu2 : ∀ X, up X w.heap.size := fun X => by rw [hup]; exact .inr rfl
  have hu0 : ∀ X b, X b → up X b := fun X b h => by rw [hup]; exact .inl h
  have hI1 : I (up fun _ => False) [] W1 := hI _ _ _ _ _ h0 (StepX.of_below hbw) (fun b hb => by rw [hup] at hb; have := (Array.getElem?_eq_some_iff.1 hL1).1; rcases hb with h | h; exact h.elim; exact .inr (by omega))
  have hfr : ∀ {J : (Nat → Prop) → List α → World → Prop}, Fr J → ∀ {X X' : Nat → Prop} {s : List α} {A B : World}, J (up X) s A → StepX X A B → (∀ b, X' b → X b ∨ (A.heap.size ≤ b ∧ b < B.heap.size)) → J (up X') s B := fun {J} hJ {X X' s A B} hs st hx =>
    hJ _ _ _ _ _ hs (st.mono fun b _ h => hu0 X b h) (fun b hb => by
      rw [hup] at hb
      rcases hb with h | h
      · exact (hx b h).imp (hu0 X b) id
      · rw [h]; exact .inl (hu2 X))
  have hbk : ∀ {X X' : Nat → Prop} {A B : World} {k : Nat} {o : Obj}, StepX X A B → (∀ b, X' b → X b ∨ (A.heap.size ≤ b ∧ b < B.heap.size)) → ¬ X k → A.heap[k]? = some o → B.heap[k]? = some o ∧ ¬ X' k := fun {X X' A B k o} st hx hn ho => by
    have hlt := (Array.getElem?_eq_some_iff.1 ho).1
    exact ⟨(st.block k hlt hn).trans ho, fun h => by rcases hx k h with h | h; exact hn h; omega⟩
  refine ⟨w.heap.size, [], W1, { target := .fn (.func gf) lb, args := #[.func (.yield w.heap.size) #[] #[]] }, W1, gf,
    #[.func (.yield w.heap.size) #[] #[]] ++ lb, W1, ?_, ?_, ?_, ?_, fun _ => h1, ?_⟩
  · rw [← hW1, hrec]; exact run_enterLoop_inner hl₀ _ _ _ _ _
  · simp only [resolve, hg]
    simp [go_sem]
  · intro f' hf'; simp [Target.leads] at hf'; subst hf'; exact hFg
  · simp [invoke, go_sem, eg]
  · refine (hseq w.heap.size
      (fun X pre W => I (up X) pre W ∧ (W.heap[w.heap.size]? = some (.loop (rec .ready none)) ∧ ¬ X w.heap.size))
      (fun X pre W => ∃ c, Ix c (up X) pre W ∧ (W.heap[w.heap.size]? = some (.loop (rec .done (some c))) ∧ ¬ X w.heap.size))
      W1 hb1
      (fun X X' s A B hs st hx => ⟨hfr hI hs.1 st hx, hbk st hx hs.2.2 hs.2.1⟩)
      (fun X X' s A B hs st hx => by
        obtain ⟨c, hc, hl⟩ := hs
        exact ⟨c, hfr (hIx c) hc st hx, hbk st hx hl.2 hl.1⟩)
      ?_ ⟨hI1, ⟨hL1, fun h => h⟩⟩).mono ?_
    · -- one round
      rintro X pre x W ⟨hi, ⟨hl, nl⟩⟩ hlen
      have hlt : w.heap.size < W.heap.size := (Array.getElem?_eq_some_iff.1 hl).1
      have hy := run_yield (P := P) (args := encs x) hl (by rw [hrec]; exact hps x)
      rw [hrec] at hy
      refine ⟨fn, _, assign, body, hy, roundIn_of_wpIn hfn (hassign _ x W _ ⟨_, run_beginRound hl (by rw [hrec]), ?_⟩)⟩
      have hl2 : (W.putObj w.heap.size (.loop { rec .ready none with state := .busy })).heap[w.heap.size]? = some (.loop { rec .ready none with state := .busy }) := World.putObj_heap_same hlt
      have hx2 : KeepX X W (W.putObj w.heap.size (.loop { rec .ready none with state := .busy })) := KeepX.putObj _ _ _ nl
      have hq2 : KeepX K W (W.putObj w.heap.size (.loop { rec .ready none with state := .busy })) := KeepX.putObj _ _ _ (fun h => by have := hK _ h; omega)
      refine wpIn_mono (hbody _ (up X) pre x _ ⟨_, hl2⟩ (hu2 X) (hI.step hi (StepX.putObj _ _ _ (hu2 X))) hlen) ?_
      have fin : ∀ (jump : Option Code) (W3 : World), KeepX (up X) (W.putObj w.heap.size (.loop { rec .ready none with state := .busy })) W3 → KeepX K (W.putObj w.heap.size (.loop { rec .ready none with state := .busy })) W3 →
          (Instr.endRound w.heap.size jump).run P W3 = .ok (.bool jump.isNone) (W3.putObj w.heap.size (.loop (rec (if jump.isNone then .ready else .done) jump))) ∧
          (W3.putObj w.heap.size (.loop (rec (if jump.isNone then .ready else .done) jump))).heap[w.heap.size]? = some (.loop (rec (if jump.isNone then .ready else .done) jump)) ∧
          KeepX X W (W3.putObj w.heap.size (.loop (rec (if jump.isNone then .ready else .done) jump))) ∧ KeepX K W (W3.putObj w.heap.size (.loop (rec (if jump.isNone then .ready else .done) jump))) := fun jump W3 hk3 hq3 => by
        have hl3 := (hk3.block _ (by simpa using hlt) (hu2 X)).trans hl2
        have := run_endRound (P := P) jump hl3
        rw [hrec] at this ⊢
        exact ⟨this, World.putObj_heap_same (Array.getElem?_eq_some_iff.1 hl3).1,
          (hx2.trans (hk3.mono fun b _ h => hu0 X b h)).trans (KeepX.putObj _ _ _ nl), (hq2.trans hq3).trans (KeepX.putObj _ _ _ (fun h => by have := hK _ h; omega))⟩
      rintro e a3 W3 hp
      cases e with
      | normal =>
        obtain ⟨hk3, hq3, hi3⟩ := hp
        obtain ⟨hr, hl4, hx4, hq4⟩ := fin none W3 hk3 hq3
        exact ⟨_, _, hr, hx4, hq4, .inl ⟨rfl, hI.step hi3 (StepX.putObj _ _ _ (hu2 X)), ⟨hl4, nl⟩⟩⟩
      | ret =>
        obtain ⟨hk3, hq3, hi3⟩ := hp
        obtain ⟨hr, hl4, hx4, hq4⟩ := fin (some .ret) W3 hk3 hq3
        exact ⟨_, _, hr, hx4, hq4, .inr ⟨rfl, .ret, (hIx _).step hi3 (StepX.putObj _ _ _ (hu2 X)), ⟨hl4, nl⟩⟩⟩
      | exit id =>
        obtain ⟨hk3, hq3, hi3⟩ := hp
        obtain ⟨hr, hl4, hx4, hq4⟩ := fin (some (.exit id)) W3 hk3 hq3
        exact ⟨_, _, hr, hx4, hq4, .inr ⟨rfl, .exit id, (hIx _).step hi3 (StepX.putObj _ _ _ (hu2 X)), ⟨hl4, nl⟩⟩⟩
      | goto t =>
        obtain ⟨hk3, hq3, hi3⟩ := hp
        obtain ⟨hr, hl4, hx4, hq4⟩ := fin (some (.goto t)) W3 hk3 hq3
        exact ⟨_, _, hr, hx4, hq4, .inr ⟨rfl, .goto t, (hIx _).step hi3 (StepX.putObj _ _ _ (hu2 X)), ⟨hl4, nl⟩⟩⟩
      | panic ch => exact hp.elim
      | outgrown => exact hp.elim
    · -- behind the iterator
      rintro e W2 ⟨⟨v, rfl⟩, (⟨xs, X, hS, hi, ⟨hl, _⟩⟩ | ⟨pre, X, hSp, c, hi, ⟨hl, _⟩⟩)⟩
      · exact ⟨none, _, by have := run_endLoop (P := P) hl (by rw [hrec]; simp); rw [hrec] at this; exact this, hdone (up X) xs _ hS (hI.step hi (StepX.putObj _ _ _ (hu2 X)))⟩
      · exact ⟨some c, _, by have := run_endLoop (P := P) hl (by rw [hrec]; simp); rw [hrec] at this; exact this, hstop (up X) c pre _ hSp ((hIx c).step hi (StepX.putObj _ _ _ (hu2 X)))⟩
/-- a range whose loop variables are boxed: the assignments may lay blocks -/
theorem wpIn_rangeFunc_GA {F : Fence} {n : Nat} {P : Program} {α : Type} {g : Operand} {ps : Array Tmp} {assign body : Code} {Q : Exit → Act → World → Prop} {a : Act} {w : World}
    (hro : F.round = none) (h1 : 1 ≤ n) {gf : Nat} {lb : Array Value} (hg : a.eval g = .func (.func gf) #[] lb) (hFg : F.fn gf) (eg : ∀ args w, (callFunc gf args).run P w = .ok (.enter gf args) w)
    {encs : α → Array Value} {K : Nat → Prop} {S Sp : List α → Prop} {Ok : List α → α → Prop} {w0 : World} (hseq : SeqG F (n - 1) P gf lb encs K S Sp Ok w0) (hK : ∀ b, K b → b < w.heap.size) (hb0 : Below w0.heap.size w0 w) (hps : ∀ x, (encs x).size = ps.size)
    (I : (Nat → Prop) → List α → World → Prop) (Ix : Code → (Nat → Prop) → List α → World → Prop) (hI : Fr I) (hIx : ∀ c, Fr (Ix c)) (h0 : I (fun _ => False) [] w) (Ax : α → World → Act → World → Prop)
    (hassign : ∀ (l : Nat) (x : α) (W : World) (G : Act → World → Prop), (∀ a' W', Below W.heap.size W W' → Ax x W a' W' → G a' W') →
      assign.wpIn (F.inRound l) (n - 1 - 1) P (Exit.then G (fun _ _ _ => False)) { tmps := (ps.zip (encs x)).foldl (fun t (p, v) => t.setIfInBounds p v) a.tmps, defers := [] } W)
    (hbody : ∀ (l : Nat) (X : Nat → Prop) (pre : List α) (x : α) (W Wa : World) (a' : Act) (o : Obj), X l → I X pre W → Ok pre x → Below W.heap.size W Wa → Ax x W a' Wa → (∃ r, Wa.heap[l]? = some (.loop r)) → (∃ r, o = .loop r) → body.wpIn (F.inRound l) (n - 1 - 1) P (ownPostX K I Ix X (pre ++ [x]) (Wa.putObj l o)) a' (Wa.putObj l o))
    (hdone : ∀ (D : Nat) (X : Nat → Prop) (xs : List α) (W : World), w.heap.size ≤ D → X D → S xs → I X xs W → W.heap[D]? = some (.deferred (some [])) → Q .normal { a with defers := { target := .collected D, args := #[] } :: a.defers } W)
    (hstop : ∀ (D : Nat) (X : Nat → Prop) (c : Code) (pre : List α) (W : World), w.heap.size ≤ D → X D → Sp pre → Ix c X pre W → W.heap[D]? = some (.deferred (some [])) → c.wpIn F n P Q { a with defers := { target := .collected D, args := #[] } :: a.defers } W) :
    (Code.rangeFunc g ps assign body).wpIn F n P Q a w := by
  refine wpIn_rangeFunc ?_
  intro fn hfn
  rw [hro]
  obtain ⟨rec, hrec⟩ : ∃ rec : LoopState → Option Code → Loop, rec = fun st pe => { state := st, pending := pe, fn, tmps := a.tmps, params := ps, assign, body, defers := w.heap.size } := ⟨_, rfl⟩
  obtain ⟨W1, hW1⟩ : ∃ W1, (w.alloc (.deferred (some []))).alloc (.loop (rec .ready none)) = W1 := ⟨_, rfl⟩
  have hL1 : W1.heap[w.heap.size + 1]? = some (.loop (rec .ready none)) := by
    rw [← hW1]; have := World.alloc_heap_new (w.alloc (.deferred (some []))) (.loop (rec .ready none)); rwa [World.size_alloc] at this
  have hK1 : W1.heap[w.heap.size]? = some (.deferred (some [])) := by
    rw [← hW1]; exact (Below.heap_alloc _ _ _ (by simp)).trans (World.alloc_heap_new w _)
  have hbw : Below w.heap.size w W1 := by rw [← hW1]; exact (((Below.refl _ w).alloc (Nat.le_refl _) _).alloc (by simp) _)
  have hb1 : Below w0.heap.size w0 W1 := hb0.trans (hbw.mono hb0.size)
  -- the set of the iterator's blocks, and the two of the loop's book-keeping
  obtain ⟨up, hup⟩ : ∃ up : (Nat → Prop) → Nat → Prop, up = fun X b => X b ∨ b = w.heap.size ∨ b = w.heap.size + 1 := ⟨_, rfl⟩
  have hu1 : ∀ X, up X w.heap.size := fun X => by rw [hup]; exact .inr (.inl rfl)
  have hu2 : ∀ X, up X (w.heap.size + 1) := fun X => by rw [hup]; exact .inr (.inr rfl)
  have hu0 : ∀ X b, X b → up X b := fun X b h => by rw [hup]; exact .inl h
  have hI1 : I (up fun _ => False) [] W1 := hI _ _ _ _ _ h0 (StepX.of_below hbw) (fun b hb => by rw [hup] at hb; have := (Array.getElem?_eq_some_iff.1 hL1).1; rcases hb with h | h | h; exact h.elim; all_goals exact .inr (by omega))
  have hfr : ∀ {J : (Nat → Prop) → List α → World → Prop}, Fr J → ∀ {X X' : Nat → Prop} {s : List α} {A B : World}, J (up X) s A → StepX X A B → (∀ b, X' b → X b ∨ (A.heap.size ≤ b ∧ b < B.heap.size)) → J (up X') s B := fun {J} hJ {X X' s A B} hs st hx =>
    hJ _ _ _ _ _ hs (st.mono fun b _ h => hu0 X b h) (fun b hb => by
      rw [hup] at hb
      rcases hb with h | h | h
      · exact (hx b h).imp (hu0 X b) id
      · rw [h]; exact .inl (hu1 X)
      · rw [h]; exact .inl (hu2 X))
  have hbk : ∀ {X X' : Nat → Prop} {A B : World} {k : Nat} {o : Obj}, StepX X A B → (∀ b, X' b → X b ∨ (A.heap.size ≤ b ∧ b < B.heap.size)) → ¬ X k → A.heap[k]? = some o → B.heap[k]? = some o ∧ ¬ X' k := fun {X X' A B k o} st hx hn ho => by
    have hlt := (Array.getElem?_eq_some_iff.1 ho).1
    exact ⟨(st.block k hlt hn).trans ho, fun h => by rcases hx k h with h | h; exact hn h; omega⟩
  refine ⟨w.heap.size + 1, [{ target := .collected w.heap.size, args := #[] }], W1, { target := .fn (.func gf) lb, args := #[.func (.yield (w.heap.size + 1)) #[] #[]] }, W1, gf,
    #[.func (.yield (w.heap.size + 1)) #[] #[]] ++ lb, W1, ?_, ?_, ?_, ?_, fun _ => h1, ?_⟩
  · rw [← hW1, hrec]; exact run_enterLoop_outer _ _ _ _ _
  · simp only [resolve, hg]
    simp [go_sem]
  · intro f' hf'; simp [Target.leads] at hf'; subst hf'; exact hFg
  · simp [invoke, go_sem, eg]
  · refine (hseq (w.heap.size + 1)
      (fun X pre W => I (up X) pre W ∧ (W.heap[w.heap.size + 1]? = some (.loop (rec .ready none)) ∧ ¬ X (w.heap.size + 1)) ∧ (W.heap[w.heap.size]? = some (.deferred (some [])) ∧ ¬ X w.heap.size))
      (fun X pre W => ∃ c, Ix c (up X) pre W ∧ (W.heap[w.heap.size + 1]? = some (.loop (rec .done (some c))) ∧ ¬ X (w.heap.size + 1)) ∧ (W.heap[w.heap.size]? = some (.deferred (some [])) ∧ ¬ X w.heap.size))
      W1 hb1
      (fun X X' s A B hs st hx => ⟨hfr hI hs.1 st hx, hbk st hx hs.2.1.2 hs.2.1.1, hbk st hx hs.2.2.2 hs.2.2.1⟩)
      (fun X X' s A B hs st hx => by
        obtain ⟨c, hc, hl, hk⟩ := hs
        exact ⟨c, hfr (hIx c) hc st hx, hbk st hx hl.2 hl.1, hbk st hx hk.2 hk.1⟩)
      ?_ ⟨hI1, ⟨hL1, fun h => h⟩, ⟨hK1, fun h => h⟩⟩).mono ?_
    · -- one round
      rintro X pre x W ⟨hi, ⟨hl, nl⟩, ⟨hk, nk⟩⟩ hlen
      have hlt : w.heap.size + 1 < W.heap.size := (Array.getElem?_eq_some_iff.1 hl).1
      have hy := run_yield (P := P) (args := encs x) hl (by rw [hrec]; exact hps x)
      rw [hrec] at hy
      refine ⟨fn, _, assign, body, hy, roundIn_of_wpIn hfn (hassign _ x W _ ?_)⟩
      intro a' Wa hba hax
      have hxba : KeepX X W Wa := KeepX.of_below hba
      have hkba : KeepX K W Wa := KeepX.of_below hba
      have hla := (hba.block _ hlt).trans hl
      have hka := (hba.block _ (show w.heap.size < W.heap.size by omega)).trans hk
      have hlta : w.heap.size + 1 < Wa.heap.size := by have := hba.size; omega
      refine ⟨_, run_beginRound hla (by rw [hrec]), ?_⟩
      have hl2 : (Wa.putObj (w.heap.size + 1) (.loop { rec .ready none with state := .busy })).heap[w.heap.size + 1]? = some (.loop { rec .ready none with state := .busy }) := World.putObj_heap_same hlta
      have hk2 : (Wa.putObj (w.heap.size + 1) (.loop { rec .ready none with state := .busy })).heap[w.heap.size]? = some (.deferred (some [])) := (World.putObj_heap_other (by omega)).trans hka
      have hx2 : KeepX X Wa (Wa.putObj (w.heap.size + 1) (.loop { rec .ready none with state := .busy })) := KeepX.putObj _ _ _ nl
      have hq2 : KeepX K Wa (Wa.putObj (w.heap.size + 1) (.loop { rec .ready none with state := .busy })) := KeepX.putObj _ _ _ (fun h => by have := hK _ h; omega)
      refine wpIn_mono (hbody _ (up X) pre x W Wa a' _ (hu2 X) hi hlen hba hax ⟨_, hla⟩ ⟨_, rfl⟩) ?_
      have fin : ∀ (jump : Option Code) (W3 : World), KeepX (up X) (Wa.putObj (w.heap.size + 1) (.loop { rec .ready none with state := .busy })) W3 → KeepX K (Wa.putObj (w.heap.size + 1) (.loop { rec .ready none with state := .busy })) W3 →
          (Instr.endRound (w.heap.size + 1) jump).run P W3 = .ok (.bool jump.isNone) (W3.putObj (w.heap.size + 1) (.loop (rec (if jump.isNone then .ready else .done) jump))) ∧
          (W3.putObj (w.heap.size + 1) (.loop (rec (if jump.isNone then .ready else .done) jump))).heap[w.heap.size + 1]? = some (.loop (rec (if jump.isNone then .ready else .done) jump)) ∧
          (W3.putObj (w.heap.size + 1) (.loop (rec (if jump.isNone then .ready else .done) jump))).heap[w.heap.size]? = some (.deferred (some [])) ∧
          KeepX X Wa (W3.putObj (w.heap.size + 1) (.loop (rec (if jump.isNone then .ready else .done) jump))) ∧ KeepX K Wa (W3.putObj (w.heap.size + 1) (.loop (rec (if jump.isNone then .ready else .done) jump))) := fun jump W3 hk3 hq3 => by
        have hl3 := (hk3.block _ (by simpa using hlta) (hu2 X)).trans hl2
        have hd3 := (hk3.block _ (by simp; omega) (hu1 X)).trans hk2
        have := run_endRound (P := P) jump hl3
        rw [hrec] at this ⊢
        exact ⟨this, World.putObj_heap_same (Array.getElem?_eq_some_iff.1 hl3).1, (World.putObj_heap_other (by omega)).trans hd3,
          (hx2.trans (hk3.mono fun b _ h => hu0 X b h)).trans (KeepX.putObj _ _ _ nl), (hq2.trans hq3).trans (KeepX.putObj _ _ _ (fun h => by have := hK _ h; omega))⟩
      rintro e a3 W3 hp
      cases e with
      | normal =>
        obtain ⟨hk3, hq3, hi3⟩ := hp
        obtain ⟨hr, hl4, hk4, hx4, hq4⟩ := fin none W3 hk3 hq3
        exact ⟨_, _, hr, hxba.trans hx4, hkba.trans hq4, .inl ⟨rfl, hI.step hi3 (StepX.putObj _ _ _ (hu2 X)), ⟨hl4, nl⟩, ⟨hk4, nk⟩⟩⟩
      | ret =>
        obtain ⟨hk3, hq3, hi3⟩ := hp
        obtain ⟨hr, hl4, hk4, hx4, hq4⟩ := fin (some .ret) W3 hk3 hq3
        exact ⟨_, _, hr, hxba.trans hx4, hkba.trans hq4, .inr ⟨rfl, .ret, (hIx _).step hi3 (StepX.putObj _ _ _ (hu2 X)), ⟨hl4, nl⟩, ⟨hk4, nk⟩⟩⟩
      | exit id =>
        obtain ⟨hk3, hq3, hi3⟩ := hp
        obtain ⟨hr, hl4, hk4, hx4, hq4⟩ := fin (some (.exit id)) W3 hk3 hq3
        exact ⟨_, _, hr, hxba.trans hx4, hkba.trans hq4, .inr ⟨rfl, .exit id, (hIx _).step hi3 (StepX.putObj _ _ _ (hu2 X)), ⟨hl4, nl⟩, ⟨hk4, nk⟩⟩⟩
      | goto t =>
        obtain ⟨hk3, hq3, hi3⟩ := hp
        obtain ⟨hr, hl4, hk4, hx4, hq4⟩ := fin (some (.goto t)) W3 hk3 hq3
        exact ⟨_, _, hr, hxba.trans hx4, hkba.trans hq4, .inr ⟨rfl, .goto t, (hIx _).step hi3 (StepX.putObj _ _ _ (hu2 X)), ⟨hl4, nl⟩, ⟨hk4, nk⟩⟩⟩
      | panic ch => exact hp.elim
      | outgrown => exact hp.elim
    · -- behind the iterator
      rintro e W2 ⟨⟨v, rfl⟩, (⟨xs, X, hS, hi, ⟨hl, _⟩, ⟨hk, _⟩⟩ | ⟨pre, X, hSp, c, hi, ⟨hl, _⟩, ⟨hk, _⟩⟩)⟩
      · exact ⟨none, _, by have := run_endLoop (P := P) hl (by rw [hrec]; simp); rw [hrec] at this; exact this, hdone _ (up X) xs _ (Nat.le_refl _) (hu1 X) hS (hI.step hi (StepX.putObj _ _ _ (hu2 X))) ((World.putObj_heap_other (by omega)).trans hk)⟩
      · exact ⟨some c, _, by have := run_endLoop (P := P) hl (by rw [hrec]; simp); rw [hrec] at this; exact this, hstop _ (up X) c pre _ (Nat.le_refl _) (hu1 X) hSp ((hIx c).step hi (StepX.putObj _ _ _ (hu2 X))) ((World.putObj_heap_other (by omega)).trans hk)⟩
end Go.Proofs.Ytoifmfdaghmleaa
