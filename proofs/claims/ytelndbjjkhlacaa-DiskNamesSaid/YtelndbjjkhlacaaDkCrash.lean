/-
  Crash: a loss of power.
-/
import Derived.Test.YtelndbjjkhlacaaDkOpenIt
import Derived.Test.YtelndbjjkhlacaaDkDel
import Derived.Test.YtelndbjjkhlacaaStillIn
import Derived.Test.YtelndbjjkhlacaaDkUsed
namespace Go.Proofs.Ytelndbjjkhlacaa
open Go.RowKit Go.Maps
attribute [local go_sem] Oper.semAt_some

theorem size_int4 (w : World) : (sizeOf (Try.prog.elem 34)).run Try.prog w = .ok 1 w := by kernel_rfl
theorem size_bool4 (w : World) : (sizeOf (Try.prog.elem 39)).run Try.prog w = .ok 1 w := by kernel_rfl
def intA (l : List Int) (k : Nat) : Value := .int .i64 (l.getD k 0)
def boolA (l : List Bool) (k : Nat) : Value := .bool (l.getD k false)
theorem cut_more (S : DSt) (pre : List Nat) (fs : List Int) (f : Nat) (hj : pre.length < fs.length) :
    cutS S (pre ++ [f]) fs = { cutS S pre fs with fb := updN (cutS S pre fs).fb f (((cutS S pre fs).fb f).take (leftN (S.fl f) ((cutS S pre fs).fb f).length (fs.getD pre.length 0))) } := by
  unfold cutS
  rw [truncL_snoc]
  have : fs.drop pre.length = fs.getD pre.length 0 :: fs.drop (pre.length + 1) := by
    rw [List.getD_eq_getElem?_getD, List.getElem?_eq_getElem hj]
    exact List.drop_eq_getElem_cons hj
  rw [this]
  rfl
theorem cut_none (S : DSt) (pre : List Nat) (fs : List Int) (f : Nat) (hj : fs.length ≤ pre.length) : cutS S (pre ++ [f]) fs = cutS S pre fs := by
  unfold cutS
  rw [truncL_snoc, List.drop_of_length_le hj]
/-- the numbers that are left, boxed: how many are used up already -/
structure NumsAt (W : World) (bx : Nat) (fa : Option Addr) (fs : List Int) (j : Nat) : Prop where
  box : ∃ a c, Boxed W bx 34 (.slice a (fs.length - j) c) ∧ fs.length - j ≤ c ∧ True ∧ Row W a (fs.length - j) (fun k => intA fs (j + k)) ∧ (fs.length - j = 0 ∨ bOf a = bOf fa)
def CrashPost (B : Nat) (A : Nat → Prop) (w : World) (bd : Nat) (S : DSt) (fs : List Int) (bs : List Bool) (e : Ending) (w' : World) : Prop :=
  e = .returned (.tuple #[]) ∧ DiskAv B w' bd (crashS S fs bs) A ∧ Below B w w' ∧ KeepX A w w'
/-- what holds at each round of the range over the files that are open -/
structure CrI (B : Nat) (w W0 : World) (bd : Nat) (ρ : Nat → Role) (S : DSt) (fs : List Int) (vf vt : Value) (bn bl : Nat) (l : List Nat) (fa : Option Addr) (X : Nat → Prop) (pre : List Nat) (W : World) : Prop where
  disk : ∃ ρ' V, DiskIn B W bd ρ' (cutS S pre fs) vf vt bn bl V ∧ (∀ b, X b → ρ' b = .other) ∧ ∀ b, b < W0.heap.size → ρ b = .other → ρ' b = .other
  x1 : W.cell? ⟨w.heap.size + 1, 0, none⟩ = some (.pointer (some ⟨bd, 0, none⟩))
  x2 : W.cell? ⟨w.heap.size + 1 + 1 + 1, 0, none⟩ = some (.map (some (w.heap.size + 1 + 1)))
  set : PSet W (w.heap.size + 1 + 1) l
  nums : NumsAt W w.heap.size fa fs (min pre.length fs.length)
  keep : KeepX (fun b => ρ b = .other ∧ b < w.heap.size) w W
  below : Below B w W
  above : ∀ b, X b → W0.heap.size ≤ b ∧ b < W.heap.size
  size : W0.heap.size ≤ W.heap.size
theorem openW_facts (w : World) (bd : Nat) : (openW w bd).cell? ⟨w.heap.size, 0, none⟩ = some (.pointer (some ⟨bd, 0, none⟩)) ∧ (openW w bd).cell? ⟨w.heap.size + 1 + 1, 0, none⟩ = some (.map (some (w.heap.size + 1))) ∧ Below w.heap.size w (openW w bd) ∧ (openW w bd).heap.size = w.heap.size + 3 := by
  have B2 := (Boxed.new ((w.alloc (.cells #[.pointer (some ⟨bd, 0, none⟩)] 22)).alloc (.map #[] 0)) 77 (.map (some (w.heap.size + 1)))).cell
  simp only [World.size_alloc] at B2
  refine ⟨(((Boxed.new w 22 (.pointer (some ⟨bd, 0, none⟩))).alloc (.map #[] 0)).alloc (.cells #[.map (some (w.heap.size + 1))] 77)).cell, B2, (((Below.refl _ w).alloc (Nat.le_refl _) _).alloc (by simp) _).alloc (by simp; omega) _, ?_⟩
  unfold openW
  simp
theorem numsAt_step {X : Nat → Prop} {W W' : World} {bx : Nat} {fa : Option Addr} {fs : List Int} {j : Nat} (h : NumsAt W bx fa fs j) (st : StepX X W W') (h1 : ¬ X bx) (h2 : fs.length = 0 ∨ ¬ X (bOf fa)) : NumsAt W' bx fa fs j := by
  obtain ⟨a, c, hb, h3, h4, h5, h6⟩ := h.box
  refine ⟨a, c, (st.block bx hb.lt h1).trans hb, h3, h4, ⟨h5.at_, fun k hk => ?_⟩, h6⟩
  have hc := h5.cell k hk
  refine (World.cell?_of_block (a := ⟨bOf a, oOf a + k, none⟩) (st.block _ (World.block_lt_of_cell? W _ hc) ?_)).trans hc
  show ¬ X (bOf a)
  rw [h6.resolve_left (by omega)]
  exact h2.resolve_left (by omega)
theorem crI_fr (B : Nat) (w W0 : World) (bd : Nat) (ρ : Nat → Role) (S : DSt) (fs : List Int) (vf vt : Value) (bn bl : Nat) (l : List Nat) (fa : Option Addr) (hB : B ≤ w.heap.size) (h4 : w.heap.size + 4 ≤ W0.heap.size) (hfa : fs.length = 0 ∨ bOf fa < w.heap.size) : Fr (CrI B w W0 bd ρ S fs vf vt bn bl l fa) := by
  intro X X' pre W W' hs st hx
  have hn : ∀ b, b < W0.heap.size → ¬ X b := fun b hb h => by have := (hs.above b h).1; omega
  obtain ⟨ρ', V, hd, hX, hout⟩ := hs.disk
  refine ⟨⟨ρ', V, hd.kept ⟨st.size, fun b hb h => st.block b hb (fun hX2 => h (hX b hX2))⟩, fun b hb => ?_, hout⟩, ?_, ?_, ?_, ?_, ?_, ?_, ?_, Nat.le_trans hs.size st.size⟩
  · rcases hx b hb with h | h
    · exact hX b h
    · by_cases e : ρ' b = .other
      · exact e
      · have := (hd.base b e).2; omega
  · exact (World.cell?_of_block (a := ⟨w.heap.size + 1, 0, none⟩) (st.block _ (World.block_lt_of_cell? W _ hs.x1) (hn _ (by show w.heap.size + 1 < _; omega)))).trans hs.x1
  · exact (World.cell?_of_block (a := ⟨w.heap.size + 1 + 1 + 1, 0, none⟩) (st.block _ (World.block_lt_of_cell? W _ hs.x2) (hn _ (by show w.heap.size + 1 + 1 + 1 < _; omega)))).trans hs.x2
  · exact hs.set.of_block (st.block _ hs.set.lt (hn _ (by omega)))
  · exact numsAt_step hs.nums st (hn _ (by omega)) (hfa.imp id (fun h => hn _ (by omega)))
  · exact hs.keep.trans ⟨st.size, fun b hb h => st.block b hb (hn b (by have := h.2; omega))⟩
  · exact hs.below.trans (st.below (by have := hs.size; omega) (fun b hb => by have := (hs.above b hb).1; omega))
  · intro b hb
    rcases hx b hb with h | h
    · have := hs.above b h
      exact ⟨this.1, Nat.lt_of_lt_of_le this.2 st.size⟩
    · exact ⟨by have := hs.size; omega, h.2⟩
theorem crI_start (B : Nat) (w w2 : World) (bd : Nat) (ρ : Nat → Role) (S : DSt) (fs : List Int) (vf vt : Value) (bn bl : Nat) (V : Nat → Value) (l : List Nat) (fa : Option Addr) (fcap : Nat) (hd : DiskIn B w bd ρ S vf vt bn bl V) (hB : B ≤ w.heap.size)
    (hcm : Come (openW (w.alloc (.cells #[.slice fa fs.length fcap] 34)) bd) (w.heap.size + 1 + 1) S.files (fun f => comeB S f = true) w2 l) (hfr : Row w fa fs.length (intA fs)) (hfc : fs.length ≤ fcap ∧ True) :
    CrI B w w2 bd ρ S fs vf vt bn bl l fa (fun _ => False) [] w2 ∧ Below w.heap.size w w2 ∧ w.heap.size + 4 ≤ w2.heap.size := by
  have hb1 : Below w.heap.size w (w.alloc (.cells #[.slice fa fs.length fcap] 34)) := (Below.refl _ w).alloc (Nat.le_refl _) _
  have hs1 : (w.alloc (.cells #[.slice fa fs.length fcap] 34)).heap.size = w.heap.size + 1 := by simp
  have hbx := Boxed.new w 34 (.slice fa fs.length fcap)
  generalize w.alloc (.cells #[.slice fa fs.length fcap] 34) = w1 at *
  obtain ⟨o1, o2, o3, o4⟩ := openW_facts w1 bd
  have hg := hcm.gb
  generalize openW w1 bd = W1 at *
  rw [hs1] at o1 o2 o3 o4
  have hbw : Below w.heap.size w w2 := (hb1.trans (o3.mono (by omega))).grown hg (by omega) (fun k e => by cases e; omega)
  have hsz := hg.size
  have hcell : ∀ b, b < W1.heap.size → b ≠ w.heap.size + 1 + 1 → w2.heap[b]? = W1.heap[b]? := fun b hb hn => hg.block b hb (fun e => hn (Option.some.inj e))
  refine ⟨⟨⟨ρ, V, ?_, fun b h => h.elim, fun b _ h => h⟩, ?_, ?_, hcm.set, ?_, KeepX.of_below hbw, hbw.mono hB, fun b h => h.elim, Nat.le_refl _⟩, hbw, by omega⟩
  · have : cutS S [] fs = S := by unfold cutS; rw [truncL_nil]
    rw [this]
    exact hd.below hbw
  · exact (World.cell?_of_block (a := ⟨w.heap.size + 1, 0, none⟩) (hcell _ (by rw [o4]; show w.heap.size + 1 < _; omega) (by show w.heap.size + 1 ≠ _; omega))).trans o1
  · exact (World.cell?_of_block (a := ⟨w.heap.size + 1 + 1 + 1, 0, none⟩) (hcell _ (by rw [o4]; show w.heap.size + 1 + 1 + 1 < _; omega) (by show w.heap.size + 1 + 1 + 1 ≠ _; omega))).trans o2
  · refine ⟨fa, fcap, ?_, by omega, hfc.2, ?_, .inr rfl⟩
    · exact (hcell _ (by omega) (by omega)).trans ((o3.block _ (by omega)).trans hbx)
    · refine (hfr.kept hbw).congr (fun k _ => ?_) |>.take (by omega)
      simp
theorem ownBlock_len (a : Option Addr) (n m c : Nat) : (Value.slice a n c).ownBlock = (Value.slice a m c).ownBlock := by cases a <;> rfl
theorem crI_cut (B : Nat) (w W0 : World) (bd : Nat) (ρ : Nat → Role) (S : DSt) (fs : List Int) (vf vt : Value) (bn bl : Nat) (l : List Nat) (fa : Option Addr) (X : Nat → Prop) (pre : List Nat) (W : World) (hI : CrI B w W0 bd ρ S fs vf vt bn bl l fa X pre W)
    (hB : B ≤ w.heap.size) (h4 : w.heap.size + 4 ≤ W0.heap.size) (hρ : ∀ b, w.heap.size ≤ b → ρ b = .other) (f : Nat) (hf : f ∈ S.files) (hfp : f ∉ pre) (hj : pre.length < fs.length) (hl : S.fl f < (S.fb f).length)
    (ρ' : Nat → Role) (V' : Nat → Value) (hd : DiskIn B W bd ρ' (cutS S pre fs) vf vt bn bl V') (hX : ∀ b, X b → ρ' b = .other) (hO : ∀ b, b < W0.heap.size → ρ b = .other → ρ' b = .other) (a2 : Option Addr) (c2 : Nat) (hv2 : V' f = .slice a2 (S.fb f).length c2)
    (v : Nat) (hv : v = leftN (S.fl f) (S.fb f).length (fs.getD pre.length 0)) (m c' : Nat) (a' : Option Addr) (hm : m = fs.length - pre.length - 1) (hc : m ≤ c' ∧ True) (hr : Row W a' m (fun k => intA fs (pre.length + 1 + k))) (hal : m = 0 ∨ bOf a' = bOf fa) (hfa : fs.length = 0 ∨ bOf fa < w.heap.size) (hfo : fs.length = 0 ∨ ρ (bOf fa) = .other) :
    KeepX X W ((W.setCell ⟨f, 0, none⟩ (.slice a2 v c2)).setCell ⟨w.heap.size, 0, none⟩ (.slice a' m c')) ∧
      CrI B w W0 bd ρ S fs vf vt bn bl l fa X (pre ++ [f]) ((W.setCell ⟨f, 0, none⟩ (.slice a2 v c2)).setCell ⟨w.heap.size, 0, none⟩ (.slice a' m c')) := by
  have hsz := hI.size
  have hrf := hd.rfile f hf
  have hoth : ∀ b, w.heap.size ≤ b → b < W0.heap.size → ρ' b = .other := fun b h1 h2 => hO b h2 (hρ b h1)
  have hnf : ∀ b, ρ' b = .other → b ≠ f := fun b h e => by rw [e, hrf] at h; cases h
  have hXf : ¬ X f := fun h => hnf f (hX f h) rfl
  have hXb : ¬ X w.heap.size := fun h => by have := (hI.above _ h).1; omega
  have hfb : (cutS S pre fs).fb f = S.fb f := truncL_other _ _ _ _ _ hfp
  obtain ⟨l1, l2⟩ := leftN_le (S.fl f) (S.fb f).length (fs.getD pre.length 0) (by omega)
  rw [← hv] at l1 l2
  have hks : KeepX (fun b => b ≠ f) W (W.setCell ⟨f, 0, none⟩ (.slice a2 v c2)) := KeepX.setCell W ⟨f, 0, none⟩ _ (fun h => h rfl)
  have hby := hd.bytes f hf
  rw [hfb, hv2] at hby
  have hfr := hd.file f hf
  have hnb : ∀ g, (V' f).ownBlock = some g → g ≠ f := fun g hg e => by
    have := hd.rbytes f hf g hg
    rw [e, hrf] at this
    cases this
  have hs1 : (W.setCell ⟨f, 0, none⟩ (.slice a2 v c2)).heap.size = W.heap.size := by simp [World.setCell]
  have hblt : w.heap.size < W.heap.size := by omega
  have hlv : ((S.fb f).take v).length = v := by rw [List.length_take]; omega
  obtain ⟨ρ1, hd1, hout⟩ := hd.turnFile (w' := W.setCell ⟨f, 0, none⟩ (.slice a2 v c2)) hf (hks.mono fun b _ h => h.1) (.slice a2 v c2) (S.fl f) ((S.fb f).take v)
    ((hfr.set 0 _).congr fun j hj => by
      match j, hj with
      | 0, _ => rfl
      | 1, _ => rfl)
    (by
      have h1 := owns_cut hby v l2
      have h2 := owns_keepX h1 hks (fun g hg => hnb g (by rw [hv2, ownBlock_len a2 _ v]; exact hg))
      rw [hlv]
      unfold bytV at h2 ⊢
      rw [List.map_take]
      exact h2)
    (fun g hg => .inl (by rw [hv2, ownBlock_len a2 _ v]; exact hg))
  have hst : { cutS S pre fs with fb := updN (cutS S pre fs).fb f ((S.fb f).take v), fl := updN (cutS S pre fs).fl f (S.fl f) } = cutS S (pre ++ [f]) fs := by
    rw [cut_more S pre fs f hj, hfb, ← hv]
    show ({ cutS S pre fs with fb := _, fl := updN S.fl f (S.fl f) } : DSt) = _
    rw [updN_id]
    rfl
  rw [hst] at hd1
  have hbo : ρ1 w.heap.size = .other := hout.role _ hblt (hoth _ (Nat.le_refl _) (by omega))
  have hks2 : KeepX (fun b => b ≠ w.heap.size) (W.setCell ⟨f, 0, none⟩ (.slice a2 v c2)) ((W.setCell ⟨f, 0, none⟩ (.slice a2 v c2)).setCell ⟨w.heap.size, 0, none⟩ (.slice a' m c')) := KeepX.setCell _ ⟨w.heap.size, 0, none⟩ _ (fun h => h rfl)
  have hkk : KeepX (fun b => b ≠ f ∧ b ≠ w.heap.size) W ((W.setCell ⟨f, 0, none⟩ (.slice a2 v c2)).setCell ⟨w.heap.size, 0, none⟩ (.slice a' m c')) := (hks.mono fun b _ h => h.1).trans (hks2.mono fun b _ h => h.2)
  have hd2 := hd1.kept (hks2.mono fun b _ h e => h (by rw [e]; exact hbo))
  have hbf : w.heap.size ≠ f := hnf _ (hoth _ (Nat.le_refl _) (by omega))
  have hcell : ∀ b, b < W.heap.size → b ≠ f → b ≠ w.heap.size → ((W.setCell ⟨f, 0, none⟩ (.slice a2 v c2)).setCell ⟨w.heap.size, 0, none⟩ (.slice a' m c')).heap[b]? = W.heap[b]? := fun b h1 h2 h3 => hkk.block b h1 ⟨h2, h3⟩
  have hs2 : W.heap.size ≤ ((W.setCell ⟨f, 0, none⟩ (.slice a2 v c2)).setCell ⟨w.heap.size, 0, none⟩ (.slice a' m c')).heap.size := hkk.size
  refine ⟨hkk.mono fun b _ h => ⟨fun e => hXf (by rw [← e]; exact h), fun e => hXb (by rw [← e]; exact h)⟩, ⟨⟨ρ1, _, hd2, fun b hb => hout.role b (hI.above b hb).2 (hX b hb), fun b hb h => hout.role b (by omega) (hO b hb h)⟩, ?_, ?_, ?_, ?_, ?_, ?_, fun b hb => ⟨(hI.above b hb).1, Nat.lt_of_lt_of_le (hI.above b hb).2 hs2⟩, Nat.le_trans hsz hs2⟩⟩
  · exact (World.cell?_of_block (a := ⟨w.heap.size + 1, 0, none⟩) (hcell _ (World.block_lt_of_cell? W _ hI.x1) (hnf _ (hoth _ (by show w.heap.size ≤ w.heap.size + 1; omega) (by show w.heap.size + 1 < _; omega))) (by show w.heap.size + 1 ≠ _; omega))).trans hI.x1
  · exact (World.cell?_of_block (a := ⟨w.heap.size + 1 + 1 + 1, 0, none⟩) (hcell _ (World.block_lt_of_cell? W _ hI.x2) (hnf _ (hoth _ (by show w.heap.size ≤ w.heap.size + 1 + 1 + 1; omega) (by show w.heap.size + 1 + 1 + 1 < _; omega))) (by show w.heap.size + 1 + 1 + 1 ≠ _; omega))).trans hI.x2
  · exact hI.set.of_block (hcell _ hI.set.lt (hnf _ (hoth _ (by omega) (by omega))) (by omega))
  · obtain ⟨a0, c0, hb0, _⟩ := hI.nums.box
    have hb1 : Boxed (W.setCell ⟨f, 0, none⟩ (.slice a2 v c2)) w.heap.size 34 (.slice a0 (fs.length - min pre.length fs.length) c0) := (hks.block _ hblt hbf).trans hb0
    have e1 : fs.length - min (pre ++ [f]).length fs.length = m := by rw [List.length_append, List.length_singleton]; omega
    have e2 : min (pre ++ [f]).length fs.length = pre.length + 1 := by rw [List.length_append, List.length_singleton]; omega
    refine ⟨a', c', ?_, by omega, hc.2, ?_, by rw [e1]; exact hal⟩
    · rw [e1]; exact hb1.set _
    · rw [e1, e2]
      refine ⟨hr.at_, fun k hk => ?_⟩
      have hck := hr.cell k hk
      have hfl : fs.length ≠ 0 := by omega
      have hbe : bOf a' = bOf fa := hal.resolve_left (by omega)
      refine (World.cell?_of_block (a := ⟨bOf a', oOf a' + k, none⟩) (hcell _ (World.block_lt_of_cell? W _ hck) ?_ ?_)).trans hck
      · show bOf a' ≠ f
        rw [hbe]
        exact hnf _ (hO _ (by have := hfa.resolve_left hfl; omega) (hfo.resolve_left hfl))
      · show bOf a' ≠ _
        rw [hbe]
        have := hfa.resolve_left hfl
        omega
  · exact hI.keep.trans (hkk.mono fun b _ h => ⟨hnf b (hO b (by have := h.2; omega) h.1), by have := h.2; omega⟩)
  · have hbf2 := hd.base f (by rw [hrf]; simp)
    exact (hI.below.setCell (p := ⟨f, 0, none⟩) hbf2.1 _).setCell (p := ⟨w.heap.size, 0, none⟩) hB _
theorem crash_heads {B : Nat} {W2 : World} {bd : Nat} {ρ1 : Nat → Role} {T : DSt} {vf vt : Value} {bn bl : Nat} {V1 : Nat → Value} (hd : DiskIn B W2 bd ρ1 T vf vt bn bl V1) (hB : B ≤ W2.heap.size) (W5 : World) (hb : Below W2.heap.size W2 W5) (N : DT) (bN bL : Nat) (hN : NmAt W5 bN N) (hL : NmAt W5 bL N) (h1 : W2.heap.size ≤ bN) (h2 : W2.heap.size ≤ bL) (hne : bN ≠ bL) :
    ∃ ρ6, DiskIn B ((((((W5.setCell ⟨bd, 7, none⟩ (.map (some bN))).setCell ⟨bd, 8, none⟩ (.map (some bL))).setCell ⟨bd, 9, none⟩ (.slice none 0 0)).setCell ⟨bd, 5, none⟩ (.bool false)).setCell ⟨bd, 2, none⟩ (.int .i64 (-1))).setCell ⟨bd, 3, none⟩ (.int .i64 0)) bd ρ6
        { T with names := N, last := N, turns := [], dead := false, stop := -1, fail := 0 } vf (.slice none 0 0) bN bL V1 ∧
      Out ρ1 ρ6 W2 ((((((W5.setCell ⟨bd, 7, none⟩ (.map (some bN))).setCell ⟨bd, 8, none⟩ (.map (some bL))).setCell ⟨bd, 9, none⟩ (.slice none 0 0)).setCell ⟨bd, 5, none⟩ (.bool false)).setCell ⟨bd, 2, none⟩ (.int .i64 (-1))).setCell ⟨bd, 3, none⟩ (.int .i64 0)) ∧
      Below B W2 ((((((W5.setCell ⟨bd, 7, none⟩ (.map (some bN))).setCell ⟨bd, 8, none⟩ (.map (some bL))).setCell ⟨bd, 9, none⟩ (.slice none 0 0)).setCell ⟨bd, 5, none⟩ (.bool false)).setCell ⟨bd, 2, none⟩ (.int .i64 (-1))).setCell ⟨bd, 3, none⟩ (.int .i64 0)) := by
  have hge := hd.ge
  have hlt := hd.lt
  have hks : ∀ (W : World) (i : Nat) (v : Value), KeepX (fun b => b ≠ bd) W (W.setCell ⟨bd, i, none⟩ v) := fun W i v => KeepX.setCell W ⟨bd, i, none⟩ v (fun h => h rfl)
  have d5 := hd.below hb
  have k2 : KeepX (fun b => b ≠ bd) W5 ((W5.setCell ⟨bd, 7, none⟩ (.map (some bN))).setCell ⟨bd, 8, none⟩ (.map (some bL))) := (hks _ _ _).trans (hks _ _ _)
  obtain ⟨ρ2, hd2, ho2⟩ := hd.setMaps (w' := (W5.setCell ⟨bd, 7, none⟩ (.map (some bN))).setCell ⟨bd, 8, none⟩ (.map (some bL))) bN bL N N ((KeepX.of_below hb).trans k2) (nm_keepX hN k2 (by omega)) (nm_keepX hL k2 (by omega)) (.inr h1) (.inr h2) hne
    (((d5.head.set 7 (.map (some bN))).set 8 (.map (some bL))).congr (ten rfl rfl rfl rfl rfl rfl rfl rfl rfl rfl))
  have hb2 : Below B W2 ((W5.setCell ⟨bd, 7, none⟩ (.map (some bN))).setCell ⟨bd, 8, none⟩ (.map (some bL))) := ((hb.mono hB).setCell (p := ⟨bd, 7, none⟩) hge _).setCell (p := ⟨bd, 8, none⟩) hge _
  generalize (W5.setCell ⟨bd, 7, none⟩ (.map (some bN))).setCell ⟨bd, 8, none⟩ (.map (some bL)) = W6 at *
  obtain ⟨ρ3, hd3, ho3⟩ := hd2.setTurns (w' := W6.setCell ⟨bd, 9, none⟩ (.slice none 0 0)) (.slice none 0 0) [] ((hks W6 9 _).mono fun b _ h => h.1) ((hd2.head.set 9 _).congr (ten rfl rfl rfl rfl rfl rfl rfl rfl rfl rfl)) (World.ownsRow_nil _ _ _ _) (fun g hg => by simp [Value.ownBlock] at hg)
  have hb3 : Below B W2 (W6.setCell ⟨bd, 9, none⟩ (.slice none 0 0)) := hb2.setCell (p := ⟨bd, 9, none⟩) hge _
  generalize W6.setCell ⟨bd, 9, none⟩ (.slice none 0 0) = W7 at *
  have hd4 := hd3.setHead 5 (.bool false) { T with names := N, last := N, turns := [], dead := false } rfl rfl rfl rfl rfl rfl (ten rfl rfl rfl rfl rfl rfl rfl rfl rfl rfl)
  have hd5 := hd4.setHead 2 (.int .i64 (-1)) { T with names := N, last := N, turns := [], dead := false, stop := -1 } rfl rfl rfl rfl rfl rfl (ten rfl rfl rfl rfl rfl rfl rfl rfl rfl rfl)
  have hd6 := hd5.setHead 3 (.int .i64 0) { T with names := N, last := N, turns := [], dead := false, stop := -1, fail := 0 } rfl rfl rfl rfl rfl rfl (ten rfl rfl rfl rfl rfl rfl rfl rfl rfl rfl)
  have hk3 : KeepX (fun b => b ≠ bd) W7 (((W7.setCell ⟨bd, 5, none⟩ (.bool false)).setCell ⟨bd, 2, none⟩ (.int .i64 (-1))).setCell ⟨bd, 3, none⟩ (.int .i64 0)) := ((hks _ _ _).trans (hks _ _ _)).trans (hks _ _ _)
  refine ⟨ρ3, hd6, (ho2.trans ho3).trans (Out.same hk3 fun b h e => by rw [e, hd6.rd] at h; cases h), ((hb3.setCell (p := ⟨bd, 5, none⟩) hge _).setCell (p := ⟨bd, 2, none⟩) hge _).setCell (p := ⟨bd, 3, none⟩) hge _⟩
/-- what holds at each round of the range over the names that are left -/
structure LeftI (B : Nat) (w0 : World) (bd : Nat) (ρ6 : Nat → Role) (S6 : DSt) (vf vt : Value) (bn bl : Nat) (V : Nat → Value) (D : DT) (bm bx rz : Nat) (left : Lit → Bool) (wr : World) (l : List Nat) (fl : Nat → Nat) : Prop where
  disk : ∃ ρ', DiskIn B wr bd ρ' { S6 with fl := fl } vf vt bn bl V ∧ ∀ b, b < w0.heap.size → ρ6 b = .other → ρ' b = .other
  keep : KeepX (fun b => ρ6 b = .other ∧ b ≠ rz ∧ b ≠ bm) w0 wr
  fl1 : ∀ f, visited D left f → fl f = (S6.fb f).length
  fl2 : ∀ f, ¬ visited D left f → fl f = S6.fl f
  set : PSet wr bm l
  sub : ∀ y ∈ l, y ∈ S6.files
  iff : ∀ f ∈ S6.files, f ∈ l ↔ visited D left f
  bxc : wr.cell? ⟨bx, 0, none⟩ = some (.map (some bm))
  below : Below B w0 wr
theorem left_step {B : Nat} {w0 : World} {bd : Nat} {ρ6 : Nat → Role} {S6 : DSt} {vf vt : Value} {bn bl : Nat} {V : Nat → Value} {D : DT} {bm bx rz : Nat} {left : Lit → Bool} {wr : World} {l : List Nat} {fl : Nat → Nat} (h : LeftI B w0 bd ρ6 S6 vf vt bn bl V D bm bx rz left wr l fl)
    (hm : bm < w0.heap.size ∧ ρ6 bm = .other) (hx : bx < w0.heap.size ∧ ρ6 bx = .other) (hz : rz < w0.heap.size ∧ ρ6 rz = .other) (n1 : rz ≠ bm) (n2 : rz ≠ bx) (n3 : bm ≠ bx) (hBz : B ≤ rz) (hBm : B ≤ bm) (w1 : World) (hg : wr.grownBy w1 (some rz)) (f : Nat) (hf : f ∈ S6.files)
    (left' : Lit → Bool) (hv : ∀ g, visited D left' g ↔ visited D left g ∨ g = f) :
    w1.cell? ⟨f, 0, none⟩ = some (V f) ∧ w1.frozen? ⟨f, 1, none⟩ = false ∧ w1.cell? ⟨f, 1, none⟩ = some (.int .i64 (fl f : Int)) ∧ f ≠ bm ∧ f ≠ rz ∧ f ≠ bn ∧ (w1.setCell ⟨f, 1, none⟩ (.int .i64 ((S6.fb f).length : Int))).cell? ⟨bx, 0, none⟩ = some (.map (some bm)) ∧
      ∃ w2 l' fl', (Instr.mapUpdate 77 (.map (some bm)) (ptrB f) (.bool true)).run Try.prog (w1.setCell ⟨f, 1, none⟩ (.int .i64 ((S6.fb f).length : Int))) = .ok () w2 ∧ (w1.setCell ⟨f, 1, none⟩ (.int .i64 ((S6.fb f).length : Int))).grownBy w2 (some bm) ∧ LeftI B w0 bd ρ6 S6 vf vt bn bl V D bm bx rz left' w2 l' fl' := by
  obtain ⟨ρ', hd, hout⟩ := h.disk
  have hsz : w0.heap.size ≤ wr.heap.size := h.keep.size
  have om : ρ' bm = .other := hout _ hm.1 hm.2
  have ox : ρ' bx = .other := hout _ hx.1 hx.2
  have oz : ρ' rz = .other := hout _ hz.1 hz.2
  have kz : KeepX (fun b => b ≠ rz) wr w1 := KeepX.gb hg (fun r e hr => by cases e; exact hr rfl)
  have hd1 : DiskIn B w1 bd ρ' { S6 with fl := fl } vf vt bn bl V := hd.kept (kz.mono fun b _ hb e => hb (by rw [e]; exact oz))
  have hs1 := hg.size
  have hrf : ρ' f = .file := hd.rfile f hf
  have nfm : f ≠ bm := fun e => by rw [e, om] at hrf; cases hrf
  have nfx : f ≠ bx := fun e => by rw [e, ox] at hrf; cases hrf
  have nfz : f ≠ rz := fun e => by rw [e, oz] at hrf; cases hrf
  have nfn : f ≠ bn := fun e => by rw [e, hd.rn] at hrf; cases hrf
  have hfr := hd1.file f hf
  have hks : KeepX (fun b => b ≠ f) w1 (w1.setCell ⟨f, 1, none⟩ (.int .i64 ((S6.fb f).length : Int))) := KeepX.setCell w1 ⟨f, 1, none⟩ _ (fun h => h rfl)
  have hnb : ∀ g, (V f).ownBlock = some g → g ≠ f := fun g hgb e => by
    have := hd.rbytes f hf g hgb
    rw [e, hrf] at this
    cases this
  obtain ⟨ρ2, hd2, ho2⟩ := hd1.turnFile (w' := w1.setCell ⟨f, 1, none⟩ (.int .i64 ((S6.fb f).length : Int))) hf (hks.mono fun b _ h => h.1) (V f) (S6.fb f).length (S6.fb f)
    ((hfr.set 1 _).congr fun j hj => by
      match j, hj with
      | 0, _ => rfl
      | 1, _ => rfl)
    (owns_keepX (hd1.bytes f hf) hks hnb) (fun g hgb => .inl hgb)
  change DiskIn B (w1.setCell ⟨f, 1, none⟩ (.int .i64 ((S6.fb f).length : Int))) bd ρ2 { S6 with fb := updN S6.fb f (S6.fb f), fl := updN fl f (S6.fb f).length } vf vt bn bl (updN V f (V f)) at hd2
  rw [updN_id, updN_id] at hd2
  have hbx1 : w1.cell? ⟨bx, 0, none⟩ = some (.map (some bm)) := (World.cell?_of_block (a := ⟨bx, 0, none⟩) (kz.block bx (by omega) (Ne.symm n2))).trans h.bxc
  have hbx2 : (w1.setCell ⟨f, 1, none⟩ (.int .i64 ((S6.fb f).length : Int))).cell? ⟨bx, 0, none⟩ = some (.map (some bm)) := (World.cell?_of_block (a := ⟨bx, 0, none⟩) (hks.block bx (by omega) (Ne.symm nfx))).trans hbx1
  have hset1 : PSet (w1.setCell ⟨f, 1, none⟩ (.int .i64 ((S6.fb f).length : Int))) bm l := (h.set.of_block (kz.block bm (by omega) (Ne.symm n1))).of_block (hks.block bm (by omega) (Ne.symm nfm))
  have hcell : ∀ y ∈ S6.files, CellB (w1.setCell ⟨f, 1, none⟩ (.int .i64 ((S6.fb f).length : Int))) y := fun y hy => cellB_row (hd2.file y hy)
  obtain ⟨w2, hput, hset2, hg2⟩ := set_put _ hset1 (fun y hy => hcell y (h.sub y hy)) (hcell f hf)
  have hmem : ∀ y, y ∈ (if f ∈ l then l else l ++ [f]) ↔ y ∈ l ∨ y = f := fun y => mem_more
  generalize (if f ∈ l then l else l ++ [f]) = l' at *
  have om2 : ρ2 bm = .other := ho2.role _ (by omega) om
  have km : KeepX (fun b => b ≠ bm) (w1.setCell ⟨f, 1, none⟩ (.int .i64 ((S6.fb f).length : Int))) w2 := KeepX.gb hg2 (fun r e hr => by cases e; exact hr rfl)
  have hd3 := hd2.kept (km.mono fun b _ hb e => hb (by rw [e]; exact om2))
  have hsx : (w1.setCell ⟨f, 1, none⟩ (.int .i64 ((S6.fb f).length : Int))).heap.size = w1.heap.size := by simp [World.setCell]
  have hBf := (hd.base f (by rw [hrf]; simp)).1
  refine ⟨hfr.cell (i := 0) (by omega), hfr.frozen 1, hfr.cell (i := 1) (by omega), nfm, nfz, nfn, hbx2, w2, l', updN fl f (S6.fb f).length, hput, hg2, ?_⟩
  have hnf : ∀ b, b < w0.heap.size → ρ6 b = .other → b ≠ f := fun b hb h0 e => by have := hout b hb h0; rw [e, hrf] at this; cases this
  refine ⟨⟨ρ2, hd3, fun b hb h0 => ho2.role b (by omega) (hout b hb h0)⟩, ?_, ?_, ?_, hset2, ?_, ?_, ?_, ?_⟩
  · refine ⟨by have := hg2.size; omega, fun b hb hc => ?_⟩
    rw [km.block b (by omega) hc.2.2, hks.block b (by omega) (hnf b hb hc.1), kz.block b (by omega) hc.2.1]
    exact h.keep.block b hb hc
  · intro g hgv
    by_cases e : g = f
    · rw [e, updN_same]
    · rw [updN_other _ _ e]; exact h.fl1 g (((hv g).1 hgv).resolve_right e)
  · intro g hgv
    have e : g ≠ f := fun e => hgv ((hv g).2 (.inr e))
    rw [updN_other _ _ e]; exact h.fl2 g (fun hx => hgv ((hv g).2 (.inl hx)))
  · intro y hy
    rcases (hmem y).1 hy with hy | rfl
    · exact h.sub y hy
    · exact hf
  · intro g hgm
    exact (hmem g).trans ((or_congr (h.iff g hgm) Iff.rfl).trans (hv g).symm)
  · exact (World.cell?_of_block (a := ⟨bx, 0, none⟩) (km.block bx (by rw [hsx]; omega) (Ne.symm n3))).trans hbx2
  · have b1 : Below B w0 w1 := h.below.grown hg (by have := (hd.base bd (by rw [hd.rd]; simp)); omega) (fun k e => by cases e; exact hBz)
    have b2 : Below B w0 (w1.setCell ⟨f, 1, none⟩ (.int .i64 ((S6.fb f).length : Int))) := b1.setCell (p := ⟨f, 1, none⟩) hBf _
    exact b2.grown hg2 (by rw [hsx]; have := (hd.base bd (by rw [hd.rd]; simp)); omega) (fun k e => by cases e; exact hBm)
set_option maxRecDepth 100000 in
set_option maxHeartbeats 4000000 in
theorem crash_any (B : Nat) (w : World) (bd : Nat) (S : DSt) (A : Nat → Prop) (h : DiskAv B w bd S A) (hAl : ∀ b, A b → b < w.heap.size) (hok : DOk S) (hne : 0 < S.files.length) (hB : B ≤ w.heap.size)
    (fs : List Int) (fa : Option Addr) (fcap : Nat) (hfr : Row w fa fs.length (intA fs)) (hfc : fs.length ≤ fcap ∧ True) (hfA : fs.length = 0 ∨ A (bOf fa))
    (bs : List Bool) (na : Option Addr) (ncap : Nat) (hnr : Row w na bs.length (boolA bs)) (hnc : bs.length ≤ maxLen) (hnA : bs.length = 0 ∨ A (bOf na)) :
    Calls Try.prog 22 #[.pointer (some ⟨bd, 0, none⟩), .slice fa fs.length fcap, .slice na bs.length ncap] w (CrashPost B A w bd S fs bs) := by
  refine (callsIn_wide (n := 5)).1 ?_
  have hwf : ∀ f, Fence.wide.fn f = True := fun _ => rfl
  obtain ⟨ρ, vf, vt, bn, bl, V, hd, hav⟩ := h
  have hb1 : Below w.heap.size w (w.alloc (.cells #[.slice fa fs.length fcap] 34)) := (Below.refl _ w).alloc (Nat.le_refl _) _
  have hs1 : (w.alloc (.cells #[.slice fa fs.length fcap] 34)).heap.size = w.heap.size + 1 := by simp
  have HOP := Lib.hid (open_any B (w.alloc (.cells #[.slice fa fs.length fcap] 34)) bd S ρ vf vt bn bl V (hd.below hb1) hok)
  rw [hs1] at HOP
  have HD := Lib.hid hd
  have HAV := Lib.hid hav
  have HAL := Lib.hid hAl
  have HOK := Lib.hid hok
  have HNE := Lib.hid hne
  have HBB := Lib.hid hB
  have HFR := Lib.hid hfr
  have HFC := Lib.hid hfc
  have HFA := Lib.hid hfA
  have HNR := Lib.hid hnr
  have HNC := Lib.hid hnc
  have HNA := Lib.hid hnA
  have HBX := Lib.hid (Boxed.new w 34 (.slice fa fs.length fcap))
  clear hd hav hAl hok hne hB hfr hfc hfA hnr hnc hnA hb1 hs1
  refine callsIn_of_wp_marks Try.func22 rfl trivial ?_ rfl
  simp only [Try.ntmps22, List.size_toArray, List.length_cons, List.length_nil, Nat.reduceAdd, Nat.reduceSub, Array.replicate_succ, Array.replicate_zero, List.push_toArray, List.append_toArray, List.nil_append, List.cons_append]
  gi_wp2_with (first | (gi_at_call 42; refine (callsIn_wide.2 HOP.out).mono ?_; rintro e w2 ⟨rfl, l, hcm⟩; have HCM := Lib.hid hcm; clear hcm HOP))
  obtain ⟨hI0, hbw, hz4⟩ := crI_start B w w2 bd ρ S fs vf vt bn bl V l fa fcap HD.out HBB.out HCM.out HFR.out HFC.out
  have HI0 := Lib.hid hI0
  have HBW := Lib.hid hbw
  have HZ4 := Lib.hid hz4
  have hfaw : fs.length = 0 ∨ bOf fa < w.heap.size := by
    rcases Nat.eq_zero_or_pos fs.length with h | h
    · exact .inl h
    · exact .inr (HFR.out.lt h)
  have HFW := Lib.hid hfaw
  clear hI0 hbw hz4 hfaw
  refine wpIn_rangeFunc_R rfl (by omega) (gf := 55) (lb := #[.pointer (some ⟨w.heap.size + 1, 0, none⟩), .pointer (some ⟨w.heap.size + 1 + 1 + 1, 0, none⟩)]) rfl trivial (enters_of Try.func55 (by kernel_rfl) rfl)
    (openIt_any 4 (by omega) (fun _ => False) B bd (w.heap.size + 1) (w.heap.size + 1 + 1 + 1) (w.heap.size + 1 + 1) S HOK.out fs vf vt bn bl l HCM.out.sub HCM.out.iff w2) (fun b h => h.elim) (Below.refl _ _) (fun _ => rfl)
    (CrI B w w2 bd ρ S fs vf vt bn bl l fa) (fun _ _ _ _ => False) (crI_fr B w w2 bd ρ S fs vf vt bn bl l fa HBB.out HZ4.out HFW.out) (fun c X X' s A B hs st hx => hs.elim) HI0.out
    (fun f => { tmps := (.pointer (some ⟨bd, 0, none⟩) :: .slice fa fs.length fcap :: .slice na bs.length ncap :: undef :: .pointer (some ⟨w.heap.size, 0, none⟩) :: undef :: .pointer (some ⟨f, 0, none⟩) :: undef :: undef :: undef :: undef :: undef :: undef :: undef :: .pointer (some ⟨bd, 0, none⟩) :: .func (.func 55) #[] #[.pointer (some ⟨w.heap.size + 1, 0, none⟩), .pointer (some ⟨w.heap.size + 1 + 1 + 1, 0, none⟩)] :: .pointer (some ⟨f, 0, none⟩) :: undef :: undef :: undef :: undef :: undef :: undef :: undef :: undef :: undef :: undef :: undef :: undef :: undef :: undef :: undef :: undef :: undef :: undef :: undef :: undef :: undef :: undef :: undef :: undef :: undef :: undef :: undef :: undef :: undef :: undef :: undef :: undef :: undef :: undef :: undef :: undef :: undef :: undef :: undef :: undef :: undef :: undef :: undef :: undef :: undef :: undef :: undef :: undef :: undef :: undef :: undef :: undef :: undef :: undef :: undef :: undef :: undef :: undef :: undef :: undef :: undef :: undef :: undef :: undef :: undef :: undef :: undef :: undef :: undef :: undef :: undef :: undef :: undef :: undef :: undef :: undef :: undef :: undef :: undef :: undef :: undef :: undef :: undef :: undef :: undef :: undef :: undef :: undef :: undef :: undef :: undef :: undef :: undef :: undef :: undef :: undef :: undef :: undef :: undef :: undef :: undef :: undef :: undef :: undef :: undef :: undef :: undef :: undef :: undef :: undef :: undef :: undef :: undef :: undef :: []).toArray, defers := [] })
    (fun X pre W hi => by obtain ⟨ρ', V', h1, _, _⟩ := hi.disk; exact ⟨⟨ρ', V', h1⟩, hi.x1, hi.x2, hi.set⟩) (fun _ _ _ _ _ _ h _ => h) ?assign ?body ?done ?stop
  case assign =>
    intro l2 f W G hG
    gi_wp2
    exact hG
  case body =>
    rintro l2 X pre f W - hXl hI ⟨hfm, hfp, hob⟩
    obtain ⟨ρ', V', hd', hX', hou'⟩ := hI.disk
    have hfb : (cutS S pre fs).fb f = S.fb f := truncL_other _ _ _ _ _ hfp
    obtain ⟨a, c, hbx, hc1, hc2, hrow, hal⟩ := hI.nums.box
    have hby := hd'.bytes f hfm
    have hfr := hd'.file f hfm
    rw [hfb] at hby
    obtain ⟨a2, c2, hv2⟩ := owns_slice hby
    rw [hv2] at hfr hby
    have f0 : W.cell? ⟨f, 0, none⟩ = some (.slice a2 (S.fb f).length c2) := hfr.cell (i := 0) (by omega)
    have f1 : W.cell? ⟨f, 1, none⟩ = some (.int .i64 (S.fl f : Int)) := hfr.cell (i := 1) (by omega)
    have x4 := hbx.cell
    have hlen : S.fl f < (S.fb f).length := by
      unfold openB at hob
      simp at hob
      exact hob.2
    have hlong := HOK.out.long f hfm
    have HI := Lib.hid hI
    have HFM := Lib.hid hfm
    have HFP := Lib.hid hfp
    have HFB := Lib.hid hfb
    have HD1 := Lib.hid hd'
    have HX1 := Lib.hid hX'
    have HO1 := Lib.hid hou'
    have HV2 := Lib.hid hv2
    have HBY := Lib.hid hby
    have HFR1 := Lib.hid hfr
    have HBX1 := Lib.hid hbx
    have HROW := Lib.hid hrow
    have HAL1 := Lib.hid hal
    have HC1 := Lib.hid (And.intro hc1 hc2)
    clear hI hfm hfp hfb hd' hX' hou' hv2 hby hfr hbx hrow hal hc1 hc2 hob
    by_cases hj : pre.length < fs.length
    · obtain ⟨m, hm⟩ : ∃ m, fs.length - min pre.length fs.length = m + 1 := ⟨fs.length - pre.length - 1, by omega⟩
      have HM := Lib.hid hm
      rw [hm] at x4
      have HJ := Lib.hid hj
      clear hm hj
      have t1 : (0 : Int) < ((m + 1 : Nat) : Int) := by omega
      generalize hdd : S.fb f = d at *
      generalize hll : S.fl f = L at *
      have HDD := Lib.hid hdd
      have HLL := Lib.hid hll
      clear hdd hll
      obtain ⟨q, hq⟩ : ∃ q, q = d.length - L + 1 := ⟨_, rfl⟩
      obtain ⟨p, hp⟩ : ∃ p, p = d.length - L := ⟨_, rfl⟩
      have y1 : IntKind.i64.wrap ((d.length : Int) - (L : Int)) = (p : Int) := by rw [show (d.length : Int) - (L : Int) = (p : Int) by omega]; exact IntWalk.i64_in _ (by omega)
      have y2 : IntKind.i64.wrap ((p : Int) + 1) = (q : Int) := by rw [show (p : Int) + 1 = (q : Int) by omega]; exact IntWalk.i64_in _ (by omega)
      have HQ := Lib.hid (And.intro hq hp)
      clear hq hp
      gi_wp2
      refine wpIn_region_still (by kernel_rfl) (by kernel_rfl) (by kernel_rfl) ?_
      repeat still_step
      refine wpStill_nil ?_
      change Exit.then _ _ _ _ W.drew
      clear y1 y2
      have hcap : d.length ≤ c2 := by
        rcases HBY.out.2 with ⟨h, h2⟩ | ⟨g, cap, cur, h, _, _, h3, _⟩
        · omega
        · injection h with _ _ h; omega
      have HR0 : Row W a (m + 1) (fun k => intA fs (min pre.length fs.length + k)) := by have := HROW.out; rw [HM.out] at this; exact this
      obtain ⟨x, hx⟩ : ∃ x, x = fs.getD pre.length 0 := ⟨_, rfl⟩
      have HXX := Lib.hid hx
      have xc : W.cell? ⟨bOf a, oOf a, none⟩ = some (.int .i64 x) := by
        have h1 := HR0.cell 0 (by omega)
        have h2 : min pre.length fs.length + 0 = pre.length := by have := HJ.out; omega
        unfold intA at h1
        rw [h2, ← hx] at h1
        exact h1
      have hix : ∀ W', (Instr.indexAt 34 (.slice a (m + 1) c) (.int .i64 0)).run Try.prog W' = .ok (.pointer (some ⟨bOf a, oOf a, none⟩)) W' := fun W' => run_ix (P := Try.prog) 34 (by kernel_rfl) size_int4 a (m + 1) c HR0.at_ .i64 W' 0 (by omega)
      have hq0 : ¬ q = 0 := by have := HQ.out.1; omega
      obtain ⟨r, hr⟩ : ∃ r, r = Int.tmod x (q : Int) := ⟨_, rfl⟩
      obtain ⟨v, hv⟩ : ∃ v, v = leftN L d.length x := ⟨_, rfl⟩
      obtain ⟨u, hu⟩ : ∃ u, u = v - L := ⟨_, rfl⟩
      obtain ⟨hv1, hv2⟩ : L ≤ v ∧ v ≤ d.length := by rw [hv]; exact leftN_le L d.length x (by omega)
      have hgo : Int.tmod (r + (q : Int)) (q : Int) = (u : Int) := by
        have := leftN_go L d.length x
        rw [← HQ.out.1, ← hr, ← hv, ← hu] at this
        exact this
      have hrb : -(q : Int) < r ∧ r < (q : Int) := by
        have h0 : (0 : Int) < (q : Int) := by omega
        rw [hr]
        exact ⟨Int.lt_tmod_of_pos x h0, Int.tmod_lt_of_pos x h0⟩
      have hq3 : q ≤ 200001 := by have := HQ.out.1; omega
      have z1 : IntKind.i64.wrap (r + (q : Int)) = r + (q : Int) := IntWalk.i64_in _ (by omega)
      obtain ⟨s, hs⟩ : ∃ s, s = r + (q : Int) := ⟨_, rfl⟩
      rw [← hs] at z1 hgo
      have z0 : Int.tmod x (q : Int) = r := hr.symm
      rw [hs] at z1
      have z2 : IntKind.i64.wrap (r + (q : Int)) = s := by rw [z1, hs]
      have z3 : IntKind.i64.wrap ((L : Int) + (u : Int)) = (v : Int) := by rw [show (L : Int) + (u : Int) = (v : Int) by omega]; exact IntWalk.i64_in _ (by omega)
      have b1 : (v : Int) ≤ (c2 : Int) := by omega
      have b2 : v ≤ c2 := by omega
      have HVV := Lib.hid hv
      have HV12 := Lib.hid (And.intro hv1 hv2)
      clear hr hv hu hs z1 hrb hq3 hv1 hv2
      clear hx
      gi_wp2
      refine wpIn_region_still_tail 22 (by kernel_rfl) (by kernel_rfl) (by kernel_rfl) ?_
      simp only [List.take_succ_cons, List.take_zero, List.drop_succ_cons, List.drop_zero]
      change wpStill _ _ W.drew.drew (fun a' => wpListIn _ _ _ _ _ _ a' W.drew.drew) _ _
      repeat still_step
      refine wpStill_nil ?_
      change wpListIn _ _ _ _ _ _ _ W.drew.drew
      have hfz : W.frozen? ⟨f, 0, none⟩ = false := HFR1.out.frozen 0
      have hbz : W.frozen? ⟨w.heap.size, 0, none⟩ = false := HBX1.out.frozen
      have hoth : ρ' w.heap.size = .other := by
        refine HO1.out _ (by have := HZ4.out; omega) ?_
        by_cases e : ρ w.heap.size = .other
        · exact e
        · have := (HD.out.base _ e).2; omega
      have hne1 : ¬ f = w.heap.size := fun e => by have := HD1.out.rfile f HFM.out; rw [e, hoth] at this; cases this
      have hne2 : ¬ w.heap.size = f := fun e => hne1 e.symm
      have hcc := HC1.out
      rw [HM.out] at hcc
      have hmn : min pre.length fs.length + 1 = pre.length + 1 := by have := HJ.out; omega
      have HRC : Hid (Row W (cutB a c 1) m (fun k => intA fs (pre.length + 1 + k))) := by
        have h1 := cut_row HR0 c 1 (m + 1) (by omega) (Nat.le_refl _) hcc.1
        rw [show m + 1 - 1 = m by omega] at h1
        refine h1.congr fun k _ => ?_
        rw [show min pre.length fs.length + (1 + k) = min pre.length fs.length + 1 + k by omega, hmn]
      have HALC : Hid (m = 0 ∨ bOf (cutB a c 1) = bOf fa) := by
        rcases Nat.eq_zero_or_pos m with h | h
        · exact .inl h
        · refine .inr ?_
          have h2 := HAL1.out.resolve_left (by rw [HM.out]; omega)
          unfold cutB
          rw [if_neg (by omega)]
          cases a with
          | none => exact h2
          | some ad => exact h2
      have HFIN : Hid (∀ (a' : Option Addr) (c' : Nat), a' = cutB a c 1 → c' = c - 1 → ownPostX (fun x => False) (CrI B w w2 bd ρ S fs vf vt bn bl l fa) (fun x x_1 x_2 x_3 => False) X (pre ++ [f]) W .normal { tmps := #[], defers := [] } (((W.setCell ⟨f, 0, none⟩ (.slice a2 v c2)).setCell ⟨w.heap.size, 0, none⟩ (.slice a' m c')).drewN 2)) := by
        rintro a' c' rfl rfl
        have hjj := HJ.out
        obtain ⟨k1, k2⟩ := crI_cut B w w2 bd ρ S fs vf vt bn bl l fa X pre W HI.out HBB.out HZ4.out (fun b hb => by
            by_cases e : ρ b = .other
            · exact e
            · have := (HD.out.base _ e).2; omega) f HFM.out HFP.out HJ.out (by rw [HDD.out, HLL.out]; exact hlen) ρ' V' HD1.out HX1.out HO1.out a2 c2 (by rw [HDD.out]; exact HV2.out) v (by rw [HDD.out, HLL.out, ← HXX.out]; exact HVV.out) m (c - 1) (cutB a c 1) (by have := HM.out; omega) ⟨by omega, trivial⟩ HRC.out HALC.out HFW.out (HFA.out.imp id (fun h => HAV.out _ h))
        exact ⟨k1.drewN 2, ⟨k1.size, fun b _ h => h.elim⟩, (crI_fr B w w2 bd ρ S fs vf vt bn bl l fa HBB.out HZ4.out HFW.out).step k2 ((StepX.refl _ _).drewN 2)⟩
      clear HR0 hcap hlong hq0 hgo z0 z2 z3 f1 xc hix hlen hoth b1 b2 hmn
      rcases Nat.eq_or_lt_of_le (show 1 ≤ c by omega) with g | g
      · obtain rfl : c = 1 := g.symm
        obtain rfl : m = 0 := by omega
        have hcut : cutB a 1 1 = a := by unfold cutB; rw [if_pos rfl]
        rw [hcut] at HFIN
        have HF2 := Lib.hid (HFIN.out _ _ rfl rfl)
        clear HFIN hcut
        gi_wp2
        exact HF2.out
      · have hcut : cutB a c 1 = Option.map (fun x => x.add 1) a := by unfold cutB; rw [if_neg (by omega)]
        rw [hcut] at HFIN
        have HF2 := Lib.hid (HFIN.out _ _ rfl rfl)
        clear HFIN hcut
        have g9 : ¬ c = 1 := by omega
        gi_wp2
        exact HF2.out
    · have hm : fs.length - min pre.length fs.length = 0 := by omega
      rw [hm] at x4
      have HJ : Hid (fs.length ≤ pre.length) := by show fs.length ≤ pre.length; omega
      have HF2 : Hid (ownPostX (fun x => False) (CrI B w w2 bd ρ S fs vf vt bn bl l fa) (fun x x_1 x_2 x_3 => False) X (pre ++ [f]) W .normal { tmps := #[], defers := [] } W) := by
        have hI := HI.out
        have e1 : min (pre ++ [f]).length fs.length = min pre.length fs.length := by have := HJ.out; rw [List.length_append]; omega
        refine ⟨KeepX.refl _ _, KeepX.refl _ _, ⟨?_, hI.x1, hI.x2, hI.set, ?_, hI.keep, hI.below, hI.above, hI.size⟩⟩
        · rw [cut_none S pre fs f HJ.out]; exact hI.disk
        · rw [e1]; exact hI.nums
      clear hm hj f0 f1 hlong hlen
      gi_wp2
      exact HF2.out
  case done =>
    rintro D X xs W2 hD hXD rfl hI hk
    have HI := Lib.hid hI
    have HK := Lib.hid hk
    have HXD := Lib.hid hXD
    have HDD := Lib.hid hD
    clear hI hk hXD hD HI0 HCM HBX
    obtain ⟨ρ1, V1, hd, hX, hout⟩ := HI.out.disk
    have c8 : W2.cell? ⟨bd, 8, none⟩ = some (.map (some bl)) := hd.head.cell (i := 8) (by omega)
    have HD1 := Lib.hid hd
    have HX1 := Lib.hid hX
    have HO1 := Lib.hid hout
    have c9 : W2.cell? ⟨bd, 9, none⟩ = some vt := hd.head.cell (i := 9) (by omega)
    have hnm : NmAt W2 bl S.last := hd.last
    obtain ⟨at', ct, hvt⟩ := owns_slice hd.turns
    subst hvt
    have hbd2 := hd.lt
    have HCL := Lib.hid (clone_any W2 bl S.last hnm)
    clear hd hX hout hnm
    gi_wp2_with fail
    refine (callsIn_wide.2 HCL.out).mono ?_
    rintro e W3 ⟨rfl, hn3, hb3, hs3⟩
    have HN3 := Lib.hid hn3
    have HB3 := Lib.hid hb3
    have HS3 := Lib.hid hs3
    have k9 : W3.cell? ⟨bd, 9, none⟩ = some (.slice at' S.turns.length ct) := (hb3.cell (p := ⟨bd, 9, none⟩) hbd2).trans c9
    clear hn3 hb3 hs3 c8 c9 HCL
    gi_wp2
    refine wpIn_wide.2 ?_
    clear k9
    have hlen := HOK.out.many.2
    change (S.turns.length ≤ 100000) at hlen
    go_loopw [9, 10, 65] (fun _ _ v65 wr => ∃ k, k ≤ S.turns.length ∧ v65 = .int .i64 ((k : Nat) : Int) ∧ NmAt wr W2.heap.size (nowD S.last (S.turns.take k) bs) ∧ W3.grownBy wr (some W2.heap.size)) (fun _ _ v65 _ => S.turns.length - (intOf v65).toNat)
    case atStart => exact ⟨0, Nat.zero_le _, rfl, by rw [List.take_zero, nowD_nil]; exact HN3.out, gb_refl _ _⟩
    case round =>
      obtain ⟨k, hk, rfl, hnk, hgk⟩ := hrel
      have HNK := Lib.hid hnk
      have HGK := Lib.hid hgk
      clear hnk hgk
      by_cases hlt : k < S.turns.length
      · obtain ⟨g, cap, hform⟩ := owns_form HD1.out.turns (by show 0 < S.turns.length; omega)
        injection hform with h1 h2 h3
        clear h2 h3
        subst h1
        have hgl : g < W2.heap.size := (HD1.out.turns.lt g rfl).2
        have hgk : wr.heap[g]? = W2.heap[g]? := (HGK.out.block g (Nat.lt_of_lt_of_le hgl HB3.out.size) (fun e => by have := Option.some.inj e; omega)).trans (HB3.out.block g hgl)
        obtain ⟨t0, t1, t2, t3⟩ := turn_cells (T := S.turns) HD1.out.turns k hlt
        rw [← World.cell?_of_block (a := ⟨g, k * 4, none⟩) hgk] at t0
        rw [← World.cell?_of_block (a := ⟨g, k * 4 + 1, none⟩) hgk] at t1
        rw [← World.cell?_of_block (a := ⟨g, k * 4 + 2, none⟩) hgk] at t2
        rw [← World.cell?_of_block (a := ⟨g, k * 4 + 3, none⟩) hgk] at t3
        have HSN : Hid (nowD S.last (S.turns.take (k + 1)) bs = if bs.getD k true then leadD (nowD S.last (S.turns.take k) bs) S.turns[k] else nowD S.last (S.turns.take k) bs) := by
          unfold Hid
          rw [List.take_succ_eq_append_getElem hlt, nowD_snoc, List.length_take, Nat.min_eq_left hk]
        have HTK := Lib.hid (HOK.out.tkind _ (List.getElem_mem hlt))
        have HTN := Lib.hid (HOK.out.tnames _ (List.getElem_mem hlt))
        obtain ⟨ns1, ns2, ns3⟩ := now_props S.files (S.turns.take k) bs S.last HD.out.last.tidy HOK.out.last (fun u hu => HOK.out.turns u (List.mem_of_mem_take hu)) (fun u hu => HOK.out.tkind u (List.mem_of_mem_take hu))
        have HSZ : Hid (size (nowD S.last (S.turns.take k) bs) < maxLen) := by
          have h1 := HOK.out.small.2
          have h2 : (S.turns.take k).length ≤ S.turns.length := by rw [List.length_take]; omega
          unfold Hid maxLen
          omega
        have hrn : bs.length = 0 ∨ (bOf na < W2.heap.size ∧ wr.heap[bOf na]? = w.heap[bOf na]?) := by
          rcases Nat.eq_zero_or_pos bs.length with h0 | h0
          · exact .inl h0
          · have hA := HNA.out.resolve_left (by omega)
            have hl := HAL.out _ hA
            have hk2 := HI.out.keep.block _ hl ⟨HAV.out _ hA, hl⟩
            have hl2 := Nat.lt_of_lt_of_le hl HI.out.keep.size
            exact .inr ⟨hl2, ((HGK.out.block _ (Nat.lt_of_lt_of_le hl2 HB3.out.size) (fun e => by have := Option.some.inj e; omega)).trans (HB3.out.block _ hl2)).trans hk2⟩
        have HRN := Lib.hid hrn
        clear hgk ns1 ns2 ns3 hrn
        generalize S.turns[k] = t at *
        obtain ⟨tk, ta, tb, tf⟩ := t
        simp only at *
        have hsw : W3.heap.size ≤ wr.heap.size := HGK.out.size
        have hnv := HNK.out
        have hlead := lead_any (wr.alloc (.cells #[.int .i64 tk, .string ta, .string tb, pF tf] 66)) W2.heap.size _ (hnv.of_block (Below.heap_alloc wr _ _ hnv.lt)) HSZ.out ⟨tk, ta, tb, tf⟩ HTN.out.1 HTN.out.2 HTK.out
        have HGA : Hid (W3.grownBy (wr.alloc (.cells #[.int .i64 tk, .string ta, .string tb, pF tf] 66)) (some W2.heap.size)) := gb_none HGK.out (World.grownBy_alloc wr _ none)
        have HNA2 : Hid (NmAt (wr.alloc (.cells #[.int .i64 tk, .string ta, .string tb, pF tf] 66)) W2.heap.size (nowD S.last (S.turns.take k) bs)) := hnv.of_block (Below.heap_alloc wr _ _ hnv.lt)
        have hrow : k < bs.length → (wr.alloc (.cells #[.int .i64 tk, .string ta, .string tb, pF tf] 66)).cell? ⟨bOf na, oOf na + k, none⟩ = some (.bool (bs.getD k false)) := fun hkb => by
          obtain ⟨h1, h2⟩ := HRN.out.resolve_left (by omega)
          have h3 := HNR.out.cell k hkb
          have hw : bOf na < wr.heap.size := Nat.lt_of_lt_of_le (Nat.lt_of_lt_of_le h1 HB3.out.size) hsw
          exact (World.cell?_of_block (a := ⟨bOf na, oOf na + k, none⟩) ((Below.heap_alloc wr _ _ hw).trans h2)).trans h3
        unfold turnA at hlead
        simp only at hlead
        obtain ⟨pp, hpp⟩ : ∃ pp, pF tf = .pointer pp := by cases tf <;> exact ⟨_, rfl⟩
        simp only [hpp] at hlead HGA HNA2 hrow t3
        clear hpp
        have HLD := Lib.hid hlead
        have HROW := Lib.hid hrow
        clear hlead hnv hrow
        by_cases hkb : k < bs.length
        · have rc := HROW.out hkb
          have d1 : decide (bs.length ≤ k) = false := by simp; omega
          have d2 : decide ((bs.length : Int) ≤ (k : Int)) = false := by simp; omega
          have hixn := run_ix (P := Try.prog) 39 (by kernel_rfl) size_bool4 na bs.length ncap HNR.out.at_ .i64
          have eb : bs.getD k true = bs.getD k false := by
            rw [List.getD_eq_getElem?_getD, List.getD_eq_getElem?_getD, List.getElem?_eq_getElem hkb]; rfl
          rw [eb] at HSN
          clear eb HROW
          generalize bs.getD k false = bv at *
          cases bv with
          | true =>
            have HS2 : Hid (nowD S.last (S.turns.take (k + 1)) bs = leadD (nowD S.last (S.turns.take k) bs) ⟨tk, ta, tb, tf⟩) := HSN.out
            clear HSN
            go_wp2_with (go_at_call 43; refine HLD.out.mono ?_; rintro e w5 ⟨rfl, hn5, hg5⟩; have HN5 := Lib.hid hn5; have HG5 := Lib.hid (gb_trans HGA.out hg5); clear hn5 hg5)
            go_roundw
            case rel => exact ⟨k + 1, by omega, by go_num, by rw [HS2.out]; exact HN5.out, HG5.out⟩
            case measure => simp [intOf]; omega
          | false =>
            have HS2 : Hid (nowD S.last (S.turns.take (k + 1)) bs = nowD S.last (S.turns.take k) bs) := HSN.out
            clear HSN
            go_wp2_with fail
            go_roundw
            case rel => exact ⟨k + 1, by omega, by go_num, by rw [HS2.out]; exact HNA2.out, HGA.out⟩
            case measure => simp [intOf]; omega
        · have d1 : (bs.length : Int) ≤ (k : Int) := by omega
          have d2 : bs.length ≤ k := by omega
          have eb : bs.getD k true = true := by
            rw [List.getD_eq_getElem?_getD, List.getElem?_eq_none d2]; rfl
          rw [eb] at HSN
          have HS2 : Hid (nowD S.last (S.turns.take (k + 1)) bs = leadD (nowD S.last (S.turns.take k) bs) ⟨tk, ta, tb, tf⟩) := HSN.out
          clear HSN eb HROW hkb
          go_wp2_with (go_at_call 43; refine HLD.out.mono ?_; rintro e w5 ⟨rfl, hn5, hg5⟩; have HN5 := Lib.hid hn5; have HG5 := Lib.hid (gb_trans HGA.out hg5); clear hn5 hg5)
          go_roundw
          case rel => exact ⟨k + 1, by omega, by go_num, by rw [HS2.out]; exact HN5.out, HG5.out⟩
          case measure => simp [intOf]; omega
      · obtain rfl : k = S.turns.length := by omega
        have hnk := HNK.out
        rw [List.take_length] at hnk
        have HNK2 := Lib.hid hnk
        clear hnk HNK hlt hk
        go_wp2_with fail
        refine wpIn_wide.2 ?_
        have HCL := Lib.hid (clone_any wr W2.heap.size _ HNK2.out)
        have hmm := @run_makeMap Try.prog
        have hFB : Hid (∀ W5, Below wr.heap.size wr W5 → Below W2.heap.size W2 W5) := fun W5 hb => ((HB3.out.grown HGK.out HB3.out.size (fun k e => by cases e; exact Nat.le_refl _))).trans (hb.mono (Nat.le_trans HB3.out.size HGK.out.size))
        go_upto_region 16 with (first
          | (go_at_call 41; go_loud (refine HCL.out.mono ?_; rintro e w5 ⟨rfl, hn5, hb5, hs5⟩; have HN5 := Lib.hid hn5; have HB5 := Lib.hid hb5; have HS5 := Lib.hid hs5; have d5 := HD1.out.below (hFB.out _ hb5); have k7 := d5.head.cell (i := 7) (by omega); have k8 := d5.head.cell (i := 8) (by omega); have k9 := d5.head.cell (i := 9) (by omega); have k5 := d5.head.cell (i := 5) (by omega); have k2 := d5.head.cell (i := 2) (by omega); have k3 := d5.head.cell (i := 3) (by omega); have f7 := d5.head.frozen 7; have f8 := d5.head.frozen 8; have f9 := d5.head.frozen 9; have f5 := d5.head.frozen 5; have f2 := d5.head.frozen 2; have f3 := d5.head.frozen 3; simp only [diskV] at k7 k8 k9 k5 k2 k3; clear hn5 hb5 hs5 d5))
          | fail)
        clear k7 k8 k9 k5 k2 k3 f7 f8 f9 f5 f2 f3 HCL
        have hB2 : B ≤ W2.heap.size := Nat.le_trans HBB.out HI.out.keep.size
        have hrw : W2.heap.size < wr.heap.size := HNK2.out.lt
        obtain ⟨ρ6, hd6, ho6, hb6⟩ := crash_heads HD1.out hB2 w5 (hFB.out _ HB5.out) (nowD S.last S.turns bs) W2.heap.size wr.heap.size (HNK2.out.of_block (HB5.out.block _ HNK2.out.lt)) HN5.out (Nat.le_refl _) (by omega) (by omega)
        generalize ((((((w5.setCell ⟨bd, 7, none⟩ (.map (some W2.heap.size))).setCell ⟨bd, 8, none⟩ (.map (some wr.heap.size))).setCell ⟨bd, 9, none⟩ (.slice none 0 0)).setCell ⟨bd, 5, none⟩ (.bool false)).setCell ⟨bd, 2, none⟩ (.int .i64 (-1))).setCell ⟨bd, 3, none⟩ (.int .i64 0)) = W6 at *
        obtain ⟨_, hnk6, _⟩ := now_props S.files S.turns bs S.last HD.out.last.tidy HOK.out.last HOK.out.turns HOK.out.tkind
        have HNO := Lib.hid hnk6
        have hdn := hd6.names
        have hn7 : NmAt ((W6.alloc (.map #[] 0)).alloc (.cells #[.map (some W6.heap.size)] 77)) W2.heap.size (nowD S.last S.turns bs) := (hdn.of_block (Below.heap_alloc W6 _ _ hdn.lt)).of_block (Below.heap_alloc _ _ _ (by simp; have := hdn.lt; omega))
        have HN7 := Lib.hid hn7
        have HD6 := Lib.hid hd6
        have HO6 := Lib.hid ho6
        have HB6 := Lib.hid hb6
        have HB2 := Lib.hid hB2
        have HRW := Lib.hid hrw
        clear hd6 ho6 hb6 hB2 hrw hnk6 hdn hn7 HN5 HNK2 HB5 HS5 hFB
        have HNC2 := Lib.hid HD6.out.names.canon
        clear HGK
        generalize wr.heap.size = bL at *
        have hS6 : ∃ S6 : DSt, S6 = { cutS S (opened S S.files.length) fs with names := nowD S.last S.turns bs, last := nowD S.last S.turns bs, turns := [], dead := false, stop := -1, fail := 0 } := ⟨_, rfl⟩
        obtain ⟨S6, hS6⟩ := hS6
        rw [← hS6] at HD6
        have HS6 := Lib.hid hS6
        clear hS6
        generalize hNN : nowD S.last S.turns bs = N at *
        have HNN := Lib.hid hNN
        clear hNN
        go_wp2_with (first | (at_range; refine wpList_range_own _ rfl _ 56 rfl 9 62 law_str Try.underlying56 fileR W2.heap.size (size N) N rfl HN7.out ?_; intro w0 hrg0 hg0 hs0) | fail)
        have hs7 : ((W6.alloc (.map #[] 0)).alloc (.cells #[.map (some W6.heap.size)] 77)).heap.size = W6.heap.size + 1 + 1 := by simp
        have hps : PSet ((W6.alloc (.map #[] 0)).alloc (.cells #[.map (some W6.heap.size)] 77)) W6.heap.size [] := (PSet.made W6).of_block (Below.heap_alloc _ _ _ (by simp))
        have hbx : ((W6.alloc (.map #[] 0)).alloc (.cells #[.map (some W6.heap.size)] 77)).cell? ⟨W6.heap.size + 1, 0, none⟩ = some (.map (some W6.heap.size)) := by
          have h := (Boxed.new (W6.alloc (.map #[] 0)) 77 (.map (some W6.heap.size))).cell
          rwa [World.size_alloc] at h
        have hb7 : Below W6.heap.size W6 ((W6.alloc (.map #[] 0)).alloc (.cells #[.map (some W6.heap.size)] 77)) := ((Below.refl _ W6).alloc (Nat.le_refl _) _).alloc (by simp) _
        generalize (W6.alloc (.map #[] 0)).alloc (.cells #[.map (some W6.heap.size)] 77) = W7 at *
        have hk7 : KeepX (fun _ => True) W7 w0 := KeepX.gb hg0 (fun r e => by cases e)
        have hb8 : Below W6.heap.size W6 w0 := hb7.grown hg0 hb7.size (fun k e => by cases e)
        have HNM : Hid (W2.heap.size < W6.heap.size) := HD6.out.names.lt
        have HOT : Hid (∀ b, W6.heap.size ≤ b → ρ6 b = .other) := fun b hb => by
          by_cases e : ρ6 b = .other
          · exact e
          · have := (HD6.out.base b e).2; omega
        have HC0 : Hid (LeftI B w0 bd ρ6 S6 vf (.slice none 0 0) W2.heap.size bL V1 N W6.heap.size (W6.heap.size + 1) (W6.heap.size + 1 + 1) (has N) w0 [] S6.fl) :=
          ⟨⟨ρ6, HD6.out.below hb8, fun b _ h => h⟩, KeepX.refl _ _, fun f h => absurd h (visited_start _ _), fun f _ => rfl, hps.of_block (hk7.block _ hps.lt trivial), fun y hy => (by cases hy), fun f _ => ⟨fun h => (by cases h), fun h => absurd h (visited_start _ _)⟩,
            (World.cell?_of_block (a := ⟨W6.heap.size + 1, 0, none⟩) (hk7.block _ (by show W6.heap.size + 1 < _; omega) trivial)).trans hbx, Below.refl _ _⟩
        rw [hs7] at hs0 hrg0
        have HS0 := Lib.hid hs0
        have HB8 := Lib.hid hb8
        have HRG := Lib.hid hrg0
        generalize hrz : W6.heap.size + 1 + 1 = rz at *
        have HRZ : Hid (rz = W6.heap.size + 2) := hrz.symm
        have HZ0 : Hid (w0.heap.size = rz + 1) := HS0.out
        clear hs7 hps hbx hb7 hk7 hb8 hrg0 hg0 hs0 hrz HS0 HN7 hmm
        go_loopw [13] (fun _ wx => ∃ left cnt l fl, wx.ranges Try.prog 9 fileR W2.heap.size rz (size N) N left cnt ∧ LeftI B w0 bd ρ6 S6 vf (.slice none 0 0) W2.heap.size bL V1 N W6.heap.size (W6.heap.size + 1) rz left wx l fl) (fun _ wx => wx.rangeLeft W2.heap.size rz)
        case atStart => exact ⟨_, _, _, _, HRG.out, HC0.out⟩
        case round =>
          obtain ⟨left, cnt, lc, fl, hrg, hli⟩ := hrel
          have HLI := Lib.hid hli
          clear hli HC0 HRG
          go_wp2_with (first | (at_next; refine wpList_next_ranges _ rfl _ rfl 9 law_str fileR Value.string pF inv_key inv_val W2.heap.size rz (size N) N left cnt rfl hrg ?_ ?_) | fail)
          · intro _ hl0
            have hve := fun f => visited_end HNC2.out HNO.out.leads left hl0 f
            have HVE := Lib.hid hve
            obtain ⟨ρ7, hd7, hr7⟩ := HLI.out.disk
            have hfe : S6.files = S.files := by rw [HS6.out]; rfl
            have hz := HRZ.out
            have hz0 := HZ0.out
            have hnm := HNM.out
            have o1 : ρ7 (W6.heap.size + 1) = .other := hr7 _ (by omega) (HOT.out _ (by omega))
            have o2 : ρ7 W6.heap.size = .other := hr7 _ (by omega) (HOT.out _ (by omega))
            have hdel := del_any B wr S6.files lc (by rw [hfe]; exact HNE.out) (by rw [hfe]; exact HOK.out.many.1) vf hd7.files (W6.heap.size + 1) W6.heap.size HLI.out.bxc HLI.out.set (fun y hy => cellB_row (hd7.file y (HLI.out.sub y hy))) (fun y hy => cellB_row (hd7.file y hy))
              (fun g hg => ⟨fun e => (by have := hd7.rf g hg; rw [e, o1] at this; cases this), fun e => (by have := hd7.rf g hg; rw [e, o2] at this; cases this), fun f hf e => (by have := hd7.rf g hg; rw [e, hd7.rfile f hf] at this; cases this), fun y hy e => (by have := hd7.rf g hg; rw [e, hd7.rfile y (HLI.out.sub y hy)] at this; cases this)⟩)
            have HDEL := Lib.hid hdel
            have HD7 := Lib.hid hd7
            have HR7 := Lib.hid hr7
            have HFE := Lib.hid hfe
            have c6 : wr.cell? ⟨bd, 6, none⟩ = some vf := hd7.head.cell (i := 6) (by omega)
            have ebx := HLI.out.bxc
            obtain ⟨av, cv, hvf⟩ := owns_slice hd7.files
            rw [hvf] at c6 HDEL
            have HVF := Lib.hid hvf
            clear hve hd7 hr7 hfe hz hz0 hnm o1 o2 hdel hrg hl0 hvf
            go_wp2_with (first | (go_at_call 44; refine HDEL.out.mono ?_; rintro e w9 ⟨g, cap, hgv, rfl, how, hg9⟩; have HGV := Lib.hid hgv; have HOW := Lib.hid how; have HG9 := Lib.hid hg9; have hh9 := row_gb HD7.out.head hg9 (fun e => (by have h1 := HD7.out.rf bd (by rw [HVF.out, HGV.out]; exact e.symm); rw [HD7.out.rd] at h1; cases h1)); have k6 := hh9.cell (i := 6) (by omega); have f6 := hh9.frozen 6; have HH9 := Lib.hid hh9; simp only [diskV] at k6; rw [HVF.out] at k6; clear hgv how hg9 hh9 HDEL) | fail)
            have hgv2 : vf = .slice (some ⟨g, 0, none⟩) S6.files.length cap := by rw [HVF.out, HGV.out]
            have hgf : ρ7 g = .files := HD7.out.rf g (by rw [hgv2]; rfl)
            have kg : KeepX (fun b => b ≠ g) wr w9 := KeepX.gb HG9.out (fun r e h => by cases e; exact h rfl)
            have ks : KeepX (fun b => b ≠ bd) w9 (w9.setCell ⟨bd, 6, none⟩ (.slice (some ⟨g, 0, none⟩) (List.filter (fun f => decide (f ∈ lc)) S6.files).length cap)) := KeepX.setCell w9 ⟨bd, 6, none⟩ _ (fun h => h rfl)
            have hgb : g ≠ bd := fun e => by rw [e, HD7.out.rd] at hgf; cases hgf
            have hsz9 : (w9.setCell ⟨bd, 6, none⟩ (.slice (some ⟨g, 0, none⟩) (List.filter (fun f => decide (f ∈ lc)) S6.files).length cap)).heap.size = w9.heap.size := by simp [World.setCell]
            obtain ⟨ρ8, hd8, ho8⟩ := HD7.out.setFiles (w' := w9.setCell ⟨bd, 6, none⟩ (.slice (some ⟨g, 0, none⟩) (List.filter (fun f => decide (f ∈ lc)) S6.files).length cap)) (.slice (some ⟨g, 0, none⟩) (List.filter (fun f => decide (f ∈ lc)) S6.files).length cap) (List.filter (fun f => decide (f ∈ lc)) S6.files)
              (fun f hf => (List.mem_filter.1 hf).1) ((kg.mono fun b _ h e => h.2 (by rw [hgv2, e]; rfl)).trans (ks.mono fun b _ h => h.1)) ((HH9.out.set 6 _).congr (ten rfl rfl rfl rfl rfl rfl rfl rfl rfl rfl))
              (owns_keepX HOW.out ks (fun b hb e => hgb (by rw [← e]; exact Option.some.inj hb))) (fun b hb => .inl (by rw [hgv2]; exact hb))
            have hst : ({ S6 with fl := fl, files := List.filter (fun f => decide (f ∈ lc)) S6.files } : DSt) = crashS S fs bs := by
              have e1 : fl = fun f => if inD N f = true then (truncL S.fl (S.files.filter (openB S)) fs S.fb f).length else S.fl f := by
                funext f
                have hop : opened S S.files.length = S.files.filter (openB S) := by unfold opened; rw [List.take_length]
                by_cases hv : inD N f = true
                · rw [if_pos hv, HLI.out.fl1 f ((HVE.out f).2 hv), HS6.out]
                  show (truncL S.fl (opened S S.files.length) fs S.fb f).length = _
                  rw [hop]
                · rw [if_neg hv, HLI.out.fl2 f (fun h => hv ((HVE.out f).1 h)), HS6.out]
                  rfl
              have e2 : List.filter (fun f => decide (f ∈ lc)) S6.files = S.files.filter (inD N) := by
                rw [HFE.out]
                refine List.filter_congr fun f hf => ?_
                have h1 := (HLI.out.iff f (by rw [HFE.out]; exact hf)).trans (HVE.out f)
                cases hv : inD N f with
                | true => simpa using h1.2 hv
                | false =>
                  have : ¬ f ∈ lc := fun h => by rw [h1.1 h] at hv; cases hv
                  simpa using this
              have e3 : S6.fb = truncL S.fl (S.files.filter (openB S)) fs S.fb := by
                rw [HS6.out]
                show truncL S.fl (opened S S.files.length) fs S.fb = _
                unfold opened
                rw [List.take_length]
              rw [e2, e1]
              have e4 : ({ S6 with fl := fun f => if inD N f = true then (truncL S.fl (S.files.filter (openB S)) fs S.fb f).length else S.fl f, files := S.files.filter (inD N) } : DSt) =
                  { S6 with fb := truncL S.fl (S.files.filter (openB S)) fs S.fb, fl := fun f => if inD N f = true then (truncL S.fl (S.files.filter (openB S)) fs S.fb f).length else S.fl f, files := S.files.filter (inD N) } := by rw [← e3]
              rw [e4, HS6.out]
              unfold crashS
              rw [HNN.out]
              rfl
            rw [hst] at hd8
            have hz := HRZ.out
            have hz0 := HZ0.out
            have hnm := HNM.out
            have hb8 := HB8.out
            have hsw : w0.heap.size ≤ wr.heap.size := HLI.out.keep.size
            have HKP : ∀ b, b < W2.heap.size → ρ1 b = .other → (w9.setCell ⟨bd, 6, none⟩ (.slice (some ⟨g, 0, none⟩) (List.filter (fun f => decide (f ∈ lc)) S6.files).length cap)).heap[b]? = W2.heap[b]? ∧ ρ8 b = .other := fun b hb h0 => by
              have h6 : ρ6 b = .other := HO6.out.role b hb h0
              have l6 := HO6.out.keep.size
              have h7 : ρ7 b = .other := HR7.out b (by omega) h6
              refine ⟨?_, ho8.role b (by omega) h7⟩
              rw [ho8.keep.block b (by omega) h7, HLI.out.keep.block b (by omega) ⟨h6, by omega, by omega⟩, hb8.block b (by omega), HO6.out.keep.block b hb h0]
            have hDl : D < W2.heap.size := (Array.getElem?_eq_some_iff.1 HK.out).1
            have hD1 : ρ1 D = .other := HX1.out D HXD.out
            obtain ⟨kD, rD⟩ := HKP D hDl hD1
            have hDK := kD.trans HK.out
            have hBe : Below B w (w9.setCell ⟨bd, 6, none⟩ (.slice (some ⟨g, 0, none⟩) (List.filter (fun f => decide (f ∈ lc)) S6.files).length cap)) := by
              have h1 : Below B w wr := ((HI.out.below.trans HB6.out).trans (hb8.mono (by have := HB2.out; omega))).trans HLI.out.below
              have h2 : Below B w w9 := h1.grown HG9.out (by have := (HD7.out.base bd (by rw [HD7.out.rd]; simp)); omega) (fun k e => by cases e; exact (HD7.out.base g (by rw [hgf]; simp)).1)
              exact h2.setCell (p := ⟨bd, 6, none⟩) HD7.out.ge _
            have hDw : w.heap.size ≤ D := by have := HZ4.out; have := HDD.out; omega
            have HFIN : Hid (CrashPost B A w bd S fs bs (.returned (.tuple #[])) ((w9.setCell ⟨bd, 6, none⟩ (.slice (some ⟨g, 0, none⟩) (List.filter (fun f => decide (f ∈ lc)) S6.files).length cap)).putObj D (.deferred none))) := by
              have hA : ∀ b, A b → b < W2.heap.size ∧ ρ1 b = .other ∧ W2.heap[b]? = w.heap[b]? := fun b hb => by
                have h1 := HAL.out b hb
                have h2 := HAV.out b hb
                have h3 := HI.out.keep.size
                have h4 := HZ4.out
                exact ⟨by omega, HO1.out b (by omega) h2, HI.out.keep.block b h1 ⟨h2, h1⟩⟩
              refine ⟨rfl, ⟨ρ8, _, _, _, _, _, hd8.kept (KeepX.putObj _ _ _ (fun h => h rD)), fun b hb => (HKP b (hA b hb).1 (hA b hb).2.1).2⟩, hBe.grown (grownBy_putObj' _ D (.deferred none)) (by rw [hsz9]; have := HG9.out.size; have := HBB.out; have := HB6.out.size; have := HI.out.keep.size; omega) (fun k e => by cases e; have := HBB.out; omega), ⟨?_, fun b hb hAb => ?_⟩⟩
              · have h1 := (grownBy_putObj' (w9.setCell ⟨bd, 6, none⟩ (.slice (some ⟨g, 0, none⟩) (List.filter (fun f => decide (f ∈ lc)) S6.files).length cap)) D (.deferred none)).size
                rw [hsz9] at h1
                have := HG9.out.size; have := HB6.out.size; have := HI.out.keep.size
                omega
              · obtain ⟨a1, a2, a3⟩ := hA b hAb
                rw [World.putObj_heap_other (by omega), (HKP b a1 a2).1, a3]
            have HKE := Lib.hid hDK
            clear hDK hBe hDw HKP kD rD hst hd8 ho8 kg ks hgb hsz9 hgf hgv2 hz hz0 hnm hb8 hsw hDl hD1 k6 f6 c6 ebx
            refine ⟨by simp, .inl ⟨_, _, rfl, run_takeDeferred HKE.out, ?_⟩⟩
            refine ⟨_, results_none rfl _ _ _, ?_⟩
            exact HFIN.out
          · intro x c kl y ps w1 cnt1 hkx hlx hy hat hrg1 hlt hg1 hs1 hen
            obtain ⟨f, hf, ha⟩ := HNO.out kl (has_true_of_atKey hat)
            have hye : y = enc f := by rw [← hat .nil, ha]
            have hc : c = some f := by rw [← fileR_pF c (y, ps) hy]; show decF y = some f; rw [hye, decF_enc]
            subst hc
            have hf6 : f ∈ S6.files := by rw [HS6.out]; exact hf
            have hrz := HRZ.out
            have hz0 := HZ0.out
            have hnm := HNM.out
            have hbb2 := HB2.out
            obtain ⟨e0, e1, e2, nfm, nfz, nfn, ebx, wx, l', fl', hput, hg2, hli2⟩ := left_step HLI.out ⟨by omega, HOT.out _ (by omega)⟩ ⟨by omega, HOT.out _ (by omega)⟩ ⟨by omega, HOT.out _ (by omega)⟩ (by omega) (by omega) (by omega) (by omega) (by omega) w1 hg1 f hf6 (fun z => left z && !z.sameKey kl) (fun g => visited_step HNC2.out left kl ha hlx g)
            obtain ⟨af, cf, hvf⟩ := owns_slice (HD6.out.bytes f hf6)
            rw [hvf] at e0
            have HR2 := Lib.hid ((hrg1.kept (gb_set (gb_refl w1 (some f)) 1 (.int .i64 ((S6.fb f).length : Int))) (fun e => nfn (Option.some.inj e).symm) (fun e => nfz (Option.some.inj e).symm)).kept hg2 (fun e => by have := Option.some.inj e; omega) (fun e => by have := Option.some.inj e; omega))
            have HLI2 := Lib.hid hli2
            have HR0 := Lib.hid hrg
            have HLT := Lib.hid hlt
            unfold pF at hen
            simp only at hen
            clear hrg hrg1 hlt hg1 hs1 hat ha hy hye hkx hlx hf hf6 hrz hz0 hnm hbb2 nfm nfz nfn hg2 hli2 hvf
            go_wp2_with fail
            go_roundw
            case rel => exact ⟨_, _, _, _, HR2.out, HLI2.out⟩
            case measure => rw [HR2.out.left_eq, HR0.out.left_eq]; exact HLT.out
  case stop =>
    rintro D X c pre W2 hD hXD hpre hf hk
    exact hf.elim
end Go.Proofs.Ytelndbjjkhlacaa
