/-
  cmd.Parse: the command of a line, of those that need no query.
-/
import Derived.Test.YtdcobmoeligdkaaGreatDoorCmPut
import Derived.Test.YtdcobmoeligdkaaGreatDoorGreatIn
import Derived.Shelf.SlicesE.DeleteFunc
namespace Go.Proofs.YtdcobmoeligdkaaGreatDoor
open Go.RowKit Go.Shelf
attribute [local go_sem] Oper.semAt_some

def wordOf (s : List UInt8) : List UInt8 := (Lib.cut s [32]).1
def needsOf (k : Nat) : List UInt8 := (shL.getD k ([], [])).2
/-- the command of a line -/
def parseL (s : List UInt8) : Option PCmd := if kindI (wordOf s) = 0 then none else parseS (kindI (wordOf s)).toNat (needsOf (kindI (wordOf s)).toNat) (s.drop (wordOf s).length)
def zeroC : Array Value := #[.int .i64 0, .slice none 0 0, .int .i64 0, .int .i64 0, .int .i64 0, .int .i64 0, .slice none 0 0, .slice none 0 0]
def cmdV (st : PCmd) (v q1 q2 q3 : Value) : Value := .agg (cmdA st v q1 q2 q3)
def ParsePost (w : World) (s : List UInt8) (e : Ending) (w' : World) : Prop :=
  Below w.heap.size w w' ∧ ((parseL s = none ∧ e = .returned (.tuple #[.agg zeroC, .int .i64 3])) ∨
    ∃ st v q1 q2 q3, parseL s = some st ∧ e = .returned (.tuple #[cmdV st v q1 q2 q3, .int .i64 0]) ∧ TextOk w.heap.size w' v st.text ∧ QAt w' (fun b => w.heap.size ≤ b) st.q q1 q2 q3)
theorem results_cell_cellP {fn : Func} {p u : Tmp} {ty ty' : TypeId} (h : fn.results = #[.cell p ty, .cell u ty']) (tmps : Array Value) (P : Program) (w : World) :
    (results fn tmps).run P w =
      ((asAddr (tmps.getD p undef)).run P w).andThen fun a w₁ => ((loadVar ty a).run P w₁).andThen fun v w₂ => ((asAddr (tmps.getD u undef)).run P w₂).andThen fun a' w₃ => ((loadVar ty' a').run P w₃).andThen fun v' w₄ => .ok (.tuple #[v, v']) w₄ := by
  simp only [results, h]
  simp [Sem.run_bind, Result.andThen]
theorem results_parse {tmps : Array Value} {W : World} {rB eB : Nat} {cs : Array Value} {n : Int} (hr : W.heap[rB]? = some (.cells cs 27 (0, 0))) (hsz : cs.size = 8) (he : Boxed W eB 30 (.int .i64 n))
    (hp : tmps.getD 2 undef = .pointer (some ⟨rB, 0, none⟩)) (hu : tmps.getD 3 undef = .pointer (some ⟨eB, 0, none⟩)) : (results Tryz.f8 tmps).run Tryz.prog W = .ok (.tuple #[.agg cs, .int .i64 n]) W := by
  have hc := he.cell
  rw [results_cell_cellP (p := 2) (u := 3) (ty := 27) (ty' := 30) (by kernel_rfl), hp, hu]
  have h1 : (loadVar 27 ⟨rB, 0, none⟩).run Tryz.prog W = .ok (.agg cs) W := run_loadVar_row W rB _ _ cs _ _ hr Tryz.underlying27 rfl (by rw [hsz]; kernel_rfl)
  simp only [asAddr, Sem.run_pure, Result.andThen_ok, h1]
  go_simp
theorem kindI_le (word : List UInt8) : 0 ≤ kindI word ∧ kindI word ≤ 17 := by
  unfold kindI
  rcases idxByFrom_spec (fun _ y => wordP word y) (default : List UInt8 × List UInt8) ((shL.drop 1).take 17) 0 with ⟨h, _⟩ | ⟨k, h1, h2, _⟩
  · have : Lib.idxBy (fun _ y => wordP word y) ((shL.drop 1).take 17) (default : List UInt8 × List UInt8) = -1 := h
    omega
  · have h3 : Lib.idxBy (fun _ y => wordP word y) ((shL.drop 1).take 17) (default : List UInt8 × List UInt8) = _ := h2
    have h4 : ((shL.drop 1).take 17).length = 17 := rfl
    omega
theorem wordOf_len (s : List UInt8) : (wordOf s).length ≤ s.length := by
  unfold wordOf Lib.cut
  split
  · simp only [List.length_take]; omega
  · exact Nat.le_refl _
theorem StepX.keep {X Y : Nat → Prop} {A B : World} (h : StepX Y A B) (hd : ∀ b, X b → ¬ Y b) : KeepX X A B := ⟨h.size, fun b hb hx => h.block b hb (hd b hx)⟩
/-- between the pieces: the command so far (in block cB), how many numbers (in the next), the results' cells -/
def PRest (w : World) (cB : Nat) (st : PCmd) (v q1 q2 q3 : Value) (X : Nat → Prop) (W : World) : Prop :=
  QAt W (fun b => cB + 2 ≤ b ∧ ¬ X b) st.q q1 q2 q3 ∧ CmdAt W cB st v q1 q2 q3 ∧ Boxed W (cB + 1) 3 (.int .i64 (st.cnt : Int)) ∧ W.heap[w.heap.size]? = some (.cells zeroC 27 (0, 0)) ∧ Boxed W (w.heap.size + 1) 30 (.int .i64 0) ∧
    (∃ a, v = .slice a st.text.length st.text.length ∧ Row W a st.text.length (bV st.text) ∧ (st.text.length = 0 ∨ (cB + 2 ≤ bOf a ∧ ¬ X (bOf a)))) ∧ Below w.heap.size w W ∧ (∀ b, X b → cB + 2 ≤ b ∧ b < W.heap.size)
def PInv (w : World) (cB : Nat) (st0 : PCmd) (X : Nat → Prop) (pre : List (UInt8 × List UInt8)) (W : World) : Prop :=
  ∃ st v q1 q2 q3, pre.foldlM putS st0 = some st ∧ PRest w cB st v q1 q2 q3 X W
def PStop (w : World) (cB : Nat) (st0 : PCmd) (c : Code) (X : Nat → Prop) (pre : List (UInt8 × List UInt8)) (W : World) : Prop :=
  c = .ret ∧ pre.foldlM putS st0 = none ∧ W.heap[w.heap.size]? = some (.cells zeroC 27 (0, 0)) ∧ Boxed W (w.heap.size + 1) 30 (.int .i64 3) ∧ Below w.heap.size w W ∧ (∀ b, X b → cB + 2 ≤ b ∧ b < W.heap.size) ∧ cB + 2 ≤ W.heap.size
theorem row_stepX {X : Nat → Prop} {W W' : World} {a : Option Addr} {n : Nat} {f : Nat → Value} (h : Row W a n f) (st : StepX X W W') (hx : n = 0 ∨ ¬ X (bOf a)) : Row W' a n f := by
  refine ⟨h.at_, fun k hk => ?_⟩
  have hc := h.cell k hk
  exact (World.cell?_of_block (a := ⟨bOf a, oOf a + k, none⟩) (st.block _ (World.block_lt_of_cell? W _ hc) (hx.resolve_left (by omega)))).trans hc
theorem prest_fr {w : World} {cB : Nat} {st : PCmd} {v q1 q2 q3 : Value} (hcB : w.heap.size + 2 ≤ cB) {X X' : Nat → Prop} {W W' : World} (h : PRest w cB st v q1 q2 q3 X W) (hst : StepX X W W') (hx : ∀ b, X' b → X b ∨ (W.heap.size ≤ b ∧ b < W'.heap.size)) : PRest w cB st v q1 q2 q3 X' W' := by
  obtain ⟨h0, h1, h2, h3, h4, ⟨a, h5, h6, h7⟩, h8, h9⟩ := h
  have hn : ∀ b, b < cB + 2 → ¬ X b := fun b hb hX => by have := (h9 b hX).1; omega
  have hl1 := h1.lt
  have hl2 := h2.lt
  refine ⟨h0.move (fun b hb hg => hst.block b hb hg.2) (fun b hb hg => ⟨hg.1, fun hX => by rcases hx b hX with h | h; exact hg.2 h; omega⟩), (hst.block _ hl1 (hn _ (by omega))).trans h1, (hst.block _ hl2 (hn _ (by omega))).trans h2, (hst.block _ (by omega) (hn _ (by omega))).trans h3, (hst.block _ h4.lt (hn _ (by omega))).trans h4,
    ⟨a, h5, row_stepX h6 hst (h7.imp id (·.2)), ?_⟩, h8.trans (hst.below h8.size (fun b hb => by have := (h9 b hb).1; omega)), fun b hb => ?_⟩
  · rcases Nat.eq_zero_or_pos st.text.length with e | e
    · exact .inl e
    · have h7' := h7.resolve_left (by omega)
      refine .inr ⟨h7'.1, fun hX => ?_⟩
      rcases hx _ hX with h | h
      · exact h7'.2 h
      · have := h6.lt e; omega
  · rcases hx b hb with h | h
    · exact ⟨(h9 b h).1, Nat.lt_of_lt_of_le (h9 b h).2 hst.size⟩
    · exact ⟨by omega, h.2⟩
theorem pinv_fr {w : World} {cB : Nat} {st0 : PCmd} (hcB : w.heap.size + 2 ≤ cB) : Fr (PInv w cB st0) := fun X X' s W W' ⟨st, v, q1, q2, q3, h1, h2⟩ hst hx => ⟨st, v, q1, q2, q3, h1, prest_fr hcB h2 hst hx⟩
theorem pstop_fr {w : World} {cB : Nat} {st0 : PCmd} (hcB : w.heap.size + 2 ≤ cB) (c : Code) : Fr (PStop w cB st0 c) := fun X X' s W W' ⟨h0, h1, h3, h4, h8, h9, h10⟩ hst hx => by
  have hn : ∀ b, b < cB + 2 → ¬ X b := fun b hb hX => by have := (h9 b hX).1; omega
  have hl4 := h4.lt
  refine ⟨h0, h1, (hst.block _ (by omega) (hn _ (by omega))).trans h3, (hst.block _ hl4 (hn _ (by omega))).trans h4, h8.trans (hst.below h8.size (fun b hb => by have := (h9 b hb).1; omega)), fun b hb => ?_, Nat.le_trans h10 hst.size⟩
  rcases hx b hb with h | h
  · exact ⟨(h9 b h).1, Nat.lt_of_lt_of_le (h9 b h).2 hst.size⟩
  · exact ⟨by omega, h.2⟩
theorem needs_cnt (K : Nat) (h : K ≤ 17) : (needsOf K).countP (fun c => c.toNat == 110) ≤ 3 := by
  have : ∀ K : Fin 18, (needsOf K.1).countP (fun c => c.toNat == 110) ≤ 3 := by decide
  exact this ⟨K, by omega⟩
theorem needs_len (K : Nat) (h : K ≤ 17) : (needsOf K).length ≤ 100 := by
  have : ∀ K : Fin 18, (needsOf K.1).length ≤ 100 := by decide
  exact this ⟨K, by omega⟩
theorem wordsL_mem : ∀ (cs s : List UInt8) (x : UInt8 × List UInt8), x ∈ wordsL cs s → (x.1 ∈ cs ∨ x.1.toNat = 0 ∨ x.1.toNat = 33) ∧ x.2.length ≤ s.length
  | [], s, x, h => by
    rw [wordsL, List.mem_singleton] at h
    subst h
    exact ⟨.inr (.inl rfl), Nat.le_refl _⟩
  | c :: cs, [], x, h => by
    rw [wordsL, List.mem_singleton] at h
    subst h
    exact ⟨.inr (.inr rfl), Nat.le_refl _⟩
  | c :: cs, b :: r, x, h => by
    rw [wordsL] at h
    split at h
    · rw [List.mem_cons] at h
      rcases h with rfl | h
      · exact ⟨.inl (by simp), by simp only [List.length_take, List.length_cons]; omega⟩
      · have h2 := wordsL_mem cs _ x h
        refine ⟨h2.1.imp (by intro h; simp [h]) id, ?_⟩
        have := h2.2
        rw [List.length_drop] at this
        simp only [List.length_cons]; omega
    · rw [List.mem_singleton] at h
      subst h
      exact ⟨.inr (.inr rfl), Nat.le_refl _⟩
theorem cnt_ok {needs s : List UInt8} {pre : List (UInt8 × List UInt8)} {x : UInt8 × List UInt8} {st st0 : PCmd} (hp : pre ++ [x] <+: wordsL needs s) (hf : pre.foldlM putS st0 = some st) (h0 : st0.cnt = 0) (hn : needs.countP (fun c => c.toNat == 110) ≤ 3) (hx : x.1.toNat = 110) : st.cnt ≤ 2 := by
  have h1 := (foldS_cnt pre st0 st hf).1
  obtain ⟨r, hr⟩ := hp
  have h2 := wordsL_fst needs s
  rw [← hr, List.map_append, List.map_append, List.countP_append, List.countP_append] at h2
  have h3 : ([x].map (·.1)).countP (fun c => c.toNat == 110) = 1 := by simp [hx]
  omega
theorem put_any (w : World) (he : Env w) (cB : Nat) (st : PCmd) (v q1 q2 q3 : Value) (hc : CmdAt w cB st v q1 q2 q3) (x : UInt8) (s : List UInt8) (hs : s.length ≤ 100000) (hk : x.toNat = 110 → st.cnt ≤ 2) :
    Calls Tryz.prog 23 #[.pointer (some ⟨cB, 0, none⟩), .int .u8 (x.toNat : Int), .string (uS s), .int .i64 (st.cnt : Int)] w (PutPost w cB st (x, s) v q1 q2 q3) := by
  by_cases h1 : x.toNat = 116
  · exact put_t w cB st v q1 q2 q3 hc x s hs h1
  · by_cases h2 : x.toNat = 110
    · have := hk h2
      rcases Nat.lt_or_ge st.cnt 1 with h | h
      · exact put_n0 w he cB st v q1 q2 q3 hc x s hs h2 (by omega)
      · rcases Nat.lt_or_ge st.cnt 2 with h' | h'
        · exact put_n1 w he cB st v q1 q2 q3 hc x s hs h2 (by omega)
        · exact put_n2 w he cB st v q1 q2 q3 hc x s hs h2 (by omega)
    · by_cases h3 : x.toNat = 113
      · exact put_q w cB st v q1 q2 q3 hc x s hs h3
      · exact put_e w cB st v q1 q2 q3 hc x s h1 h2 h3
theorem callsIn_rnd {P : Program} {f : FuncId} {args : Array Value} {R : Ending → World → Prop} {W : World} {l n : Nat} (h : Calls P f args W R) : CallsIn (Fence.wide.inRound l) n P f args W R := (callsIn_wide (n := n)).2 h
theorem StepX.setRow {X : Nat → Prop} (A : World) (g : Nat) (cs : Array Value) (hl : X g) : StepX X A (A.setRow g cs) := ⟨rfl, rfl, rfl, by simp, fun b _ hn => setRow_other A g b cs (fun e => hn (e ▸ hl))⟩
theorem fold_snoc {pre : List (UInt8 × List UInt8)} {x : UInt8 × List UInt8} {st st0 : PCmd} (hf : pre.foldlM putS st0 = some st) : (pre ++ [x]).foldlM putS st0 = putS st x := by
  rw [List.foldlM_append, hf]
  show ([x].foldlM putS st) = _
  rw [List.foldlM_cons]
  cases h : putS st x <;> rfl
theorem cut_any (w : World) (he : Env w) (s : List UInt8) (hs : s.length ≤ 100000) : Calls Tryz.prog 19 #[.string (uS s), .string ⟨#[32]⟩] w fun e w' =>
    ∃ v b, e = .returned (.tuple #[.string (uS (wordOf s)), .string v, .bool b]) ∧ ∃ n, w' = w.drewN n := by
  obtain ⟨m, hm⟩ := he.mx
  refine (Tryz.strings_Cut (uS s) ⟨#[32]⟩ m w (by rw [uS_size]; omega) hm).mono ?_
  rintro e w' ⟨rfl, hw⟩
  exact ⟨_, _, rfl, hw⟩
set_option maxRecDepth 100000 in
set_option maxHeartbeats 4000000 in
theorem parse_any (w : World) (he : Env w) (s : List UInt8) (hs : s.length ≤ 9000) :
    Calls Tryz.prog 8 #[.string (uS s)] w (ParsePost w s) := by
  refine (callsIn_wide (n := 5)).1 ?_
  have hwf : ∀ f, Fence.wide.fn f = True := fun _ => rfl
  refine callsIn_of_wp_marks Tryz.func8 rfl trivial ?_ rfl
  simp only [Tryz.ntmps8, List.size_toArray, List.length_cons, List.length_nil, Nat.reduceAdd, Nat.reduceSub, Array.replicate_succ, Array.replicate_zero, List.push_toArray, List.append_toArray, List.nil_append, List.cons_append]
  have hsz := uS_size s
  have hs' : ((s.length : Nat) : Int) ≤ 9000 := by omega
  have hsd : decide ((9000 : Int) < ((s.length : Nat) : Int)) = false := by simp; omega
  have HE := Lib.hid he
  clear he
  gi_wp2_with fail
  have hA0 : ((w.alloc (.cells zeroC 27)).alloc (.cells #[.int .i64 0] 30)).heap[w.heap.size]? = some (.cells zeroC 27 (0, 0)) :=
    (Below.heap_alloc _ _ _ (by rw [World.size_alloc]; omega)).trans (World.alloc_heap_new w _)
  have hA1 : Boxed ((w.alloc (.cells zeroC 27)).alloc (.cells #[.int .i64 0] 30)) (w.heap.size + 1) 30 (.int .i64 0) := by
    have := Boxed.new (w.alloc (.cells zeroC 27)) 30 (.int .i64 0)
    rwa [World.size_alloc] at this
  have hBA : Below w.heap.size w ((w.alloc (.cells zeroC 27)).alloc (.cells #[.int .i64 0] 30)) := ((Below.refl _ _).alloc (Nat.le_refl _) _).alloc (by simp) _
  have hsA : ((w.alloc (.cells zeroC 27)).alloc (.cells #[.int .i64 0] 30)).heap.size = w.heap.size + 2 := by simp
  have hzC : (w.alloc (.cells #[.int .i64 0, .slice none 0 0, .int .i64 0, .int .i64 0, .int .i64 0, .int .i64 0, .slice none 0 0, .slice none 0 0] 27)) = w.alloc (.cells zeroC 27) := rfl
  rw [hzC]
  clear hzC
  generalize ((w.alloc (.cells zeroC 27)).alloc (.cells #[.int .i64 0] 30)) = wA at *
  have HA0 := Lib.hid hA0
  have HA1 := Lib.hid hA1
  have HBA := Lib.hid hBA
  have HSA := Lib.hid hsA
  clear hA0 hA1 hBA
  refine (callsIn_wide.2 (cut_any wA (HE.out.kept HBA.out) s (by omega))).mono ?_
  rintro e w1 ⟨v5, b6, rfl, nd, rfl⟩
  have hs1 : (wA.drewN nd).heap.size = w.heap.size + 2 := HSA.out
  generalize hword : wordOf s = word at *
  have hwl : word.length ≤ s.length := by rw [← hword]; exact wordOf_len s
  have HW := Lib.hid hword
  clear hword
  have hBA2 : Below w.heap.size w ((wA.drewN nd).alloc (.cells #[.string (uS word)] 9)) := (below_drewN HBA.out nd).alloc (by omega) _
  have hB1 : Boxed ((wA.drewN nd).alloc (.cells #[.string (uS word)] 9)) (w.heap.size + 1) 30 (.int .i64 0) := Boxed.alloc (show Boxed (wA.drewN nd) _ _ _ from HA1.out) _
  have hB0 : ((wA.drewN nd).alloc (.cells #[.string (uS word)] 9)).heap[w.heap.size]? = some (.cells zeroC 27 (0, 0)) := (Below.heap_alloc _ _ _ (by omega)).trans HA0.out
  have hB2 : Boxed ((wA.drewN nd).alloc (.cells #[.string (uS word)] 9)) (w.heap.size + 2) 9 (.string (uS word)) := by
    have := Boxed.new (wA.drewN nd) 9 (.string (uS word))
    rwa [hs1] at this
  have hsB : ((wA.drewN nd).alloc (.cells #[.string (uS word)] 9)).heap.size = w.heap.size + 3 := by rw [World.size_alloc, hs1]
  gi_wp2_with (gi_at_call 11; refine Hid.out ?_)
  refine Lib.hid ?_
  generalize ((wA.drewN nd).alloc (.cells #[.string (uS word)] 9)) = wB at *
  refine (callsIn_wide.2 (shapes_any wB)).mono ?_
  rintro e w2 ⟨rfl, hb2⟩
  have HC0 : Hid (w2.heap[w.heap.size]? = some (.cells zeroC 27 (0, 0))) := (hb2.block _ (by omega)).trans hB0
  have HC1 : Hid (Boxed w2 (w.heap.size + 1) 30 (.int .i64 0)) := (hb2.block _ (by omega)).trans hB1
  have HC2 : Hid (Boxed w2 (w.heap.size + 2) 9 (.string (uS word))) := (hb2.block _ (by omega)).trans hB2
  have HBC : Hid (Below w.heap.size w w2) := below_next hBA2 hb2 hBA2.size
  have hs2 : w.heap.size + 3 ≤ w2.heap.size := by have := hb2.size; omega
  clear hb2 hB0 hB1 hB2 hBA2 hsB HA0 HA1 HBA HSA hs1
  gi_wp2_with (refine wpListIn_runTo rfl (by intro c hc; cases hc) (by kernel_rfl) (some 7) rfl (.pointer (some ⟨w2.heap.size, 0, none⟩)) (w2.alloc (.cells zeroS 42)) (by as_aux_lemma => kernel_rfl) ?_; refine wpListIn_store_rowTo rfl 42 _ _ rfl rfl w2.heap.size shA (by as_aux_lemma => kernel_rfl) (by as_aux_lemma => kernel_rfl) 42 zeroS (World.alloc_heap_new _ _) (by as_aux_lemma => kernel_rfl) (by as_aux_lemma => kernel_rfl) (by as_aux_lemma => kernel_rfl) ?_; refine Hid.out ?_)
  refine Lib.hid ?_
  have hbD : Below w2.heap.size w2 ((w2.alloc (.cells zeroS 42)).setRow w2.heap.size shA) := below_setRowS ((Below.refl _ _).alloc (Nat.le_refl _) _) (Nat.le_refl _) _
  have hD : ((w2.alloc (.cells zeroS 42)).setRow w2.heap.size shA).heap[w2.heap.size]? = some (.cells shA 42 (0, 0)) := setRow_heap _ _ zeroS _ _ _ (World.alloc_heap_new _ _)
  have hsD : ((w2.alloc (.cells zeroS 42)).setRow w2.heap.size shA).heap.size = w2.heap.size + 1 := by rw [size_setRow, World.size_alloc]
  generalize ((w2.alloc (.cells zeroS 42)).setRow w2.heap.size shA) = wD at *
  have HD0 : Hid (wD.heap[w.heap.size]? = some (.cells zeroC 27 (0, 0))) := (hbD.block _ (by omega)).trans HC0.out
  have HD1 : Hid (Boxed wD (w.heap.size + 1) 30 (.int .i64 0)) := (hbD.block _ (by omega)).trans HC1.out
  have HD2 : Hid (Boxed wD (w.heap.size + 2) 9 (.string (uS word))) := (hbD.block _ (by omega)).trans HC2.out
  have HBD : Hid (Below w.heap.size w wD) := below_next HBC.out hbD HBC.out.size
  have HD := Lib.hid hD
  obtain ⟨B7, hB7⟩ : ∃ B7, B7 = w2.heap.size := ⟨_, rfl⟩
  rw [← hB7] at HD hsD hs2 ⊢
  clear hD hbD HC0 HC1 HC2 HBC hB7
  have hFN := Lib.hid (find_any wD B7 (w.heap.size + 2) word HD.out HD2.out.cell)
  obtain ⟨K, hK⟩ : ∃ K : Nat, kindI word = (K : Int) := ⟨(kindI word).toNat, by have := (kindI_le word).1; omega⟩
  have hK17 : K ≤ 17 := by have := (kindI_le word).2; omega
  rw [hK] at hFN
  have hKw : IntKind.i64.wrap ((K : Int) - 1 + 1) = (K : Int) := by rw [Int.sub_add_cancel]; exact IntWalk.i64_in _ (by omega)
  have HK := Lib.hid hK
  clear hK
  gi_wp2_with (gi_at_call 20; refine Hid.out ?_)
  refine Lib.hid ?_
  refine (callsIn_wide.2 hFN.out).mono ?_
  rintro e w3 ⟨rfl, hb3⟩
  have HE0 : Hid (w3.heap[w.heap.size]? = some (.cells zeroC 27 (0, 0))) := (hb3.block _ (by omega)).trans HD0.out
  have HE1 : Hid (Boxed w3 (w.heap.size + 1) 30 (.int .i64 0)) := (hb3.block _ (by omega)).trans HD1.out
  have HE2 : Hid (Boxed w3 (w.heap.size + 2) 9 (.string (uS word))) := (hb3.block _ (by omega)).trans HD2.out
  have HE7 : Hid (w3.heap[B7]? = some (.cells shA 42 (0, 0))) := (hb3.block _ (by omega)).trans HD.out
  have HB3 : Hid (Below w.heap.size w w3) := below_next HBD.out hb3 HBD.out.size
  have hs3 : B7 + 1 ≤ w3.heap.size := by have := hb3.size; omega
  clear hb3 HD0 HD1 HD2 HD HBD hsD hFN
  by_cases hk0 : K = 0
  · have HN : Hid (parseL s = none) := by
      show _ = _
      unfold parseL
      rw [HW.out, HK.out, hk0]; rfl
    subst hk0
    have hb5 : Boxed (w3.setRow w.heap.size zeroC) (w.heap.size + 1) 30 (.int .i64 0) := (setRow_other w3 _ _ _ (by omega)).trans HE1.out
    have e1 := hb5.cell
    have e2 := hb5.frozen
    have HR5 : Hid ((w3.setRow w.heap.size zeroC).heap[w.heap.size]? = some (.cells zeroC 27 (0, 0))) := setRow_heap w3 _ zeroC _ _ _ HE0.out
    have HB5 := Lib.hid hb5
    have HW5 : Hid (Below w.heap.size w (w3.setRow w.heap.size zeroC)) := below_setRowS HB3.out (Nat.le_refl _) _
    clear hb5
    gi_wp2_with (refine wpListIn_store_rowTo rfl 27 _ _ rfl rfl w.heap.size zeroC (by as_aux_lemma => kernel_rfl) (by as_aux_lemma => kernel_rfl) 27 zeroC HE0.out (by as_aux_lemma => kernel_rfl) rfl (by as_aux_lemma => kernel_rfl) ?_)
    have HB6 := Lib.hid (HB5.out.set (.int .i64 3))
    have HR6 : Hid (((w3.setRow w.heap.size zeroC).setCell ⟨w.heap.size + 1, 0, none⟩ (.int .i64 3)).heap[w.heap.size]? = some (.cells zeroC 27 (0, 0))) := (Below.heap_setCell _ _ _ _ (by show w.heap.size ≠ w.heap.size + 1; omega)).trans HR5.out
    refine ⟨_, results_parse HR6.out rfl HB6.out rfl rfl, ?_⟩
    exact ⟨HW5.out.setCell (p := ⟨w.heap.size + 1, 0, none⟩) (by show w.heap.size ≤ w.heap.size + 1; omega) _, .inl ⟨HN.out, rfl⟩⟩
  · have hk1 : ((K : Int) == 0) = false := by rw [beq_eq_false_iff_ne]; omega
    gi_wp2_with (refine wpListIn_store_rowTo rfl 27 _ _ rfl rfl w3.heap.size #[.int .i64 (K : Int), .slice none 0 0, .int .i64 0, .int .i64 0, .int .i64 0, .int .i64 0, .slice none 0 0, .slice none 0 0] (by as_aux_lemma => kernel_rfl) (by as_aux_lemma => kernel_rfl) 27 zeroC (World.alloc_heap_new _ _) (by as_aux_lemma => kernel_rfl) rfl (by as_aux_lemma => kernel_rfl) ?_; refine Hid.out ?_)
    refine Lib.hid ?_
    have hf1 : ((w3.alloc (.cells zeroC 27)).setRow w3.heap.size #[.int .i64 (K : Int), .slice none 0 0, .int .i64 0, .int .i64 0, .int .i64 0, .int .i64 0, .slice none 0 0, .slice none 0 0]).heap[w3.heap.size]? = some (.cells #[.int .i64 (K : Int), .slice none 0 0, .int .i64 0, .int .i64 0, .int .i64 0, .int .i64 0, .slice none 0 0, .slice none 0 0] 27 (0, 0)) := setRow_heap _ _ zeroC _ _ _ (World.alloc_heap_new _ _)
    have hf2 : Below w3.heap.size w3 ((w3.alloc (.cells zeroC 27)).setRow w3.heap.size #[.int .i64 (K : Int), .slice none 0 0, .int .i64 0, .int .i64 0, .int .i64 0, .int .i64 0, .slice none 0 0, .slice none 0 0]) := below_setRowS ((Below.refl _ _).alloc (Nat.le_refl _) _) (Nat.le_refl _) _
    have hf3 : ((w3.alloc (.cells zeroC 27)).setRow w3.heap.size #[.int .i64 (K : Int), .slice none 0 0, .int .i64 0, .int .i64 0, .int .i64 0, .int .i64 0, .slice none 0 0, .slice none 0 0]).heap.size = w3.heap.size + 1 := by rw [size_setRow, World.size_alloc]
    have hzc : (w3.alloc (.cells #[.int .i64 0, .slice none 0 0, .int .i64 0, .int .i64 0, .int .i64 0, .int .i64 0, .slice none 0 0, .slice none 0 0] 27)) = w3.alloc (.cells zeroC 27) := rfl
    rw [hzc]
    clear hzc
    generalize ((w3.alloc (.cells zeroC 27)).setRow w3.heap.size #[.int .i64 (K : Int), .slice none 0 0, .int .i64 0, .int .i64 0, .int .i64 0, .int .i64 0, .slice none 0 0, .slice none 0 0]) = wF at *
    have gF0 : wF.heap[w.heap.size]? = some (.cells zeroC 27 (0, 0)) := (hf2.block _ (by omega)).trans HE0.out
    have gF1 : Boxed wF (w.heap.size + 1) 30 (.int .i64 0) := (hf2.block _ (by omega)).trans HE1.out
    have gF2 : Boxed wF (w.heap.size + 2) 9 (.string (uS word)) := (hf2.block _ (by omega)).trans HE2.out
    have gF7 : wF.heap[B7]? = some (.cells shA 42 (0, 0)) := (hf2.block _ (by omega)).trans HE7.out
    have gFB : Below w.heap.size w wF := below_next HB3.out hf2 HB3.out.size
    obtain ⟨cB, hcB⟩ : ∃ cB, cB = w3.heap.size := ⟨_, rfl⟩
    rw [← hcB] at hf1 hf3 hs3 ⊢
    clear hf2 HE0 HE1 HE2 HE7 HB3 hcB
    have hG0 : Hid ((wF.alloc (.cells #[.int .i64 0] 3)).heap[w.heap.size]? = some (.cells zeroC 27 (0, 0))) := (Below.heap_alloc _ _ _ (by omega)).trans gF0
    have hG1 := Lib.hid (gF1.alloc (.cells #[.int .i64 0] 3))
    have hG2 := gF2.alloc (.cells #[.int .i64 0] 3)
    have hG7 : (wF.alloc (.cells #[.int .i64 0] 3)).heap[B7]? = some (.cells shA 42 (0, 0)) := (Below.heap_alloc _ _ _ (by omega)).trans gF7
    have hGB : Hid (Below w.heap.size w (wF.alloc (.cells #[.int .i64 0] 3))) := gFB.alloc gFB.size _
    have hGc : Hid (CmdAt (wF.alloc (.cells #[.int .i64 0] 3)) cB { kind := K, text := [], n := 0, m := 0, k := 0, cnt := 0 } (.slice none 0 0) (.int .i64 0) (.slice none 0 0) (.slice none 0 0)) := (Below.heap_alloc _ _ _ (by omega)).trans hf1
    have hGk : Hid (Boxed (wF.alloc (.cells #[.int .i64 0] 3)) (cB + 1) 3 (.int .i64 0)) := by
      have := Boxed.new wF 3 (.int .i64 0)
      rwa [hf3] at this
    have hsG : (wF.alloc (.cells #[.int .i64 0] 3)).heap.size = cB + 2 := by rw [World.size_alloc, hf3]
    have x2 := hG2.cell
    have x7 : (wF.alloc (.cells #[.int .i64 0] 3)).cell? ⟨B7, 2 * K + 1, none⟩ = some (.string (uS (needsOf K))) := (cell_of_row _ _ _ _ _ _ hG7).trans (shA_at K (by omega)).2
    have x7b : (wF.alloc (.cells #[.int .i64 0] 3)).cell? ⟨B7, K * 2 + 1, none⟩ = some (.string (uS (needsOf K))) := by rw [Nat.mul_comm]; exact x7
    clear x7
    clear hf1 gF0 gF1 gF2 gF7 gFB hG2 hG7
    gi_wp2_with fail
    generalize (wF.alloc (.cells #[.int .i64 0] 3)) = wG at *
    have hKi : (K : Int) < 18 := by omega
    have hwi : ((word.length : Nat) : Int) ≤ ((s.length : Nat) : Int) := by omega
    have hszw := uS_size word
    have hcf := cut_fromU s word.length hwl
    have HWD : Hid (∀ W, Calls Tryz.prog 22 #[.string (uS (s.drop word.length)), .string (uS (needsOf K))] W fun e w' => e = .returned (.func (.func 42) #[] #[.pointer (some ⟨W.heap.size + 1, 0, none⟩), .pointer (some ⟨W.heap.size, 0, none⟩)]) ∧ w' = (W.alloc (.cells #[.string (uS (s.drop word.length))] 9)).alloc (.cells #[.string (uS (needsOf K))] 9)) := fun W => words_any W _ _
    refine wpW_region_still_tail 8 (by kernel_rfl) (by kernel_rfl) (by kernel_rfl) ?_
    simp only [List.take_succ_cons, List.take_zero, List.drop_succ_cons, List.drop_zero]
    change wpStill _ _ wG.drew (fun a' => wpListIn _ _ _ _ _ _ a' wG.drew) _ _
    repeat still_step
    refine wpStill_nil ?_
    change wpListIn _ _ _ _ _ _ _ wG.drew
    gi_wp2_with (gi_at_call 22; refine Hid.out ?_)
    refine Lib.hid ?_
    refine (callsIn_wide.2 (HWD.out _)).mono ?_
    rintro e w5 ⟨rfl, hw5⟩
    have hsd2 : wG.drew.heap.size = cB + 2 := hsG
    rw [hsd2]
    have hs5 : w5.heap.size = cB + 4 := by rw [hw5, World.size_alloc, World.size_alloc, hsd2]
    have hb5 : Below wG.drew.heap.size wG.drew w5 := by rw [hw5]; exact ((Below.refl _ _).alloc (Nat.le_refl _) _).alloc (by simp) _
    have k5c : CmdAt w5 cB { kind := K, text := [], n := 0, m := 0, k := 0, cnt := 0 } (.slice none 0 0) (.int .i64 0) (.slice none 0 0) (.slice none 0 0) := (hb5.block cB (by omega)).trans hGc.out
    have k5k : Boxed w5 (cB + 1) 3 (.int .i64 0) := (hb5.block (cB + 1) (by omega)).trans hGk.out
    have k5r : w5.heap[w.heap.size]? = some (.cells zeroC 27 (0, 0)) := (hb5.block _ (by omega)).trans hG0.out
    have k5e : Boxed w5 (w.heap.size + 1) 30 (.int .i64 0) := (hb5.block _ (by omega)).trans hG1.out
    have k5s : Boxed w5 (cB + 2) 9 (.string (uS (s.drop word.length))) := by
      have := Boxed.alloc (Boxed.new wG.drew 9 (.string (uS (s.drop word.length)))) (.cells #[.string (uS (needsOf K))] 9)
      rw [hsd2] at this; rw [hw5]; exact this
    have k5n : Boxed w5 (cB + 3) 9 (.string (uS (needsOf K))) := by
      have := Boxed.new (wG.drew.alloc (.cells #[.string (uS (s.drop word.length))] 9)) 9 (.string (uS (needsOf K)))
      rw [World.size_alloc, hsd2] at this; rw [hw5]; exact this
    have k5b : Below w.heap.size w w5 := below_next (hGB.out.drew) hb5 hGB.out.drew.size
    clear hw5 hb5 hsd2 hsG hGB hG0 hG1 hGc hGk x2 x7b HWD hcf
    have hcBw : w.heap.size + 2 ≤ cB := by omega
    have HI0 : Hid (PInv w cB { kind := K, text := [], n := 0, m := 0, k := 0, cnt := 0 } (fun b => b = cB + 2) [] w5) := ⟨_, _, _, _, _, rfl, QAt.zero _ _, k5c, k5k, k5r, k5e, ⟨none, rfl, Row.nil _ _ _, .inl rfl⟩, k5b, fun b hb => ⟨by omega, by omega⟩⟩
    have HP : Hid (parseL s = parseS K (needsOf K) (s.drop word.length)) := by
      show _ = _
      unfold parseL
      rw [HW.out, HK.out, if_neg (by omega), Int.toNat_natCast]
    gi_wp2_with fail
    refine wpIn_rangeFunc_H rfl (by omega) (gf := 42) (lb := #[.pointer (some ⟨cB + 2 + 1, 0, none⟩), .pointer (some ⟨cB + 2, 0, none⟩)]) rfl trivial (enters_of Tryz.func42 (by kernel_rfl) rfl)
      (words1_any 4 (by omega) w5 (cB + 2 + 1) (cB + 2) (needsOf K) (s.drop word.length) (by omega) (needs_len K hK17) (by rw [List.length_drop]; omega) k5n.cell k5s)
      (fun b h => by have : b = cB + 2 := h; omega) (fun b h => by have : b = cB + 2 + 1 := h; omega) (Below.refl _ _) (fun _ => rfl)
      (PInv w cB { kind := K, text := [], n := 0, m := 0, k := 0, cnt := 0 }) (PStop w cB { kind := K, text := [], n := 0, m := 0, k := 0, cnt := 0 }) (pinv_fr hcBw) (fun c => pstop_fr hcBw c) HI0.out
      (fun x => { tmps := #[.string (uS s), undef, .pointer (some ⟨w.heap.size, 0, none⟩), .pointer (some ⟨w.heap.size + 1, 0, none⟩), .pointer (some ⟨w.heap.size + 2, 0, none⟩), .string v5, .bool b6, .pointer (some ⟨B7, 0, none⟩), .int .i64 (K : Int), .pointer (some ⟨cB, 0, none⟩), .pointer (some ⟨cB + 1, 0, none⟩), .int .u8 (x.1.toNat : Int), .string (uS x.2), .string (uS s), .int .i64 (s.length : Int), .bool false, undef, .tuple #[.string (uS word), .string v5, .bool b6], .string (uS s), .tuple #[.string (uS word), .string v5, .bool b6], .string (uS word), .string v5, .bool b6, shV, .slice (some ⟨B7, 2, none⟩) 17 17, .func (.func 21) #[] #[.pointer (some ⟨w.heap.size + 2, 0, none⟩)], .int .i64 ((K : Int) - 1), .int .i64 (K : Int), .int .i64 (K : Int), .bool false, undef, .int .i64 (K : Int), .agg #[.int .i64 (K : Int), .slice none 0 0, .int .i64 0, .int .i64 0, .int .i64 0, .int .i64 0, .slice none 0 0, .slice none 0 0], .string (uS s), .string (uS word), .int .i64 (word.length : Int), .string (uS (s.drop word.length)), .int .i64 (K : Int), .pointer (some ⟨B7, K * 2, none⟩), .pointer (some ⟨B7, K * 2 + 1, none⟩), .string (uS (needsOf K)), .func (.func 42) #[] #[.pointer (some ⟨cB + 2 + 1, 0, none⟩), .pointer (some ⟨cB + 2, 0, none⟩)], .int .u8 (x.1.toNat : Int), .string (uS x.2), undef, undef, undef, undef, undef, undef, undef, undef, undef, undef, undef], defers := [] })
      ?assign ?body ?done ?stop
    case assign =>
      intro l y W G hG
      unfold encW
      gi_wp2
      exact hG
    case body =>
      rintro l X pre ⟨x1, x2⟩ W - hXl ⟨st, v, q1, q2, q3, hf, hqa, hc, hk, hr, he, ⟨a, rfl, hrow, hlow⟩, hb, hX⟩ hok
      clear HI0 k5c k5k k5r k5e k5s k5n k5b
      have hmem : (x1, x2) ∈ wordsL (needsOf K) (s.drop word.length) := by obtain ⟨r, hr⟩ := hok; rw [← hr]; simp
      have hm2 := wordsL_mem _ _ _ hmem
      have hl2 : x2.length ≤ 100000 := by
        have h : x2.length ≤ (s.drop word.length).length := hm2.2
        rw [List.length_drop] at h; omega
      have hcnt : x1.toNat = 110 → st.cnt ≤ 2 := fun h => cnt_ok hok hf rfl (needs_cnt K hK17) h
      have hcnt3 : st.cnt ≤ 1000 := by
        have h1 := (foldS_cnt pre _ st hf).1
        obtain ⟨r, hr⟩ := hok
        have h2 := wordsL_fst (needsOf K) (s.drop word.length)
        rw [← hr, List.map_append, List.map_append, List.countP_append, List.countP_append] at h2
        have := needs_cnt K hK17
        have h3 : st.cnt = 0 + _ := h1
        omega
      have HPUT := Lib.hid (put_any W (HE.out.kept hb) cB st (.slice a st.text.length st.text.length) _ _ _ hc x1 x2 hl2 hcnt)
      have HF := Lib.hid (fold_snoc (x := (x1, x2)) hf)
      have hkc := hk.cell
      have hXn : ∀ b, b < cB + 2 → ¬ X b := fun b hb hX' => by have := (hX b hX').1; omega
      have HC := Lib.hid hc
      have HQA := Lib.hid hqa
      have HKB := Lib.hid hk
      have HR := Lib.hid hr
      have HEB := Lib.hid he
      have HROW := Lib.hid hrow
      have HLOW := Lib.hid hlow
      have HB := Lib.hid hb
      have HX := Lib.hid hX
      have HXN := Lib.hid hXn
      have hx1l := x1.toNat_lt
      clear hmem hm2 hcnt hok hf hqa hc hk hr he hrow hlow hb hX hXn hl2
      gi_wp2_with fail
      refine (callsIn_rnd HPUT.out).mono ?_
      rintro e W1 ⟨rfl, hst, hres⟩
      have HST := Lib.hid hst
      have r1 : W1.heap[w.heap.size]? = some (.cells zeroC 27 (0, 0)) := (hst.block _ (by have := HC.out.lt; omega) (by show ¬ _ = cB; omega)).trans HR.out
      have e1 : Boxed W1 (w.heap.size + 1) 30 (.int .i64 0) := (hst.block _ HEB.out.lt (by show ¬ _ = cB; omega)).trans HEB.out
      have k1 : Boxed W1 (cB + 1) 3 (.int .i64 (st.cnt : Int)) := (hst.block _ HKB.out.lt (by show ¬ _ = cB; omega)).trans HKB.out
      have b1 : Below w.heap.size w W1 := HB.out.trans (hst.below HB.out.size (fun b hb => by have : b = cB := hb; omega))
      cases hp : putS st (x1, x2) with
      | none =>
        rw [Option.isSome_none]
        have HN : Hid ((pre ++ [(x1, x2)]).foldlM putS { kind := K, text := [], n := 0, m := 0, k := 0, cnt := 0 } = none) := HF.out.trans hp
        clear hp hres hst
        have e2 : Boxed (W1.setRow w.heap.size zeroC) (w.heap.size + 1) 30 (.int .i64 0) := (setRow_other W1 _ _ _ (by omega)).trans e1
        have y1 := e2.cell
        have y2 := e2.frozen
        have R1 := Lib.hid r1
        have HE3 := Lib.hid (e2.set (.int .i64 3))
        have HR3 : Hid (((W1.setRow w.heap.size zeroC).setCell ⟨w.heap.size + 1, 0, none⟩ (.int .i64 3)).heap[w.heap.size]? = some (.cells zeroC 27 (0, 0))) := (Below.heap_setCell _ _ _ _ (by show w.heap.size ≠ w.heap.size + 1; omega)).trans (setRow_heap W1 _ zeroC _ _ _ r1)
        have HST2 : Hid (StepX (fun b => b = cB ∨ b = w.heap.size ∨ b = w.heap.size + 1) W ((W1.setRow w.heap.size zeroC).setCell ⟨w.heap.size + 1, 0, none⟩ (.int .i64 3))) :=
          ((HST.out.mono (fun b _ h => .inl h)).trans (StepX.setRow _ _ _ (.inr (.inl rfl)))).trans (StepX.setCell _ _ _ (.inr (.inr rfl)))
        have HB3 : Hid (Below w.heap.size w ((W1.setRow w.heap.size zeroC).setCell ⟨w.heap.size + 1, 0, none⟩ (.int .i64 3))) := (below_setRowS b1 (Nat.le_refl _) _).setCell (p := ⟨w.heap.size + 1, 0, none⟩) (by show w.heap.size ≤ w.heap.size + 1; omega) _
        clear r1 e1 k1 b1 e2 hkc
        gi_wp2_with (refine wpListIn_store_rowTo rfl 27 _ _ rfl rfl w.heap.size zeroC (by as_aux_lemma => kernel_rfl) (by as_aux_lemma => kernel_rfl) 27 zeroC R1.out (by as_aux_lemma => kernel_rfl) rfl (by as_aux_lemma => kernel_rfl) ?_)
        refine ⟨HST2.out.keep (fun b hb h => ?_), HST2.out.keep (fun b hb h => ?_), rfl, HN.out, HR3.out, HE3.out, HB3.out, fun b hb => ⟨(HX.out b hb).1, Nat.lt_of_lt_of_le (HX.out b hb).2 HST2.out.size⟩, ?_⟩
        · have := (HX.out b hb).1; rcases h with h | h | h <;> omega
        · have h4 : b = cB + 2 + 1 := hb; rcases h with h | h | h <;> omega
        · have h1 := HKB.out.lt; have h2 := HST2.out.size; omega
      | some st' =>
        rw [Option.isSome_some]
        obtain ⟨v', u1, u2, u3, hc', htx, hqx⟩ := hres st' hp
        have HN : Hid ((pre ++ [(x1, x2)]).foldlM putS { kind := K, text := [], n := 0, m := 0, k := 0, cnt := 0 } = some st') := HF.out.trans hp
        have hcn := (putS_cnt hp).1
        have HTX : Hid (∃ a, v' = .slice a st'.text.length st'.text.length ∧ Row W1 a st'.text.length (bV st'.text) ∧ (st'.text.length = 0 ∨ (cB + 2 ≤ bOf a ∧ ¬ X (bOf a) ∧ bOf a ≠ cB + 1))) := by
          rcases htx with ⟨hv, ht⟩ | ⟨a', hv, hrow', hlow'⟩
          · refine ⟨a, by rw [hv, ht], ?_, ?_⟩
            · rw [ht]; exact row_stepX HROW.out hst (by rcases HLOW.out with h | h; exact .inl h; exact .inr (by show ¬ _ = cB; omega))
            · rw [ht]; rcases HLOW.out with h | h; exact .inl h; exact .inr ⟨h.1, h.2, by omega⟩
          · refine ⟨a', hv, hrow', ?_⟩
            rcases hlow' with h | h
            · exact .inl h
            · have := HKB.out.lt; exact .inr ⟨by omega, fun hX' => by have := (HX.out _ hX').2; omega, by omega⟩
        have HQX : Hid (QAt W1 (fun b => cB + 2 ≤ b ∧ ¬ X b) st'.q u1 u2 u3) := by
          rcases hqx with ⟨rfl, rfl, rfl, e4⟩ | hqx
          · rw [e4]
            exact HQA.out.move (fun b hb hg => hst.block b hb (by show ¬ b = cB; omega)) (fun b hb hg => hg)
          · refine hqx.mono (fun b hb hg => ⟨by have := HKB.out.lt; omega, fun hX' => by have := (HX.out _ hX').2; omega⟩)
        have HC' := Lib.hid hc'
        clear hp hres hst hc' htx hqx
        by_cases h110 : x1.toNat = 110
        · have hb110 : ((x1.toNat : Int) == 110) = true := by rw [h110]; rfl
          have hcn' : st'.cnt = st.cnt + 1 := by rw [hcn]; simp [h110]
          have y1 := k1.cell
          have y2 := k1.frozen
          have HK2 : Hid (Boxed (W1.setCell ⟨cB + 1, 0, none⟩ (.int .i64 ((st.cnt : Int) + 1))) (cB + 1) 3 (.int .i64 (st'.cnt : Int))) := by
            have := k1.set (.int .i64 ((st.cnt : Int) + 1))
            rw [hcn']; exact this
          have HR2 : Hid ((W1.setCell ⟨cB + 1, 0, none⟩ (.int .i64 ((st.cnt : Int) + 1))).heap[w.heap.size]? = some (.cells zeroC 27 (0, 0))) := (Below.heap_setCell _ _ _ _ (by show w.heap.size ≠ cB + 1; omega)).trans r1
          have HE2 : Hid (Boxed (W1.setCell ⟨cB + 1, 0, none⟩ (.int .i64 ((st.cnt : Int) + 1))) (w.heap.size + 1) 30 (.int .i64 0)) := (Below.heap_setCell _ _ _ _ (by show w.heap.size + 1 ≠ cB + 1; omega)).trans e1
          have HC2 : Hid (CmdAt (W1.setCell ⟨cB + 1, 0, none⟩ (.int .i64 ((st.cnt : Int) + 1))) cB st' v' u1 u2 u3) := (Below.heap_setCell _ _ _ _ (by show cB ≠ cB + 1; omega)).trans HC'.out
          have HST2 : Hid (StepX (fun b => b = cB ∨ b = cB + 1) W (W1.setCell ⟨cB + 1, 0, none⟩ (.int .i64 ((st.cnt : Int) + 1)))) := (HST.out.mono (fun b _ h => .inl h)).trans (StepX.setCell _ _ _ (.inr rfl))
          have HB3 : Hid (Below w.heap.size w (W1.setCell ⟨cB + 1, 0, none⟩ (.int .i64 ((st.cnt : Int) + 1)))) := b1.setCell (p := ⟨cB + 1, 0, none⟩) (by show w.heap.size ≤ cB + 1; omega) _
          clear r1 e1 k1 b1 hkc hcn h110
          gi_wp2
          refine ⟨HST2.out.keep (fun b hb h => ?_), HST2.out.keep (fun b hb h => ?_), st', v', u1, u2, u3, HN.out, HQX.out.setCell ⟨cB + 1, 0, none⟩ (by show ¬ (cB + 2 ≤ cB + 1 ∧ _); omega) _, HC2.out, HK2.out, HR2.out, HE2.out, ?_, HB3.out, fun b hb => ⟨(HX.out b hb).1, Nat.lt_of_lt_of_le (HX.out b hb).2 HST2.out.size⟩⟩
          · have := (HX.out b hb).1; rcases h with h | h <;> omega
          · have h4 : b = cB + 2 + 1 := hb; rcases h with h | h <;> omega
          · obtain ⟨a', h1, h2, h3⟩ := HTX.out
            refine ⟨a', h1, ⟨h2.at_, fun k hk' => ?_⟩, h3.imp id (fun h => ⟨h.1, h.2.1⟩)⟩
            exact (World.cell?_of_block (a := ⟨bOf a', oOf a' + k, none⟩) (Below.heap_setCell _ _ _ _ (h3.resolve_left (by omega)).2.2)).trans (h2.cell k hk')
        · have hb110 : ((x1.toNat : Int) == 110) = false := by rw [beq_eq_false_iff_ne]; omega
          have hcn' : st'.cnt = st.cnt := by rw [hcn]; simp [h110]
          rw [← hcn'] at k1
          have HK2 := Lib.hid k1
          have HR2 := Lib.hid r1
          have HE2 := Lib.hid e1
          have HB3 := Lib.hid b1
          clear r1 e1 k1 b1 hkc hcn h110
          gi_wp2
          refine ⟨HST.out.keep (fun b hb h => ?_), HST.out.keep (fun b hb h => ?_), st', v', u1, u2, u3, HN.out, HQX.out, HC'.out, HK2.out, HR2.out, HE2.out, ?_, HB3.out, fun b hb => ⟨(HX.out b hb).1, Nat.lt_of_lt_of_le (HX.out b hb).2 HST.out.size⟩⟩
          · have := (HX.out b hb).1; have h' : b = cB := h; omega
          · have h4 : b = cB + 2 + 1 := hb; have h' : b = cB := h; omega
          · obtain ⟨a', h1, h2, h3⟩ := HTX.out
            exact ⟨a', h1, h2, h3.imp id (fun h => ⟨h.1, h.2.1⟩)⟩
    case done =>
      rintro D X xs W hD hXD hxs ⟨st, v, q1, q2, q3, hf, hqa, hc, hk, hr, he, ⟨a, rfl, hrow, hlow⟩, hb, hX⟩ hK
      obtain ⟨qa1, qn1, qc1, qa2, qn2, qc2, rfl, rfl, rfl⟩ := hqa.form
      clear HI0 k5c k5k k5r k5e k5s k5n k5b
      have hDc := (hX D hXD).1
      have HS : Hid (parseL s = some st) := by show _ = _; rw [HP.out]; unfold parseS; rw [← hxs]; exact hf
      have e2 : Boxed (W.setRow w.heap.size (cmdA st (.slice a st.text.length st.text.length) (.int .i64 st.q.k) (.slice qa1 qn1 qc1) (.slice qa2 qn2 qc2))) (w.heap.size + 1) 30 (.int .i64 0) := (setRow_other W _ _ _ (by omega)).trans he
      have y1 := e2.cell
      have y2 := e2.frozen
      have HE3 := Lib.hid (e2.set (.int .i64 0))
      have HR3 : Hid (((W.setRow w.heap.size (cmdA st (.slice a st.text.length st.text.length) (.int .i64 st.q.k) (.slice qa1 qn1 qc1) (.slice qa2 qn2 qc2))).setCell ⟨w.heap.size + 1, 0, none⟩ (.int .i64 0)).heap[w.heap.size]? = some (.cells (cmdA st (.slice a st.text.length st.text.length) (.int .i64 st.q.k) (.slice qa1 qn1 qc1) (.slice qa2 qn2 qc2)) 27 (0, 0))) :=
        (Below.heap_setCell _ _ _ _ (by show w.heap.size ≠ w.heap.size + 1; omega)).trans (setRow_heap W _ zeroC _ _ _ hr)
      have HST : Hid (StepX (fun b => b = w.heap.size ∨ b = w.heap.size + 1) W ((W.setRow w.heap.size (cmdA st (.slice a st.text.length st.text.length) (.int .i64 st.q.k) (.slice qa1 qn1 qc1) (.slice qa2 qn2 qc2))).setCell ⟨w.heap.size + 1, 0, none⟩ (.int .i64 0))) :=
        (StepX.setRow _ _ _ (.inl rfl)).trans (StepX.setCell _ _ _ (.inr rfl))
      have HKD : Hid (((W.setRow w.heap.size (cmdA st (.slice a st.text.length st.text.length) (.int .i64 st.q.k) (.slice qa1 qn1 qc1) (.slice qa2 qn2 qc2))).setCell ⟨w.heap.size + 1, 0, none⟩ (.int .i64 0)).heap[D]? = some (.deferred (some []))) :=
        (HST.out.block D (Array.getElem?_eq_some_iff.1 hK).1 (fun h => by rcases h with h | h <;> omega)).trans hK
      have z0 : W.cell? ⟨cB, 0, none⟩ = some (.int .i64 (st.kind : Int)) := hc.cell 0
      have z1 : W.cell? ⟨cB, 1, none⟩ = some (.slice a st.text.length st.text.length) := hc.cell 1
      have z2 : W.cell? ⟨cB, 2, none⟩ = some (.int .i64 (st.n : Int)) := hc.cell 2
      have z3 : W.cell? ⟨cB, 3, none⟩ = some (.int .i64 (st.m : Int)) := hc.cell 3
      have z4 : W.cell? ⟨cB, 4, none⟩ = some (.int .i64 (st.k : Int)) := hc.cell 4
      have z5 : W.cell? ⟨cB, 5, none⟩ = some (.int .i64 st.q.k) := hc.cell 5
      have z6 : W.cell? ⟨cB, 6, none⟩ = some (.slice qa1 qn1 qc1) := hc.cell 6
      have z7 : W.cell? ⟨cB, 7, none⟩ = some (.slice qa2 qn2 qc2) := hc.cell 7
      have HR := Lib.hid hr
      have HQA := Lib.hid hqa
      have HROW := Lib.hid hrow
      have HLOW := Lib.hid hlow
      have HB := Lib.hid hb
      have HX := Lib.hid hX
      have hXD' := hXD
      clear hr he hrow hlow hb hX hK e2 hc hk hf hxs hXD hqa
      gi_wp2_with (refine wpListIn_store_rowTo rfl 27 _ _ rfl rfl w.heap.size (cmdA st (.slice a st.text.length st.text.length) (.int .i64 st.q.k) (.slice qa1 qn1 qc1) (.slice qa2 qn2 qc2)) (by as_aux_lemma => kernel_rfl) (by as_aux_lemma => kernel_rfl) 27 zeroC HR.out (by as_aux_lemma => kernel_rfl) rfl (by as_aux_lemma => kernel_rfl) ?_)
      refine ⟨by simp, .inl ⟨_, _, rfl, run_takeDeferred HKD.out, ?_⟩⟩
      clear z0 z1 z2 z3 z4 z5 z6 z7 y1 y2
      generalize ((W.setRow w.heap.size (cmdA st (.slice a st.text.length st.text.length) (.int .i64 st.q.k) (.slice qa1 qn1 qc1) (.slice qa2 qn2 qc2))).setCell ⟨w.heap.size + 1, 0, none⟩ (.int .i64 0)) = W3 at *
      have r3 : (W3.putObj D (.deferred none)).heap[w.heap.size]? = some (.cells (cmdA st (.slice a st.text.length st.text.length) (.int .i64 st.q.k) (.slice qa1 qn1 qc1) (.slice qa2 qn2 qc2)) 27 (0, 0)) := (World.putObj_heap_other (by omega)).trans HR3.out
      have e3 : Boxed (W3.putObj D (.deferred none)) (w.heap.size + 1) 30 (.int .i64 0) := (World.putObj_heap_other (by omega)).trans HE3.out
      have hst4 : StepX (fun b => b = w.heap.size ∨ b = w.heap.size + 1 ∨ b = D) W (W3.putObj D (.deferred none)) := (HST.out.mono (fun b _ h => h.imp id .inl)).trans (StepX.putObj W3 D _ (.inr (.inr rfl)))
      refine ⟨_, results_parse r3 rfl e3 rfl rfl, ?_⟩
      refine ⟨HB.out.trans (hst4.below HB.out.size (fun b hb => by rcases hb with h | h | h <;> omega)), .inr ⟨st, _, _, _, _, HS.out, rfl, ⟨a, rfl, row_stepX HROW.out hst4 ?_, ?_⟩, ?_⟩⟩
      · rcases HLOW.out with h | h
        · exact .inl h
        · refine .inr (fun hb => ?_)
          rcases hb with h' | h' | h'
          · omega
          · omega
          · exact h.2 (by rw [h']; exact hXD')
      · rcases HLOW.out with h | h
        · exact .inl h
        · exact .inr (by omega)
      · refine HQA.out.move (fun b hb hg => hst4.block b hb (fun h => ?_)) (fun b hb hg => by have := hg.1; omega)
        rcases h with h' | h' | h'
        · omega
        · omega
        · exact hg.2 (by rw [h']; exact hXD')
    case stop =>
      rintro D X c pre W hD hXD hpre ⟨rfl, hf, hr, he, hb, hX, hcs⟩ hK
      clear HI0 k5c k5k k5r k5e k5s k5n k5b
      have hDc := (hX D hXD).1
      have HS : Hid (parseL s = none) := by
        show _ = _
        rw [HP.out]; unfold parseS
        obtain ⟨r, hr'⟩ := hpre
        rw [← hr', List.foldlM_append, hf]; rfl
      have HR := Lib.hid hr
      have HE2 := Lib.hid he
      have HB := Lib.hid hb
      have HKD := Lib.hid hK
      clear hr he hb hX hK hf hpre
      gi_wp2
      refine ⟨by simp, .inl ⟨_, _, rfl, run_takeDeferred HKD.out, ?_⟩⟩
      have r3 : (W.putObj D (.deferred none)).heap[w.heap.size]? = some (.cells zeroC 27 (0, 0)) := (World.putObj_heap_other (by omega)).trans HR.out
      have e3 : Boxed (W.putObj D (.deferred none)) (w.heap.size + 1) 30 (.int .i64 3) := (World.putObj_heap_other (by omega)).trans HE2.out
      refine ⟨_, results_parse r3 rfl e3 rfl rfl, ?_⟩
      exact ⟨HB.out.trans ((StepX.putObj (X := fun b => b = D) W D _ rfl).below HB.out.size (fun b hb => by have : b = D := hb; omega)), .inl ⟨HS.out, rfl⟩⟩
/-- the command of a line, if it is not too long -/
def parseR (s : List UInt8) : Option PCmd := if 9000 < s.length then none else parseL s
def ParseRP (w : World) (s : List UInt8) (e : Ending) (w' : World) : Prop :=
  Below w.heap.size w w' ∧ ((parseR s = none ∧ e = .returned (.tuple #[.agg zeroC, .int .i64 (if 9000 < s.length then 2 else 3)])) ∨
    ∃ st v q1 q2 q3, parseR s = some st ∧ e = .returned (.tuple #[cmdV st v q1 q2 q3, .int .i64 0]) ∧ TextOk w.heap.size w' v st.text ∧ QAt w' (fun b => w.heap.size ≤ b) st.q q1 q2 q3)
set_option maxRecDepth 100000 in
set_option maxHeartbeats 1000000 in
theorem parse_long (w : World) (s : List UInt8) (hs : 9000 < s.length) : Calls Tryz.prog 8 #[.string (uS s)] w fun e w' => e = .returned (.tuple #[.agg zeroC, .int .i64 2]) ∧ Below w.heap.size w w' := by
  refine (callsIn_wide (n := 5)).1 ?_
  have hwf : ∀ f, Fence.wide.fn f = True := fun _ => rfl
  refine callsIn_of_wp_marks Tryz.func8 rfl trivial ?_ rfl
  simp only [Tryz.ntmps8, List.size_toArray, List.length_cons, List.length_nil, Nat.reduceAdd, Nat.reduceSub, Array.replicate_succ, Array.replicate_zero, List.push_toArray, List.append_toArray, List.nil_append, List.cons_append]
  have hsz := uS_size s
  have hs' : ¬ ((s.length : Nat) : Int) ≤ 9000 := by omega
  have hsd : decide ((9000 : Int) < ((s.length : Nat) : Int)) = true := decide_eq_true (by omega)
  have hA0 : ((w.alloc (.cells zeroC 27)).alloc (.cells #[.int .i64 0] 30)).heap[w.heap.size]? = some (.cells zeroC 27 (0, 0)) :=
    (Below.heap_alloc _ _ _ (by rw [World.size_alloc]; omega)).trans (World.alloc_heap_new w _)
  have hA1 : Boxed ((w.alloc (.cells zeroC 27)).alloc (.cells #[.int .i64 0] 30)) (w.heap.size + 1) 30 (.int .i64 0) := by
    have := Boxed.new (w.alloc (.cells zeroC 27)) 30 (.int .i64 0)
    rwa [World.size_alloc] at this
  have hBA : Below w.heap.size w ((w.alloc (.cells zeroC 27)).alloc (.cells #[.int .i64 0] 30)) := ((Below.refl _ _).alloc (Nat.le_refl _) _).alloc (by simp) _
  obtain ⟨w3, hw3⟩ : ∃ w3, w3 = ((w.alloc (.cells #[.int .i64 0, .slice none 0 0, .int .i64 0, .int .i64 0, .int .i64 0, .int .i64 0, .slice none 0 0, .slice none 0 0] 27)).alloc (.cells #[.int .i64 0] 30)) := ⟨_, rfl⟩
  have HA0 : Hid (w3.heap[w.heap.size]? = some (.cells zeroC 27 (0, 0))) := by rw [hw3]; exact hA0
  have HA1 : Hid (Boxed w3 (w.heap.size + 1) 30 (.int .i64 0)) := by rw [hw3]; exact hA1
  have HBA : Hid (Below w.heap.size w w3) := by rw [hw3]; exact hBA
  have hb5 : Boxed (w3.setRow w.heap.size zeroC) (w.heap.size + 1) 30 (.int .i64 0) := (setRow_other w3 _ _ _ (by omega)).trans HA1.out
  have e1 := hb5.cell
  have e2 := hb5.frozen
  have HR5 : Hid ((w3.setRow w.heap.size zeroC).heap[w.heap.size]? = some (.cells zeroC 27 (0, 0))) := setRow_heap w3 _ zeroC _ _ _ HA0.out
  have HB5 := Lib.hid hb5
  have HW5 : Hid (Below w.heap.size w (w3.setRow w.heap.size zeroC)) := below_setRowS HBA.out (Nat.le_refl _) _
  have HW3 := Lib.hid hw3
  clear hb5 hA0 hA1 hBA hw3
  gi_wp2_with (rw [← HW3.out]; refine wpListIn_store_rowTo rfl 27 _ _ rfl rfl w.heap.size zeroC (by as_aux_lemma => kernel_rfl) (by as_aux_lemma => kernel_rfl) 27 zeroC HA0.out (by as_aux_lemma => kernel_rfl) rfl (by as_aux_lemma => kernel_rfl) ?_)
  have HB6 := Lib.hid (HB5.out.set (.int .i64 2))
  have HR6 : Hid (((w3.setRow w.heap.size zeroC).setCell ⟨w.heap.size + 1, 0, none⟩ (.int .i64 2)).heap[w.heap.size]? = some (.cells zeroC 27 (0, 0))) := (Below.heap_setCell _ _ _ _ (by show w.heap.size ≠ w.heap.size + 1; omega)).trans HR5.out
  refine ⟨_, results_parse HR6.out rfl HB6.out rfl rfl, ?_⟩
  exact ⟨rfl, HW5.out.setCell (p := ⟨w.heap.size + 1, 0, none⟩) (by show w.heap.size ≤ w.heap.size + 1; omega) _⟩
theorem parse_full (w : World) (he : Env w) (s : List UInt8) (hs : s.length ≤ 100000) : Calls Tryz.prog 8 #[.string (uS s)] w (ParseRP w s) := by
  by_cases h : 9000 < s.length
  · refine (parse_long w s h).mono ?_
    rintro e w' ⟨rfl, hb⟩
    exact ⟨hb, .inl ⟨by unfold parseR; rw [if_pos h], by rw [if_pos h]⟩⟩
  · refine (parse_any w he s (by omega)).mono ?_
    rintro e w' ⟨hb, hcase⟩
    refine ⟨hb, ?_⟩
    unfold parseR
    rw [if_neg h, if_neg h]
    exact hcase
end Go.Proofs.YtdcobmoeligdkaaGreatDoor
