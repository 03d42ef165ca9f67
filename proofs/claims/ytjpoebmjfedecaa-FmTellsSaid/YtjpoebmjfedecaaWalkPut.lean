/-
  Places: samples, sizes and the map; what put puts down.
-/
import Derived.Test.YtjpoebmjfedecaaPlainFmTells
import Derived.Laws.AppendOwn
namespace Go.Proofs.Ytjpoebmjfedecaa
open Go.RowKit Go.Maps
attribute [local go_sem] Oper.semAt_some

theorem info_intP : (Try.prog.info? 3).map (fun i => (i.zero, i.size, i.bytes)) = some (some (.int .i64 0), 1, 8) := by kernel_rfl
def intsN (S : List Nat) : List Value := S.map fun r : Nat => Value.int .i64 (r : Int)
theorem intsN_snoc (S : List Nat) (r : Nat) : intsN (S ++ [r]) = intsN S ++ [Value.int .i64 (r : Int)] := by simp [intsN]
/-- block bp is Places, of samples S and sizes Z and the map f; all its blocks are in Y -/
structure PlIn (Y : Nat → Prop) (W : World) (bp bm : Nat) (vS vZ : Value) (S Z : List Nat) (n : Nat) (f : Int → Option (Nat × Nat)) : Prop where
  box : W.heap[bp]? = some (.cells #[vS, vZ, .map (some bm)] 78 (0, 0))
  rs : W.ownsRow 0 3 1 vS S.length (intsN S)
  rz : W.ownsRow 0 3 1 vZ Z.length (intsN Z)
  ap : Apart vZ vS
  mp : PMap W bm n f
  ne : bm ≠ bp
  lm : bm < W.heap.size
  ns : vS.ownBlock ≠ some bp
  nz : vZ.ownBlock ≠ some bp
  ms : vS.ownBlock ≠ some bm
  mz : vZ.ownBlock ≠ some bm
  yp : Y bp
  ym : Y bm
  ys : ∀ g, vS.ownBlock = some g → Y g
  yz : ∀ g, vZ.ownBlock = some g → Y g
theorem ownsRow_keepX {Y : Nat → Prop} {W W' : World} {base : Nat} {e : TypeId} {size : Nat} {v : Value} {k : Nat} {xs : List Value} (h : W.ownsRow base e size v k xs) (st : KeepX Y W W') (hx : ∀ g, v.ownBlock = some g → Y g) : W'.ownsRow base e size v k xs := by
  refine ⟨h.1, ?_⟩
  rcases h.2 with hn | ⟨g, cap, cur, rfl, hb, hh, hr⟩
  · exact .inl hn
  · refine .inr ⟨g, cap, cur, rfl, hb, ?_, hr⟩
    exact (st.block g (Array.getElem?_eq_some_iff.1 hh).1 (hx g rfl)).trans hh
theorem PlIn.kept {Y : Nat → Prop} {W W' : World} {bp bm : Nat} {vS vZ : Value} {S Z : List Nat} {n : Nat} {f : Int → Option (Nat × Nat)} (h : PlIn Y W bp bm vS vZ S Z n f) (k : KeepX Y W W') : PlIn Y W' bp bm vS vZ S Z n f :=
  ⟨(k.block _ (Array.getElem?_eq_some_iff.1 h.box).1 h.yp).trans h.box, ownsRow_keepX h.rs k h.ys, ownsRow_keepX h.rz k h.yz, h.ap, h.mp.kept (k.block _ h.lm h.ym), h.ne, Nat.lt_of_lt_of_le h.lm k.size, h.ns, h.nz, h.ms, h.mz, h.yp, h.ym, h.ys, h.yz⟩
theorem PlIn.mono {Y Y' : Nat → Prop} {W : World} {bp bm : Nat} {vS vZ : Value} {S Z : List Nat} {n : Nat} {f : Int → Option (Nat × Nat)} (h : PlIn Y W bp bm vS vZ S Z n f) (k : ∀ b, Y b → Y' b) : PlIn Y' W bp bm vS vZ S Z n f :=
  ⟨h.box, h.rs, h.rz, h.ap, h.mp, h.ne, h.lm, h.ns, h.nz, h.ms, h.mz, k _ h.yp, k _ h.ym, fun g e => k _ (h.ys g e), fun g e => k _ (h.yz g e)⟩
theorem PlIn.c0 {Y : Nat → Prop} {W : World} {bp bm : Nat} {vS vZ : Value} {S Z : List Nat} {n : Nat} {f : Int → Option (Nat × Nat)} (h : PlIn Y W bp bm vS vZ S Z n f) :
    W.cell? ⟨bp, 0, none⟩ = some vS ∧ W.cell? ⟨bp, 1, none⟩ = some vZ ∧ W.cell? ⟨bp, 2, none⟩ = some (.map (some bm)) ∧ W.frozen? ⟨bp, 0, none⟩ = false ∧ W.frozen? ⟨bp, 1, none⟩ = false := by
  refine ⟨?_, ?_, ?_, ?_, ?_⟩ <;> simp [World.cell?, World.frozen?, h.box]
theorem own_slice {w : World} {e : TypeId} {v : Value} {k : Nat} {xs : List Value} (h : w.ownsRow 0 e 1 v (k + 1) xs) : ∃ g c, v = .slice (some ⟨g, 0, none⟩) (k + 1) c := by
  rcases h.2 with ⟨_, h0⟩ | ⟨g, cap, cur, rfl, _⟩
  · cases h0
  · exact ⟨g, cap, rfl⟩
/-- behind the append and its store -/
theorem PlIn.app {Y : Nat → Prop} {W w1 : World} {bp bm : Nat} {vS vZ v' : Value} {S Z : List Nat} {n : Nat} {f : Int → Option (Nat × Nat)} (h : PlIn Y W bp bm vS vZ S Z n f) (r : Nat) {tmp : Obj}
    (hown : w1.ownsRow 0 3 1 v' (S.length + 1) (intsN S ++ [.int .i64 (r : Int)])) (hgrow : (W.alloc tmp).grownBy w1 vS.ownBlock) (hat : v'.ownBlock = vS.ownBlock ∨ v'.ownBlock = some (W.alloc tmp).heap.size) :
    w1.heap[bp]? = some (.cells #[vS, vZ, .map (some bm)] 78 (0, 0)) ∧
    PlIn (fun b => Y b ∨ (W.heap.size ≤ b ∧ b < (w1.setCell ⟨bp, 0, none⟩ v').heap.size)) (w1.setCell ⟨bp, 0, none⟩ v') bp bm v' vZ (S ++ [r]) Z n f ∧ StepX Y W (w1.setCell ⟨bp, 0, none⟩ v') ∧ ∀ b, b < W.heap.size → b ≠ bp → vS.ownBlock ≠ some b → (w1.setCell ⟨bp, 0, none⟩ v').heap[b]? = W.heap[b]? := by
  have hsz : W.heap.size + 1 ≤ w1.heap.size := by have := hgrow.size; rw [World.size_alloc] at this; exact this
  have hsz2 : (w1.setCell ⟨bp, 0, none⟩ v').heap.size = w1.heap.size := by simp [World.setCell]
  have hbl : bp < W.heap.size := (Array.getElem?_eq_some_iff.1 h.box).1
  have hk : ∀ b, b < W.heap.size → vS.ownBlock ≠ some b → w1.heap[b]? = W.heap[b]? := fun b hb hn => by
    rw [hgrow.block b (by rw [World.size_alloc]; omega) (fun e => hn e.symm), Below.heap_alloc W tmp b hb]
  have hb1 := (hk bp hbl h.ns).trans h.box
  have hlt := h.rs.lt
  have hlz := h.rz.lt
  have hln := hown.lt
  obtain ⟨hz, hap⟩ := owns_two h.rz h.ap hgrow hat
  have hnb : ∀ b, b < W.heap.size → vS.ownBlock ≠ some b → v'.ownBlock ≠ some b := fun b hb hn => by
    rcases hat with e | e
    · rw [e]; exact hn
    · rw [e]; intro e2; have := Option.some.inj e2; rw [World.size_alloc] at this; omega
  refine ⟨hb1, ⟨?_, ?_, ?_, hap, ?_, h.ne, by rw [hsz2]; have := h.lm; omega, hnb _ hbl h.ns, h.nz, hnb _ h.lm h.ms, h.mz, .inl h.yp, .inl h.ym, fun g e => ?_, fun g e => .inl (h.yz g e)⟩, ?_, fun b hb hn ho => by rw [Below.heap_setCell w1 ⟨bp, 0, none⟩ v' b hn]; exact hk b hb ho⟩
  · have hlt1 : bp < w1.heap.size := by omega
    have he := (Array.getElem?_eq_some_iff.1 hb1).2
    simp [World.setCell, hlt1, Array.getElem_modify, he]
  · rw [List.length_append, intsN_snoc]
    exact hown.kept (grownBy_setCell' w1 bp v') (.inr (hnb _ hbl h.ns))
  · exact hz.kept (grownBy_setCell' w1 bp v') (.inr h.nz)
  · refine h.mp.kept ?_
    rw [Below.heap_setCell w1 ⟨bp, 0, none⟩ v' bm h.ne]
    exact hk bm h.lm h.ms
  · rcases hat with e2 | e2
    · exact .inl (h.ys g (by rw [← e2]; exact e))
    · have h1 := hln g e
      rw [e2] at e
      have := Option.some.inj e
      rw [World.size_alloc] at this
      exact .inr ⟨by omega, by omega⟩
  · refine ⟨hgrow.os, hgrow.tape, hgrow.output, by omega, fun b hb hy => ?_⟩
    rw [Below.heap_setCell w1 ⟨bp, 0, none⟩ v' b (fun e => hy (by rw [e]; exact h.yp))]
    exact hk b hb (fun e => hy (h.ys b e))
theorem PlIn.mapput {Y : Nat → Prop} {W w1 : World} {bp bm : Nat} {vS vZ : Value} {S Z : List Nat} {n m : Nat} {f f' : Int → Option (Nat × Nat)} (h : PlIn Y W bp bm vS vZ S Z n f) (hm : PMap w1 bm m f') (hg : W.grownBy w1 (some bm)) : PlIn Y w1 bp bm vS vZ S Z m f' ∧ StepX Y W w1 :=
  ⟨⟨(hg.block _ (Array.getElem?_eq_some_iff.1 h.box).1 (fun e => h.ne (Option.some.inj e).symm)).trans h.box, h.rs.kept hg (.inr h.ms), h.rz.kept hg (.inr h.mz), h.ap, hm, h.ne, Nat.lt_of_lt_of_le h.lm hg.size, h.ns, h.nz, h.ms, h.mz, h.yp, h.ym, h.ys, h.yz⟩, StepX.gb hg (fun r e _ => by cases e; exact h.ym)⟩
set_option maxRecDepth 100000 in
set_option maxHeartbeats 1000000 in
theorem put_any (w : World) (Y : Nat → Prop) (bp bm : Nat) (vS vZ : Value) (S Z : List Nat) (n : Nat) (f : Int → Option (Nat × Nat)) (h : PlIn Y w bp bm vS vZ S Z n f) (hs : S.length ≤ 1000000) (hn : n ≤ 1000000) (r : Nat) (hr : (Lit.int .i64 (r : Int)).wf = true) (d o : Nat) :
    Calls Try.prog 44 #[.pointer (some ⟨bp, 0, none⟩), .int .i64 (r : Int), .agg #[.int .i64 (d : Int), .int .i64 (o : Int)]] w fun e w' => e = .returned (.tuple #[]) ∧
      ∃ Y' vS', PlIn Y' w' bp bm vS' vZ (S ++ [r]) Z (n + 1) (updI f r (d, o)) ∧ StepX Y w w' ∧ ∀ b, Y' b → Y b ∨ (w.heap.size ≤ b ∧ b < w'.heap.size) := by
  obtain ⟨i0, hi, hz0, hz1, hz2⟩ := info_parts info_intP
  have hb0 : Below w.heap.size w (w.alloc (.cells #[.int .i64 (d : Int), .int .i64 (o : Int)] 84)) := (Below.refl _ _).alloc (Nat.le_refl _) _
  have g0 : (w.alloc (.cells #[.int .i64 (d : Int), .int .i64 (o : Int)] 84)).heap[w.heap.size]? = some (.cells #[.int .i64 (d : Int), .int .i64 (o : Int)] 84 (0, 0)) := World.alloc_heap_new _ _
  have HP := Lib.hid (h.kept (KeepX.of_below hb0))
  have HS0 : Hid (StepX Y w (w.alloc (.cells #[.int .i64 (d : Int), .int .i64 (o : Int)] 84))) := StepX.of_below hb0
  have HG0 := Lib.hid g0
  have HNS : Hid (vS.ownBlock ≠ some w.heap.size ∧ w.heap.size ≠ bp ∧ w.heap.size ≠ bm) := ⟨fun e => by have := (h.rs.lt _ e).2; omega, by have := (Array.getElem?_eq_some_iff.1 h.box).1; omega, by have := h.lm; omega⟩
  clear h hb0 g0
  obtain ⟨c0, _, _, f0, _⟩ := HP.out.c0
  have hc1 := cell_one_new (w.alloc (.cells #[.int .i64 (d : Int), .int .i64 (o : Int)] 84)) (.int .i64 (r : Int)) 3
  rw [World.size_alloc] at hc1
  have HC1 := Lib.hid hc1
  clear hc1
  have HOC : ∀ u ∈ [Value.int .i64 (r : Int)], u.oneCell' = true := by simp [Value.oneCell']
  have HML : S.length + 1 ≤ maxLen := by unfold maxLen; omega
  have HBY : (S.length + 1) * 8 ≤ 140737488355328 := by omega
  go_enter Try.func44, Try.ntmps44
  go_wp2_with (at_builtin; go_loud (refine wpList_append_own_at _ rfl _ _ 30 rfl 0 3 i0 (.int .i64 0) 1 8 Try.underlying30 hi hz0 hz1 hz2 rfl (by decide) _ _ _ rfl (HP.out.rs.alloc _) ⟨w.heap.size + 1, 0, none⟩ 1 1 [.int .i64 (r : Int)] rfl rfl HC1.out HOC HML HBY (Nat.zero_le _) ?_; intro v' w1 hown' hgrow _ hat; obtain ⟨g, cg, rfl⟩ := own_slice hown'; have happ := HP.out.app r hown' hgrow hat; obtain ⟨hb1, hp1, hs1, hk1⟩ := happ; have HPL := Lib.hid ((hk1 _ (by rw [World.size_alloc]; omega) HNS.out.2.1 HNS.out.1).trans HG0.out); have HP1 := Lib.hid hp1; have HS1 := Lib.hid hs1; have f1 : w1.frozen? ⟨bp, 0, none⟩ = false := (by simp [World.frozen?, hb1]); have d1 : w1.cell? ⟨bp, 0, none⟩ = some vS := (by simp [World.cell?, hb1]); clear hown' hgrow hat hp1 hs1 hb1 hk1))
  generalize hw2 : w1.setCell ⟨bp, 0, none⟩ _ = w2 at *
  have HW2 := Lib.hid hw2
  obtain ⟨_, _, c2, _, _⟩ := HP1.out.c0
  have e0 : w2.cell? ⟨w.heap.size, 0, none⟩ = some (.int .i64 (d : Int)) := by simp [World.cell?, HPL.out]
  have e1 : w2.cell? ⟨w.heap.size, 1, none⟩ = some (.int .i64 (o : Int)) := by simp [World.cell?, HPL.out]
  have HPd := HP1.out.kept (W' := w2.drew) (KeepX.of_below ((Below.refl _ _).drew))
  obtain ⟨w3, hrun, hpm, hg⟩ := HPd.mp.put hn (r : Int) hr (d, o)
  have HQ := Lib.hid (HPd.mapput hpm hg)
  clear HPd
  clear hpm hg hw2
  go_region
  go_wp2
  go_end0
  have T : StepX Y w w2 := HS0.out.trans HS1.out
  have hq := HQ.out.2
  have hsz : w2.heap.size ≤ w3.heap.size := hq.size
  refine ⟨rfl, _, ⟨_, HQ.out.1⟩, ⟨hq.os.trans T.os, hq.tape.trans T.tape, hq.output.trans T.output, Nat.le_trans T.size hsz, fun b hb hy => ?_⟩, fun b hb => ?_⟩
  · refine (hq.block b (Nat.lt_of_lt_of_le hb T.size) (fun h => ?_)).trans (T.block b hb hy)
    rw [World.size_alloc] at h
    exact h.elim hy (fun h => by omega)
  · rw [World.size_alloc] at hb
    exact hb.imp id (fun h => ⟨by omega, by omega⟩)
end Go.Proofs.Ytjpoebmjfedecaa
