/-
  cmd.Text: the line of a command.
-/
import Derived.Test.YtdcobmoeligdkaaGreatDoorCmLine
import Derived.Lib.VarintMem
import Derived.Laws.RangeAny
import Derived.Deep.RegionLaw
namespace Go.Proofs.YtdcobmoeligdkaaGreatDoor
open Go.RowKit Go.Shelf

def TextPost (w : World) (k n m c : Int) (text : List UInt8) (q : QT) (e : Ending) (w' : World) : Prop :=
  Below w.heap.size w w' ∧ ((¬ TextR k n m c text q ∧ e = .returned (.tuple #[.string ⟨#[]⟩, .int .i64 1])) ∨
    (TextR k n m c text q ∧ e = .returned (.tuple #[.string (uS (lineL k.toNat n m c text (qtextL q))), .int .i64 0])))
theorem info_strc : (Tryz.prog.info? 9).map (fun i => (i.zero, i.size, i.bytes)) = some (some (.string ByteArray.empty), 1, 16) := by kernel_rfl
theorem size_strc (w : World) : (sizeOf (Tryz.prog.elem 44)).run Tryz.prog w = .ok 1 w := by kernel_rfl
theorem size_intc (w : World) : (sizeOf (Tryz.prog.elem 45)).run Tryz.prog w = .ok 1 w := by kernel_rfl
/-- strings in a row -/
def sV (l : List (List UInt8)) : List Value := l.map fun x => .string (uS x)
/-- between the pieces: the row of pieces, the iterator, the numbers, the command -/
structure TSt (w : World) (B7 : Nat) (args : Array Value) (n m c : Int) (nd wd : List UInt8) (p : Nat) (done : List (List UInt8)) (v5 : Value) (wr : World) : Prop where
  out : wr.ownsRow (B7 + 1) 9 1 v5 (done.length + 1) (sV (wd :: done))
  own : ∀ g, v5.ownBlock = some g → g = B7 + 1 ∨ B7 + 4 ≤ g
  it : wr.heap[B7 + 3]? = some (.stringIter (uS nd) p)
  ls : wr.heap[B7 + 2]? = some (.cells #[.int .i64 n, .int .i64 m, .int .i64 c] 3 (0, 0))
  arg : wr.heap[w.heap.size]? = some (.cells args 27 (0, 0))
  bel : Below w.heap.size w wr
  big : B7 + 4 ≤ wr.heap.size
  low : w.heap.size + 1 ≤ B7
theorem TSt.kept {w : World} {B7 : Nat} {args : Array Value} {n m c : Int} {nd wd : List UInt8} {p : Nat} {done : List (List UInt8)} {v5 : Value} {wr W : World} (h : TSt w B7 args n m c nd wd p done v5 wr) (hb : Below wr.heap.size wr W) : TSt w B7 args n m c nd wd p done v5 W := by
  have h1 := h.big; have h2 := h.low
  exact ⟨ownsRow_stepX h.out (StepX.of_below hb : StepX (fun _ => False) wr W) (fun _ _ h => h), h.own, (hb.block _ (by omega)).trans h.it, (hb.block _ (by omega)).trans h.ls, (hb.block _ (by omega)).trans h.arg, below_next h.bel hb h.bel.size, Nat.le_trans h.big hb.size, h.low⟩
theorem TSt.next {w : World} {B7 : Nat} {args : Array Value} {n m c : Int} {nd wd : List UInt8} {p : Nat} {done : List (List UInt8)} {v5 : Value} {wr : World} (h : TSt w B7 args n m c nd wd p done v5 wr) : TSt w B7 args n m c nd wd (p + 1) done v5 (wr.iterAt (B7 + 3) (uS nd) (p + 1)) := by
  have h1 := h.big; have h2 := h.low
  refine ⟨ownsRow_stepX (X := fun b => b = B7 + 3) h.out ⟨rfl, rfl, rfl, by rw [Lib.iterAt_size]; exact Nat.le_refl _, fun b _ hn => Lib.iterAt_other _ _ _ _ _ hn⟩ (fun g hg => ?_), h.own, Lib.iterAt_heap _ _ _ _ _ h.it, (Lib.iterAt_other _ _ _ _ _ (by omega)).trans h.ls, (Lib.iterAt_other _ _ _ _ _ (by omega)).trans h.arg, Lib.below_iterAt h.bel (by omega) _ _, by rw [Lib.iterAt_size]; exact h.big, h.low⟩
  rcases h.own g hg with e | e
  · show ¬ g = B7 + 3; omega
  · show ¬ g = B7 + 3; omega
theorem TSt.app {w : World} {B7 : Nat} {args : Array Value} {n m c : Int} {nd wd : List UInt8} {p : Nat} {done : List (List UInt8)} {v5 v5' : Value} {wr wq : World} {tmp : Obj} {x : List UInt8} (h : TSt w B7 args n m c nd wd p done v5 wr)
    (hown : wq.ownsRow (B7 + 1) 9 1 v5' (done.length + 1 + 1) (sV (wd :: done) ++ [.string (uS x)])) (hg : (wr.alloc tmp).grownBy wq v5.ownBlock) (hat : v5'.ownBlock = v5.ownBlock ∨ v5'.ownBlock = some (wr.heap.size + 1)) : TSt w B7 args n m c nd wd p (done ++ [x]) v5' wq := by
  have h1 := h.big; have h2 := h.low
  have hk : ∀ b, b < wr.heap.size → b ≠ B7 + 1 → b < B7 + 4 → wq.heap[b]? = wr.heap[b]? := fun b hb hn hl => by
    rw [hg.block b (by rw [World.size_alloc]; omega) (fun e => by rcases h.own b e.symm with h' | h' <;> omega), Below.heap_alloc _ _ _ hb]
  have hsz : wr.heap.size + 1 ≤ wq.heap.size := by have := hg.size; rwa [World.size_alloc] at this
  refine ⟨?_, fun g hg' => ?_, (hk _ (by omega) (by omega) (by omega)).trans h.it, (hk _ (by omega) (by omega) (by omega)).trans h.ls, (hk _ (by omega) (by omega) (by omega)).trans h.arg, (h.bel.alloc h.bel.size _).grown hg (by rw [World.size_alloc]; omega) (fun g hg' => by rcases h.own g hg' with h' | h' <;> omega), by omega, h.low⟩
  · have e : sV (wd :: (done ++ [x])) = sV (wd :: done) ++ [.string (uS x)] := by unfold sV; simp
    rw [e, List.length_append, List.length_singleton]; exact hown
  · rcases hat with e | e
    · rw [e] at hg'; exact h.own g hg'
    · rw [e] at hg'; have := Option.some.inj hg'; omega
theorem needs_tn (K : Nat) (h : K ≤ 17) : ∀ x ∈ needsOf K, x.toNat = 116 ∨ x.toNat = 110 ∨ x.toNat = 113 := by
  have : ∀ K : Fin 18, ∀ x ∈ needsOf K.1, x.toNat = 116 ∨ x.toNat = 110 ∨ x.toNat = 113 := by decide
  exact this ⟨K, by omega⟩
theorem putS_text {st st' : PCmd} {x : UInt8 × List UInt8} (h : putS st x = some st') (ht : st.text.length ≤ 2000) : st'.text.length ≤ 2000 := by
  unfold putS at h
  split at h
  · split at h
    · split at h
      · rename_i hl
        cases h
        have : mostT st.kind ≤ 2000 := by unfold mostT; split <;> omega
        exact Nat.le_trans hl this
      · cases h
    · cases h
  · split at h
    · obtain ⟨v, _, rfl⟩ := Option.map_eq_some_iff.1 h
      exact ht
    · split at h
      · obtain ⟨v, _, rfl⟩ := Option.map_eq_some_iff.1 h
        exact ht
      · split at h
        · cases h; exact ht
        · cases h
theorem foldS_text : ∀ (pre : List (UInt8 × List UInt8)) (st st' : PCmd), pre.foldlM putS st = some st' → st.text.length ≤ 2000 → st'.text.length ≤ 2000
  | [], st, st', h, ht => by cases h; exact ht
  | x :: r, st, st', h, ht => by
    rw [List.foldlM_cons] at h
    obtain ⟨s1, h1, h2⟩ := Option.bind_eq_some_iff.1 h
    exact foldS_text r s1 st' h2 (putS_text h1 ht)
theorem parseL_text {l : List UInt8} {st : PCmd} (h : parseL l = some st) : st.text.length ≤ 2000 := by
  unfold parseL at h
  split at h
  · cases h
  · exact foldS_text _ _ _ h (by simp)
theorem parseR_text {l : List UInt8} {st : PCmd} (h : parseR l = some st) : st.text.length ≤ 2000 := by
  unfold parseR at h
  split at h
  · cases h
  · exact parseL_text h
theorem join_any (w : World) (a : Option Addr) (cap : Nat) (xs : List (List UInt8)) (h1 : 1 ≤ xs.length) (ha : a = some ⟨bOf a, 0, none⟩) (hcap : xs.length ≤ cap) (hr : Row w a xs.length (fun k => (sV xs).getD k undef)) (hl : (Lib.join xs [32]).length ≤ 100000) (hm : xs.length ≤ 1000) :
    Calls Tryz.prog 15 #[.slice a xs.length cap, .string ⟨#[32]⟩] w fun e w' => e = .returned (.string (uS (Lib.join xs [32]))) ∧ Below w.heap.size w w' := by
  have hx : (xs.map uS).map (fun b : ByteArray => b.data.toList) = xs := by rw [List.map_map]; exact List.map_id _
  have hlen : (xs.map uS).length = xs.length := List.length_map ..
  have h := Tryz.strings_Join (bOf a) 0 cap (xs.map uS) ⟨#[32]⟩ w (fun j x hj => ?_) (hr.lt (by omega)) (by rw [hlen]; omega) (by rw [hlen]; exact hcap) (by rw [hx]; exact Nat.le_trans hl (by decide))
  · rw [hlen, hx, ← ha] at h
    exact h
  · have hjl : j < xs.length := by have := (List.getElem?_eq_some_iff.1 hj).1; rwa [hlen] at this
    have hc := hr.cell j hjl
    have ho : oOf a = 0 := by rw [ha]; rfl
    rw [ho] at hc
    rw [hc]
    unfold sV
    rw [List.getElem?_map] at hj
    rw [List.getD_eq_getElem?_getD, List.getElem?_map]
    cases hq : xs[j]? with
    | none => rw [hq] at hj; cases hj
    | some y => rw [hq] at hj; cases hj; rfl
set_option maxRecDepth 100000 in
set_option maxHeartbeats 4000000 in
theorem text_any (w : World) (he : Env w) (k n m c : Int) (hn : I64 n) (hm : I64 m) (hc : I64 c) (hk : I64 k) (a : Option Addr) (cap : Nat) (text : List UInt8) (ht : text.length ≤ 100000) (hr : Row w a text.length (bV text))
    (G : Nat → Prop) (q : QT) (v0 v1 v2 : Value) (hq : QAt w G q v0 v1 v2) : Calls Tryz.prog 6 #[cmdI k n m c (.slice a text.length cap) v0 v1 v2] w (TextPost w k n m c text q) := by
  have HQA := Lib.hid hq
  obtain ⟨e1, n1, k1, e2, n2, k2, rfl, rfl, rfl⟩ := hq.form
  clear hq
  generalize q.k = e0 at *
  obtain ⟨qs, hqs⟩ : ∃ qs, qtextL q = qs := ⟨_, rfl⟩
  have hqsl : qs.length ≤ 19200 := by rw [← hqs]; exact qtextL_len q
  have HQS := Lib.hid hqs
  clear hqs
  have hb0 : Below w.heap.size w (w.alloc (.cells #[.int .i64 k, .slice a text.length cap, .int .i64 n, .int .i64 m, .int .i64 c, .int .i64 e0, .slice e1 n1 k1, .slice e2 n2 k2] 27)) := (Below.refl _ _).alloc (Nat.le_refl _) _
  by_cases hbad : ¬ (1 ≤ k ∧ k ≤ 17 ∧ text.length ≤ 2000)
  · have HY : Hid (∀ W, Below w.heap.size w W → TextPost w k n m c text q (.returned (.tuple #[.string ⟨#[]⟩, .int .i64 1])) W) := fun W hW => ⟨hW, .inl ⟨fun h => hbad ⟨h.1, h.2.1, h.2.2.1⟩, rfl⟩⟩
    have HB0 := Lib.hid hb0
    unfold cmdI
    clear hr he hb0
    by_cases h1 : k < 1
    · clear hbad
      have h1d : decide (k < 1) = true := by simpa using h1
      go_enter Tryz.func6, Tryz.ntmps6
      go_wp2
      go_ret2
      exact HY.out _ HB0.out
    · have h1d : decide (k < 1) = false := by simpa using h1
      by_cases h2 : 17 < k
      · have h2d : decide (17 < k) = true := by simpa using h2
        clear hbad
        go_enter Tryz.func6, Tryz.ntmps6
        go_wp2
        go_ret2
        exact HY.out _ HB0.out
      · have h2d : decide (17 < k) = false := by simpa using h2
        have h3 : (2000 : Int) < (text.length : Int) := by omega
        have h3d : decide ((2000 : Int) < (text.length : Int)) = true := by simpa using h3
        clear hbad
        go_enter Tryz.func6, Tryz.ntmps6
        go_wp2
        go_ret2
        exact HY.out _ HB0.out
  · obtain ⟨hk1, hk2, ht2⟩ := Classical.not_not.1 hbad
    clear hbad
    obtain ⟨K, rfl⟩ : ∃ K : Nat, k = (K : Int) := ⟨k.toNat, by omega⟩
    have hK1 : 1 ≤ K := by omega
    have hK17 : K ≤ 17 := by omega
    have h1d : decide ((K : Int) < 1) = false := by simp; omega
    have h2d : decide ((17 : Int) < (K : Int)) = false := by simp; omega
    have h3d : decide ((2000 : Int) < (text.length : Int)) = false := by simp; omega
    have HE := Lib.hid he
    have HR := Lib.hid hr
    have HB0 := Lib.hid hb0
    have hA : (w.alloc (.cells #[.int .i64 (K : Int), .slice a text.length cap, .int .i64 n, .int .i64 m, .int .i64 c, .int .i64 e0, .slice e1 n1 k1, .slice e2 n2 k2] 27)).heap[w.heap.size]? = some (.cells #[.int .i64 (K : Int), .slice a text.length cap, .int .i64 n, .int .i64 m, .int .i64 c, .int .i64 e0, .slice e1 n1 k1, .slice e2 n2 k2] 27 (0, 0)) := World.alloc_heap_new _ _
    have HA := Lib.hid hA
    have hsA : (w.alloc (.cells #[.int .i64 (K : Int), .slice a text.length cap, .int .i64 n, .int .i64 m, .int .i64 c, .int .i64 e0, .slice e1 n1 k1, .slice e2 n2 k2] 27)).heap.size = w.heap.size + 1 := World.size_alloc _ _
    unfold cmdI
    clear hr he hb0 hA hk
    go_enter Tryz.func6, Tryz.ntmps6
    go_wp2_with (go_at_call 11; refine Hid.out ?_)
    refine Lib.hid ?_
    generalize (w.alloc (.cells #[.int .i64 (K : Int), .slice a text.length cap, .int .i64 n, .int .i64 m, .int .i64 c, .int .i64 e0, .slice e1 n1 k1, .slice e2 n2 k2] 27)) = wA at *
    refine (shapes_any wA).mono ?_
    rintro e w2 ⟨rfl, hb2⟩
    have hB2 : w2.heap[w.heap.size]? = some (.cells #[.int .i64 (K : Int), .slice a text.length cap, .int .i64 n, .int .i64 m, .int .i64 c, .int .i64 e0, .slice e1 n1 k1, .slice e2 n2 k2] 27 (0, 0)) := (hb2.block _ (by omega)).trans HA.out
    have HBB : Hid (Below w.heap.size w w2) := below_next HB0.out hb2 HB0.out.size
    have hs2 : w.heap.size + 1 ≤ w2.heap.size := by have := hb2.size; omega
    clear hb2 HA HB0 hsA
    go_wp2_with (refine Great.wpList_runTo rfl (some 4) rfl (.pointer (some ⟨w2.heap.size, 0, none⟩)) (w2.alloc (.cells zeroS 42)) (by as_aux_lemma => kernel_rfl) ?_; refine Go.wpList_store_rowTo rfl 42 _ _ rfl rfl w2.heap.size shA (by as_aux_lemma => kernel_rfl) (by as_aux_lemma => kernel_rfl) 42 zeroS (World.alloc_heap_new _ _) (by as_aux_lemma => kernel_rfl) (by as_aux_lemma => kernel_rfl) (by as_aux_lemma => kernel_rfl) ?_; refine Hid.out ?_)
    refine Lib.hid ?_
    have hbD : Below w2.heap.size w2 ((w2.alloc (.cells zeroS 42)).setRow w2.heap.size shA) := below_setRowS ((Below.refl _ _).alloc (Nat.le_refl _) _) (Nat.le_refl _) _
    have hD : ((w2.alloc (.cells zeroS 42)).setRow w2.heap.size shA).heap[w2.heap.size]? = some (.cells shA 42 (0, 0)) := setRow_heap _ _ zeroS _ _ _ (World.alloc_heap_new _ _)
    have hsD : ((w2.alloc (.cells zeroS 42)).setRow w2.heap.size shA).heap.size = w2.heap.size + 1 := by rw [size_setRow, World.size_alloc]
    generalize ((w2.alloc (.cells zeroS 42)).setRow w2.heap.size shA) = wD at *
    have hD0 : wD.heap[w.heap.size]? = some (.cells #[.int .i64 (K : Int), .slice a text.length cap, .int .i64 n, .int .i64 m, .int .i64 c, .int .i64 e0, .slice e1 n1 k1, .slice e2 n2 k2] 27 (0, 0)) := (hbD.block _ (by omega)).trans hB2
    have HBD : Hid (Below w.heap.size w wD) := below_next HBB.out hbD HBB.out.size
    obtain ⟨B7, hB7⟩ : ∃ B7, B7 = w2.heap.size := ⟨_, rfl⟩
    rw [← hB7] at hD hsD hs2 ⊢
    clear hbD hB7 hB2 HBB
    have x0 := cell_of_row wD _ 0 _ _ _ hD0
    have x1 := cell_of_row wD _ 1 _ _ _ hD0
    have x2 := cell_of_row wD _ 2 _ _ _ hD0
    have x3 := cell_of_row wD _ 3 _ _ _ hD0
    have x4 := cell_of_row wD _ 4 _ _ _ hD0
    obtain ⟨wd, hwd⟩ : ∃ wd, wd = (shL.getD K ([], [])).1 := ⟨_, rfl⟩
    obtain ⟨nd, hnd⟩ : ∃ nd, nd = needsOf K := ⟨_, rfl⟩
    have x7 : wD.cell? ⟨B7, K * 2, none⟩ = some (.string (uS wd)) := (cell_of_row _ _ _ _ _ _ hD).trans (by rw [hwd, Nat.mul_comm]; exact (shA_at K (by omega)).1)
    have hKi : (K : Int) < 18 := by omega
    have hbE : Below w.heap.size w ((wD.alloc (.cells #[.string (uS wd)] 9)).alloc (.cells #[.int .i64 n, .int .i64 m, .int .i64 c] 3)) := ((HBD.out).alloc HBD.out.size _).alloc (by simp; omega) _
    have hE0 : ((wD.alloc (.cells #[.string (uS wd)] 9)).alloc (.cells #[.int .i64 n, .int .i64 m, .int .i64 c] 3)).heap[w.heap.size]? = some (.cells #[.int .i64 (K : Int), .slice a text.length cap, .int .i64 n, .int .i64 m, .int .i64 c, .int .i64 e0, .slice e1 n1 k1, .slice e2 n2 k2] 27 (0, 0)) :=
      (Below.heap_alloc _ _ _ (by simp; omega)).trans ((Below.heap_alloc _ _ _ (by omega)).trans hD0)
    have hE7 : ((wD.alloc (.cells #[.string (uS wd)] 9)).alloc (.cells #[.int .i64 n, .int .i64 m, .int .i64 c] 3)).heap[B7]? = some (.cells shA 42 (0, 0)) :=
      (Below.heap_alloc _ _ _ (by simp; omega)).trans ((Below.heap_alloc _ _ _ (by omega)).trans hD)
    have hEw : ((wD.alloc (.cells #[.string (uS wd)] 9)).alloc (.cells #[.int .i64 n, .int .i64 m, .int .i64 c] 3)).heap[B7 + 1]? = some (.cells #[.string (uS wd)] 9 (0, 0)) := by
      have := World.alloc_heap_new wD (.cells #[.string (uS wd)] 9)
      rw [hsD] at this
      exact (Below.heap_alloc _ _ _ (by simp; omega)).trans this
    have hEl : ((wD.alloc (.cells #[.string (uS wd)] 9)).alloc (.cells #[.int .i64 n, .int .i64 m, .int .i64 c] 3)).heap[B7 + 2]? = some (.cells #[.int .i64 n, .int .i64 m, .int .i64 c] 3 (0, 0)) := by
      have := World.alloc_heap_new (wD.alloc (.cells #[.string (uS wd)] 9)) (.cells #[.int .i64 n, .int .i64 m, .int .i64 c] 3)
      rw [World.size_alloc, hsD] at this
      exact this
    have hsE : ((wD.alloc (.cells #[.string (uS wd)] 9)).alloc (.cells #[.int .i64 n, .int .i64 m, .int .i64 c] 3)).heap.size = B7 + 3 := by rw [World.size_alloc, World.size_alloc, hsD]
    have hd0 : (wD.alloc (.cells #[.string (uS wd)] 9)).heap[w.heap.size]? = some (.cells #[.int .i64 (K : Int), .slice a text.length cap, .int .i64 n, .int .i64 m, .int .i64 c, .int .i64 e0, .slice e1 n1 k1, .slice e2 n2 k2] 27 (0, 0)) := (Below.heap_alloc _ _ _ (by omega)).trans hD0
    have y2 := cell_of_row _ _ 2 _ _ _ hd0
    have y3 := cell_of_row _ _ 3 _ _ _ hd0
    have y4 := cell_of_row _ _ 4 _ _ _ hd0
    have z0 := cell_of_row _ _ 0 _ _ _ hE0
    have z8 : ((wD.alloc (.cells #[.string (uS wd)] 9)).alloc (.cells #[.int .i64 n, .int .i64 m, .int .i64 c] 3)).cell? ⟨B7, K * 2 + 1, none⟩ = some (.string (uS nd)) := (cell_of_row _ _ _ _ _ _ hE7).trans (by rw [hnd, Nat.mul_comm]; exact (shA_at K (by omega)).2)
    have HE0 := Lib.hid hE0
    have HEW := Lib.hid hEw
    have HEL := Lib.hid hEl
    have HBE := Lib.hid hbE
    have HWD := Lib.hid hwd
    have HND := Lib.hid hnd
    clear hD hD0 hE0 hE7 hEw hEl hbE hd0 hwd hnd x2 x3 x4
    go_wp2_with fail
    generalize hwE : ((wD.alloc (.cells #[.string (uS wd)] 9)).alloc (.cells #[.int .i64 n, .int .i64 m, .int .i64 c] 3)) = wE at *
    have hI : (wE.iter (uS nd) 0).heap[B7 + 3]? = some (.stringIter (uS nd) 0) := by have := World.iter_heap wE (uS nd) 0; rwa [hsE] at this
    have hbI : Below wE.heap.size wE (wE.iter (uS nd) 0) := (Below.refl _ _).alloc (Nat.le_refl _) _
    have hsI : (wE.iter (uS nd) 0).heap.size = B7 + 4 := by have := World.size_alloc wE (.stringIter (uS nd) 0); rw [hsE] at this; exact this
    have HT0 : Hid (TSt w B7 #[.int .i64 (K : Int), .slice a text.length cap, .int .i64 n, .int .i64 m, .int .i64 c, .int .i64 e0, .slice e1 n1 k1, .slice e2 n2 k2] n m c nd wd 0 [] (.slice (some ⟨B7 + 1, 0, none⟩) 1 1) (wE.iter (uS nd) 0)) :=
      ⟨⟨rfl, .inr ⟨B7 + 1, 1, #[.string (uS wd)], rfl, Nat.le_refl _, (hbI.block _ (by omega)).trans HEW.out, by simp, by simp [maxLen], by simp, by simp [sV]⟩⟩, fun g hg => by simp [Value.ownBlock] at hg; exact .inl hg.symm, hI, (hbI.block _ (by omega)).trans HEL.out, (hbI.block _ (by omega)).trans HE0.out, below_next HBE.out hbI HBE.out.size, by omega, by omega⟩
    have HCN : Hid (nd.countP (fun x => x.toNat == 110) ≤ 3) := by have := needs_cnt K hK17; rw [← HND.out] at this; exact this
    obtain ⟨args, hargs⟩ : ∃ args : Array Value, args = #[.int .i64 (K : Int), .slice a text.length cap, .int .i64 n, .int .i64 m, .int .i64 c, .int .i64 e0, .slice e1 n1 k1, .slice e2 n2 k2] := ⟨_, rfl⟩
    rw [← hargs] at HT0
    have HARG := Lib.hid hargs
    clear hargs hI hbI x0 x1 x7 y2 y3 y4 z0 z8 HE0 HEW HEL HBE HBD hwE hsE hsD
    generalize (wE.iter (uS nd) 0) = wI at *
    obtain ⟨i8, hi8, hx80, hx81, hx82⟩ := info_parts info_strc
    go_loopw [5, 6] (fun v5 v6 wr => ∃ (p j : Nat) (done : List (List UInt8)) (l6 : Option Addr), p ≤ nd.length ∧ j + (nd.drop p).countP (fun x => x.toNat == 110) ≤ 3 ∧ done.length ≤ p ∧ v6 = .slice l6 (3 - j) (3 - j) ∧ (j < 3 → l6 = some ⟨B7 + 1 + 1, j, none⟩) ∧ TSt w B7 args n m c nd wd p done v5 wr ∧ Hid (toksL text qs nd [n, m, c] = done ++ toksL text qs (nd.drop p) (([n, m, c] : List Int).drop j))) (fun _ _ wr => nd.length - wr.iterPos (B7 + 3))
    case atStart => exact ⟨0, 0, [], _, Nat.zero_le _, by rw [List.drop_zero]; have := HCN.out; omega, by simp, rfl, fun _ => rfl, HT0.out, rfl⟩
    case round =>
      obtain ⟨p, j, done, l6, hp, hj, hdl, rfl, hl6, hT, HTK⟩ := hrel
      obtain ⟨a5, c5, rfl, hcap5, hnn5, -, -⟩ := owns_clipC hT.out
      have HT := Lib.hid hT
      have hit := hT.it
      have hbig := hT.big
      have hlow := hT.low
      have HL6 := Lib.hid hl6
      clear hT hnn5 hl6
      have hnl : nd.length ≤ 4 := by rw [HND.out]; exact (needs_t K hK17).2.1
      by_cases hlt : p < nd.length
      · obtain ⟨x, hx⟩ : ∃ x, nd[p]? = some x := ⟨nd[p], List.getElem?_eq_getElem hlt⟩
        have hdr : nd.drop p = x :: nd.drop (p + 1) := by
          rw [List.drop_eq_getElem_cons hlt]; congr 1
          exact Option.some.inj ((List.getElem?_eq_getElem hlt).symm.trans hx)
        have hxm : x ∈ needsOf K := by rw [← HND.out]; exact List.mem_of_getElem? hx
        have hxt := needs_tn K hK17 x hxm
        obtain ⟨hi1, hi2⟩ := uS_at nd p hlt
        have hxe : (nd[p]'hlt) = x := Option.some.inj ((List.getElem?_eq_getElem hlt).symm.trans hx)
        rw [hxe] at hi2
        have hnx : ∀ ty, (Instr.next (.pointer (some ⟨B7 + 3, 0, none⟩)) true ty).run Tryz.prog wr = .ok (.tuple #[.bool true, .int .i64 p, .int .i32 (x.toNat : Int)]) (wr.iterAt (B7 + 3) (uS nd) (p + 1)) := fun ty => by
          have := Lib.run_next_ascii_at (P := Tryz.prog) wr (B7 + 3) (uS nd) p ty hit hi1 (by rw [hi2]; omega)
          rw [this, hi2]
        have HN : Hid (TSt w B7 args n m c nd wd (p + 1) done (.slice a5 (done.length + 1) c5) (wr.iterAt (B7 + 3) (uS nd) (p + 1))) := HT.out.next
        have hip : wr.iterPos (B7 + 3) = p := by simp [World.iterPos, hit]
        rw [hdr] at HTK hj
        clear hit hi1 hi2 hxe hxm hx hdr HT
        generalize (wr.iterAt (B7 + 3) (uS nd) (p + 1)) = wi at *
        rcases hxt with h116 | h110 | h113
        · have hxi : (x.toNat : Int) = 116 := by omega
          rw [hxi] at hnx
          have HTK2 : Hid (toksL text qs nd [n, m, c] = (done ++ [quoteL text]) ++ toksL text qs (nd.drop (p + 1)) (([n, m, c] : List Int).drop j)) := by
            show _ = _
            rw [HTK.out, toksL, if_pos h116, List.append_assoc]; rfl
          have hj2 : j + (nd.drop (p + 1)).countP (fun x => x.toNat == 110) ≤ 3 := by rw [List.countP_cons] at hj; omega
          have x1 : wi.cell? ⟨w.heap.size, 1, none⟩ = some (.slice a text.length cap) := (cell_of_row _ _ 1 _ _ _ HN.out.arg).trans (by rw [HARG.out]; rfl)
          have HQT := Lib.hid (quote_any wi a cap text (by omega) (HR.out.kept HN.out.bel))
          generalize hqt : quoteL text = qt at *
          clear hj h116 hxi hqt HTK
          go_wp2_with (go_at_call 12; refine Hid.out ?_)
          refine Lib.hid ?_
          refine HQT.out.mono ?_
          rintro e w4 ⟨rfl, hb4⟩
          have HN4 := Lib.hid (HN.out.kept hb4)
          have hs4 := HN4.out.big
          clear hb4 HQT x1 hnx
          go_wp2_with (at_builtin; refine wpList_append_lies _ rfl _ _ _ rfl (B7 + 1) 9 i8 _ 1 16 Tryz.underlying44 hi8 hx80 hx81 hx82 rfl (by omega) (.slice a5 (done.length + 1) c5) (done.length + 1) _ rfl (HN4.out.out.alloc _) ⟨w4.heap.size, 0, none⟩ 1 1 [.string (uS qt)] rfl rfl (cell_one_new _ _ _) (by simp [Value.oneCell']) (by omega) (by simp only [maxLen]; omega) (by omega) (by simp; omega) (w4.heap.size + 1) (by simp) ?_; intro gg cv' wq hown' hgrow hat hlt'; have HOW' := Lib.hid hown'; have HGR := Lib.hid hgrow; have HAT := Lib.hid hat; clear hown' hgrow hat)
          have HF := Lib.hid (HN4.out.app (x := qt) HOW'.out HGR.out (by rcases HAT.out with h | h; exact .inl h.symm; exact .inr (by rw [h]; rfl)))
          have hit9 := HF.out.it
          clear HOW' HGR HAT
          go_roundw
          case rel => exact ⟨p + 1, j, done ++ [qt], l6, by omega, hj2, by rw [List.length_append, List.length_singleton]; omega, rfl, HL6.out, by have := HF.out; exact this, HTK2.out⟩
          case measure =>
            have e9 : wq.iterPos (B7 + 3) = p + 1 := by simp [World.iterPos, hit9]
            rw [e9, hip]; omega
        · have hxi : (x.toNat : Int) = 110 := by omega
          rw [hxi] at hnx
          have hj3 : j < 3 := by rw [List.countP_cons] at hj; simp only [h110, beq_self_eq_true, if_true] at hj; omega
          rcases Nat.lt_or_ge j 1 with h | h
          · obtain rfl : j = 0 := by omega
            obtain rfl := HL6.out (by omega)
            clear hj3 h
            have HTK2 : Hid (toksL text qs nd [n, m, c] = (done ++ [Lib.itoa n]) ++ toksL text qs (nd.drop (p + 1)) (([n, m, c] : List Int).drop 1)) := by
              show _ = _
              rw [HTK.out, toksL, if_neg (by omega), if_pos h110, List.append_assoc]; rfl
            have hj2 : 1 + (nd.drop (p + 1)).countP (fun x => x.toNat == 110) ≤ 3 := by rw [List.countP_cons] at hj; simp only [h110, beq_self_eq_true, if_true] at hj; omega
            have d0 : wi.cell? ⟨B7 + 1 + 1, 0, none⟩ = some (.int .i64 n) := cell_of_row _ (B7 + 2) 0 _ _ _ HN.out.ls
            have HIT : Hid (∀ W : World, Below w.heap.size w W → Calls Tryz.prog 13 #[.int .i64 n] W fun e w' => e = .returned (.string (uS (Lib.itoa n))) ∧ Below W.heap.size W w') := fun W hb => by
              refine (Tryz.strconv_Itoa n hn.1 hn.2 W (HE.out.kept hb).tab).mono ?_
              rintro e w' ⟨rfl, k, os, rfl⟩
              exact ⟨rfl, Lib.below_grow _ _ (Nat.le_refl _) _ _⟩
            have HBI : Hid (Below w.heap.size w wi.drew) := HN.out.bel.drew
            have HND2 : Hid (TSt w B7 args n m c nd wd (p + 1) done (.slice a5 (done.length + 1) c5) wi.drew) := HN.out.kept ((Below.refl _ wi).drew)
            generalize hqt : Lib.itoa n = qt at *
            clear hj h110 hxi hqt HTK
            go_wp2_with fail
            go_region_law
              (first
                | ((refine step_append_lies _ (by rfl) _ _ _ (by rfl) (B7 + 1) 9 i8 _ 1 16 Tryz.underlying44 hi8 hx80 hx81 hx82 rfl (by omega) (.slice a5 (done.length + 1) c5) (done.length + 1) _ (by rfl) (HN4.out.out.alloc _) ⟨w4.heap.size, 0, none⟩ 1 1 [.string (uS qt)] (by rfl) (by rfl) (World.news_of_block (cs := #[.string (uS qt)]) (t := 9) (fr := (0, 0)) (heap_alloc_new w4 _)) (by simp [Value.oneCell']) (by omega) (by simp only [maxLen]; omega) (by omega) (by have := HN4.out.big; simp; omega) (w4.heap.size + 1) (by simp) ?_; intro gg cv' wq hown' hgrow hat hlt'; have HOW' := Lib.hid hown'; have HGR := Lib.hid hgrow; have HAT := Lib.hid hat; clear hown' hgrow hat))
                | ((go_simp; go_at_call 13; refine (HIT.out _ HBI.out).mono ?_; rintro e w4 ⟨rfl, hb4⟩; have HN4 := Lib.hid (HND2.out.kept hb4); clear hb4)))
            all_goals
              have HF := Lib.hid (HN4.out.app (x := qt) HOW'.out HGR.out (by rcases HAT.out with h | h; exact .inl h.symm; exact .inr (by rw [h]; rfl)))
              have hit9 := HF.out.it
              clear HOW' HGR HAT d0 hnx
              change Exit.inBlock 2 (Exit.inBlock 1 _) Exit.normal (Act.put (Act.put _ (some 5) _) (some 6) _) _
              go_frame
              go_wp2
              go_roundw
              case rel => exact ⟨p + 1, 1, done ++ [qt], _, by omega, hj2, by rw [List.length_append, List.length_singleton]; omega, rfl, fun h => (by first | rfl | omega), by have := HF.out; exact this, HTK2.out⟩
              case measure =>
                have e9 : wq.iterPos (B7 + 3) = p + 1 := by simp [World.iterPos, hit9]
                rw [e9, hip]; omega
          · rcases Nat.lt_or_ge j 2 with h' | h'
            · obtain rfl : j = 1 := by omega
              obtain rfl := HL6.out (by omega)
              clear hj3 h h'
              have HTK2 : Hid (toksL text qs nd [n, m, c] = (done ++ [Lib.itoa m]) ++ toksL text qs (nd.drop (p + 1)) (([n, m, c] : List Int).drop 2)) := by
                show _ = _
                rw [HTK.out, toksL, if_neg (by omega), if_pos h110, List.append_assoc]; rfl
              have hj2 : 2 + (nd.drop (p + 1)).countP (fun x => x.toNat == 110) ≤ 3 := by rw [List.countP_cons] at hj; simp only [h110, beq_self_eq_true, if_true] at hj; omega
              have d0 : wi.cell? ⟨B7 + 1 + 1, 1, none⟩ = some (.int .i64 m) := cell_of_row _ (B7 + 2) 1 _ _ _ HN.out.ls
              have HIT : Hid (∀ W : World, Below w.heap.size w W → Calls Tryz.prog 13 #[.int .i64 m] W fun e w' => e = .returned (.string (uS (Lib.itoa m))) ∧ Below W.heap.size W w') := fun W hb => by
                refine (Tryz.strconv_Itoa m hm.1 hm.2 W (HE.out.kept hb).tab).mono ?_
                rintro e w' ⟨rfl, k, os, rfl⟩
                exact ⟨rfl, Lib.below_grow _ _ (Nat.le_refl _) _ _⟩
              have HBI : Hid (Below w.heap.size w wi.drew) := HN.out.bel.drew
              have HND2 : Hid (TSt w B7 args n m c nd wd (p + 1) done (.slice a5 (done.length + 1) c5) wi.drew) := HN.out.kept ((Below.refl _ wi).drew)
              generalize hqt : Lib.itoa m = qt at *
              clear hj h110 hxi hqt HTK
              go_wp2_with fail
              go_region_law
                (first
                  | ((refine step_append_lies _ (by rfl) _ _ _ (by rfl) (B7 + 1) 9 i8 _ 1 16 Tryz.underlying44 hi8 hx80 hx81 hx82 rfl (by omega) (.slice a5 (done.length + 1) c5) (done.length + 1) _ (by rfl) (HN4.out.out.alloc _) ⟨w4.heap.size, 0, none⟩ 1 1 [.string (uS qt)] (by rfl) (by rfl) (World.news_of_block (cs := #[.string (uS qt)]) (t := 9) (fr := (0, 0)) (heap_alloc_new w4 _)) (by simp [Value.oneCell']) (by omega) (by simp only [maxLen]; omega) (by omega) (by have := HN4.out.big; simp; omega) (w4.heap.size + 1) (by simp) ?_; intro gg cv' wq hown' hgrow hat hlt'; have HOW' := Lib.hid hown'; have HGR := Lib.hid hgrow; have HAT := Lib.hid hat; clear hown' hgrow hat))
                  | ((go_simp; go_at_call 13; refine (HIT.out _ HBI.out).mono ?_; rintro e w4 ⟨rfl, hb4⟩; have HN4 := Lib.hid (HND2.out.kept hb4); clear hb4)))
              all_goals
                have HF := Lib.hid (HN4.out.app (x := qt) HOW'.out HGR.out (by rcases HAT.out with h | h; exact .inl h.symm; exact .inr (by rw [h]; rfl)))
                have hit9 := HF.out.it
                clear HOW' HGR HAT d0 hnx
                change Exit.inBlock 2 (Exit.inBlock 1 _) Exit.normal (Act.put (Act.put _ (some 5) _) (some 6) _) _
                go_frame
                go_wp2
                go_roundw
                case rel => exact ⟨p + 1, 2, done ++ [qt], _, by omega, hj2, by rw [List.length_append, List.length_singleton]; omega, rfl, fun h => (by first | rfl | omega), by have := HF.out; exact this, HTK2.out⟩
                case measure =>
                  have e9 : wq.iterPos (B7 + 3) = p + 1 := by simp [World.iterPos, hit9]
                  rw [e9, hip]; omega
            · obtain rfl : j = 2 := by omega
              obtain rfl := HL6.out (by omega)
              clear hj3 h h'
              have HTK2 : Hid (toksL text qs nd [n, m, c] = (done ++ [Lib.itoa c]) ++ toksL text qs (nd.drop (p + 1)) (([n, m, c] : List Int).drop 3)) := by
                show _ = _
                rw [HTK.out, toksL, if_neg (by omega), if_pos h110, List.append_assoc]; rfl
              have hj2 : 3 + (nd.drop (p + 1)).countP (fun x => x.toNat == 110) ≤ 3 := by rw [List.countP_cons] at hj; simp only [h110, beq_self_eq_true, if_true] at hj; omega
              have d0 : wi.cell? ⟨B7 + 1 + 1, 2, none⟩ = some (.int .i64 c) := cell_of_row _ (B7 + 2) 2 _ _ _ HN.out.ls
              have HIT : Hid (∀ W : World, Below w.heap.size w W → Calls Tryz.prog 13 #[.int .i64 c] W fun e w' => e = .returned (.string (uS (Lib.itoa c))) ∧ Below W.heap.size W w') := fun W hb => by
                refine (Tryz.strconv_Itoa c hc.1 hc.2 W (HE.out.kept hb).tab).mono ?_
                rintro e w' ⟨rfl, k, os, rfl⟩
                exact ⟨rfl, Lib.below_grow _ _ (Nat.le_refl _) _ _⟩
              have HBI : Hid (Below w.heap.size w wi.drew) := HN.out.bel.drew
              have HND2 : Hid (TSt w B7 args n m c nd wd (p + 1) done (.slice a5 (done.length + 1) c5) wi.drew) := HN.out.kept ((Below.refl _ wi).drew)
              generalize hqt : Lib.itoa c = qt at *
              clear hj h110 hxi hqt HTK
              go_wp2_with fail
              go_region_law
                (first
                  | ((refine step_append_lies _ (by rfl) _ _ _ (by rfl) (B7 + 1) 9 i8 _ 1 16 Tryz.underlying44 hi8 hx80 hx81 hx82 rfl (by omega) (.slice a5 (done.length + 1) c5) (done.length + 1) _ (by rfl) (HN4.out.out.alloc _) ⟨w4.heap.size, 0, none⟩ 1 1 [.string (uS qt)] (by rfl) (by rfl) (World.news_of_block (cs := #[.string (uS qt)]) (t := 9) (fr := (0, 0)) (heap_alloc_new w4 _)) (by simp [Value.oneCell']) (by omega) (by simp only [maxLen]; omega) (by omega) (by have := HN4.out.big; simp; omega) (w4.heap.size + 1) (by simp) ?_; intro gg cv' wq hown' hgrow hat hlt'; have HOW' := Lib.hid hown'; have HGR := Lib.hid hgrow; have HAT := Lib.hid hat; clear hown' hgrow hat))
                  | ((go_simp; go_at_call 13; refine (HIT.out _ HBI.out).mono ?_; rintro e w4 ⟨rfl, hb4⟩; have HN4 := Lib.hid (HND2.out.kept hb4); clear hb4)))
              all_goals
                have HF := Lib.hid (HN4.out.app (x := qt) HOW'.out HGR.out (by rcases HAT.out with h | h; exact .inl h.symm; exact .inr (by rw [h]; rfl)))
                have hit9 := HF.out.it
                clear HOW' HGR HAT d0 hnx
                change Exit.inBlock 2 (Exit.inBlock 1 _) Exit.normal (Act.put (Act.put _ (some 5) _) (some 6) _) _
                go_frame
                go_wp2
                go_roundw
                case rel => exact ⟨p + 1, 3, done ++ [qt], _, by omega, hj2, by rw [List.length_append, List.length_singleton]; omega, rfl, fun h => (by first | rfl | omega), by have := HF.out; exact this, HTK2.out⟩
                case measure =>
                  have e9 : wq.iterPos (B7 + 3) = p + 1 := by simp [World.iterPos, hit9]
                  rw [e9, hip]; omega
        · have hxi : (x.toNat : Int) = 113 := by omega
          rw [hxi] at hnx
          have HTK2 : Hid (toksL text qs nd [n, m, c] = (done ++ [qs]) ++ toksL text qs (nd.drop (p + 1)) (([n, m, c] : List Int).drop j)) := by
            show _ = _
            rw [HTK.out, toksL, if_neg (by omega), if_neg (by omega), List.append_assoc]; rfl
          have hj2 : j + (nd.drop (p + 1)).countP (fun x => x.toNat == 110) ≤ 3 := by rw [List.countP_cons] at hj; omega
          have x5 : wi.cell? ⟨w.heap.size, 5, none⟩ = some (.int .i64 e0) := (cell_of_row _ _ 5 _ _ _ HN.out.arg).trans (by rw [HARG.out]; rfl)
          have x6 : wi.cell? ⟨w.heap.size, 6, none⟩ = some (.slice e1 n1 k1) := (cell_of_row _ _ 6 _ _ _ HN.out.arg).trans (by rw [HARG.out]; rfl)
          have x7 : wi.cell? ⟨w.heap.size, 7, none⟩ = some (.slice e2 n2 k2) := (cell_of_row _ _ 7 _ _ _ HN.out.arg).trans (by rw [HARG.out]; rfl)
          have hqx := qtext_any wi G q _ _ _ (HQA.out.kept HN.out.bel)
          rw [HQS.out] at hqx
          have HQX := Lib.hid hqx
          generalize (if okQ q then (0 : Int) else 1) = E at *
          clear hj h113 hxi HTK hqx
          go_wp2_with (go_at_call 14; refine Hid.out ?_)
          refine Lib.hid ?_
          refine HQX.out.mono ?_
          rintro e w4 ⟨rfl, hb4⟩
          have HN4 := Lib.hid (HN.out.kept hb4)
          have hs4 := HN4.out.big
          clear hb4 HQX x5 x6 x7 hnx
          go_wp2_with (at_builtin; refine wpList_append_lies _ rfl _ _ _ rfl (B7 + 1) 9 i8 _ 1 16 Tryz.underlying44 hi8 hx80 hx81 hx82 rfl (by omega) (.slice a5 (done.length + 1) c5) (done.length + 1) _ rfl (HN4.out.out.alloc _) ⟨w4.heap.size, 0, none⟩ 1 1 [.string (uS qs)] rfl rfl (cell_one_new _ _ _) (by simp [Value.oneCell']) (by omega) (by simp only [maxLen]; omega) (by omega) (by simp; omega) (w4.heap.size + 1) (by simp) ?_; intro gg cv' wq hown' hgrow hat hlt'; have HOW' := Lib.hid hown'; have HGR := Lib.hid hgrow; have HAT := Lib.hid hat; clear hown' hgrow hat)
          have HF := Lib.hid (HN4.out.app (x := qs) HOW'.out HGR.out (by rcases HAT.out with h | h; exact .inl h.symm; exact .inr (by rw [h]; rfl)))
          have hit9 := HF.out.it
          clear HOW' HGR HAT
          go_roundw
          case rel => exact ⟨p + 1, j, done ++ [qs], l6, by omega, hj2, by rw [List.length_append, List.length_singleton]; omega, rfl, HL6.out, by have := HF.out; exact this, HTK2.out⟩
          case measure =>
            have e9 : wq.iterPos (B7 + 3) = p + 1 := by simp [World.iterPos, hit9]
            rw [e9, hip]; omega
      · obtain rfl : p = nd.length := by omega
        have hnx : ∀ ty, (Instr.next (.pointer (some ⟨B7 + 3, 0, none⟩)) true ty).run Tryz.prog wr = .ok (.tuple #[.bool false]) wr := fun ty => Lib.run_next_end_at (P := Tryz.prog) wr (B7 + 3) (uS nd) nd.length ty hit (by rw [uS_size]; omega)
        have HD : Hid (toksL text qs nd [n, m, c] = done) := by
          show _ = _
          have := HTK.out
          rw [List.drop_length] at this
          rw [this]; simp [toksL]
        obtain ⟨a6, c6, hv6, hcap6, hrow6, -, hadr⟩ := Row.of_owns HT.out.out
        obtain ⟨rfl, rfl⟩ : a5 = a6 ∧ c5 = c6 := by injection hv6 with q1 q2 q3; exact ⟨q1, q3⟩
        have hline : Lib.join (wd :: done) [32] = lineL K n m c text qs := by unfold lineL; rw [← HD.out, HND.out, HWD.out]
        have hll := line_len K hK17 n m c hn hm hc text qs ht2 hqsl
        have HJ := Lib.hid (join_any wr a5 c5 (wd :: done) (by simp) (hadr (by omega)) hcap6 hrow6 (by rw [hline]; omega) (by simp only [List.length_cons]; omega))
        rw [hline] at HJ
        have HPA := Lib.hid (fun (W : World) (hW : Below w.heap.size w W) => parse_full W (HE.out.kept hW) (lineL K n m c text qs) (by omega))
        have HX : Hid (∀ W e, Below w.heap.size w W → ((¬ (∃ st, parseR (lineL K n m c text qs) = some st ∧ isR (K : Int) n m c text q st) ∧ e = .returned (.tuple #[.string ⟨#[]⟩, .int .i64 1])) ∨ ((∃ st, parseR (lineL K n m c text qs) = some st ∧ isR (K : Int) n m c text q st) ∧ e = .returned (.tuple #[.string (uS (lineL K n m c text qs)), .int .i64 0]))) → TextPost w (K : Int) n m c text q e W) := fun W e hW h => by
          unfold TextPost TextR
          rw [HQS.out, Int.toNat_natCast]
          refine ⟨hW, h.imp (fun h => ⟨fun h2 => h.1 h2.2.2.2, h.2⟩) (fun h => ⟨⟨hk1, hk2, ht2, h.1⟩, h.2⟩)⟩
        generalize hli : lineL K n m c text qs = li at *
        clear hit hline hll hv6 hrow6 hadr hj hdl hli HTK HL6
        simp only [List.length_cons] at HJ
        go_wp2_with (go_at_call 15; refine Hid.out ?_)
        refine Lib.hid ?_
        refine HJ.out.mono ?_
        rintro e w4 ⟨rfl, hb4⟩
        have HT4 := Lib.hid (HT.out.kept hb4)
        clear hb4 HT HJ hnx
        go_wp2_with (go_at_call 8; refine Hid.out ?_)
        refine Lib.hid ?_
        refine (HPA.out w4 HT4.out.bel).mono ?_
        rintro e w5 ⟨hb5, hcase⟩
        have HT5 := Lib.hid (HT4.out.kept hb5)
        clear HT4 HPA
        rcases hcase with ⟨hp, rfl⟩ | ⟨st, v, u0, u1, u2, hp, rfl, ⟨av, rfl, hav, -⟩, hqv⟩
        · have HN : Hid (∀ W, Below w.heap.size w W → TextPost w (K : Int) n m c text q (.returned (.tuple #[.string ⟨#[]⟩, .int .i64 1])) W) := fun W hW => HX.out W _ hW (.inl ⟨fun ⟨st, h, _⟩ => by rw [hp] at h; (cases h), rfl⟩)
          obtain ⟨E, hE, hE0⟩ : ∃ E : Int, (if 9000 < li.length then (2 : Int) else 3) = E ∧ (E != 0) = true := by
            by_cases h : 9000 < li.length
            · exact ⟨2, if_pos h, rfl⟩
            · exact ⟨3, if_neg h, rfl⟩
          rw [hE]
          clear hp HX hb5 hE
          unfold zeroC
          go_wp2
          go_ret2
          exact HN.out _ ((HT5.out.bel).alloc HT5.out.bel.size _)
        · have HX3 : Hid (∀ W e, Below w.heap.size w W → ((¬ isR (K : Int) n m c text q st ∧ e = .returned (.tuple #[.string ⟨#[]⟩, .int .i64 1])) ∨ (isR (K : Int) n m c text q st ∧ e = .returned (.tuple #[.string (uS li), .int .i64 0]))) → TextPost w (K : Int) n m c text q e W) := fun W e hW h => HX.out W e hW (h.imp (fun h => ⟨fun ⟨st', h1, h2⟩ => by rw [hp] at h1; obtain rfl := Option.some.inj h1; exact h.1 h2, h.2⟩) (fun h => ⟨⟨st, hp, h.1⟩, h.2⟩))
          have hst := parseR_text hp
          obtain ⟨y1, y2, y3, y4, y5, y6, rfl, rfl, rfl⟩ := hqv.form
          have HQV := Lib.hid hqv
          clear hqv
          generalize st.q.k = y0 at *
          unfold cmdV cmdA
          clear hp HX hb5
          have hb6 : Below w5.heap.size w5 (w5.alloc (.cells #[.int .i64 (st.kind : Int), .slice av st.text.length st.text.length, .int .i64 (st.n : Int), .int .i64 (st.m : Int), .int .i64 (st.k : Int), .int .i64 y0, .slice y1 y2 y3, .slice y4 y5 y6] 27)) := (Below.refl _ _).alloc (Nat.le_refl _) _
          have HT6 := Lib.hid (HT5.out.kept hb6)
          have hg := HT6.out.arg
          rw [HARG.out] at hg
          have z0 := cell_of_row _ _ 0 _ _ _ hg
          have z1 := cell_of_row _ _ 1 _ _ _ hg
          have z2 := cell_of_row _ _ 2 _ _ _ hg
          have z3 := cell_of_row _ _ 3 _ _ _ hg
          have z4 := cell_of_row _ _ 4 _ _ _ hg
          have z5 := cell_of_row _ _ 5 _ _ _ hg
          have z6 := cell_of_row _ _ 6 _ _ _ hg
          have z7 := cell_of_row _ _ 7 _ _ _ hg
          have HSA := Lib.hid (same_any (w5.alloc (.cells #[.int .i64 (st.kind : Int), .slice av st.text.length st.text.length, .int .i64 (st.n : Int), .int .i64 (st.m : Int), .int .i64 (st.k : Int), .int .i64 y0, .slice y1 y2 y3, .slice y4 y5 y6] 27)) (K : Int) n m c (st.kind : Int) (st.n : Int) (st.m : Int) (st.k : Int) a av cap st.text.length text st.text (by omega) (by omega) (HR.out.kept HT6.out.bel) (hav.kept hb6) G _ q st.q _ _ _ _ _ _ (HQA.out.kept HT6.out.bel) (HQV.out.kept hb6))
          have HB6 := Lib.hid HT6.out.bel
          unfold cmdI at HSA
          clear hg hb6 hav HT5 HT6 HQV
          go_wp2_with (go_at_call 16; refine HSA.out.mono ?_; rintro e w7 ⟨bs, rfl, hbs, hb7⟩; have HB7 := Lib.hid (below_next HB6.out hb7 HB6.out.size); have HBS := Lib.hid hbs; clear hb7 hbs; refine Hid.out ?_)
          refine Lib.hid ?_
          cases bs with
          | true =>
            have HN := Lib.hid (HX3.out w7 _ HB7.out (.inr ⟨HBS.out.1 rfl, rfl⟩))
            clear HX3 HBS HSA
            go_wp2
            go_ret2
            exact HN.out
          | false =>
            have HN := Lib.hid (HX3.out w7 _ HB7.out (.inl ⟨fun h => Bool.noConfusion (HBS.out.2 h), rfl⟩))
            clear HX3 HBS HSA
            go_wp2
            go_ret2
            exact HN.out
end Go.Proofs.YtdcobmoeligdkaaGreatDoor
