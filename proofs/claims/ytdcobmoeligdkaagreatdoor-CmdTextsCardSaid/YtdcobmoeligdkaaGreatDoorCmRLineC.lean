/-
  concordanceref23.CmdLine: a command's line as the document writes it; at any command.
-/
import Derived.Test.YtdcobmoeligdkaaGreatDoorCmRLine
import Derived.Test.YtdcobmoeligdkaaGreatDoorCmRCmd
import Derived.Test.YtdcobmoeligdkaaGreatDoorCmRCnt
import Derived.Test.YtdcobmoeligdkaaGreatDoorCmDigits
namespace Go.Proofs.YtdcobmoeligdkaaGreatDoor
open Go.RowKit Go.Shelf

/-- the pieces behind the word, as the document writes them -/
def rl (text : List UInt8) (q : QT) : List UInt8 → List Int → Option (List UInt8)
  | [], _ => some []
  | c :: cs, l =>
    if c.toNat = 116 then (rl text q cs l).map fun t => 32 :: (quoteL text ++ t)
    else if c.toNat = 110 then (if l.headD 0 < 0 then none else (rl text q cs l.tail).map fun t => 32 :: (Lib.decDigits (l.headD 0).toNat ++ t))
    else if okQ q = true then (rl text q cs l).map fun t => 32 :: (toldF 8 q ++ t) else none
theorem rl_toks (text : List UInt8) (q : QT) : ∀ (cs : List UInt8) (l : List Int) (t : List UInt8), rl text q cs l = some t → ((toksL text (qtextL q) cs l).map ([32] ++ ·)).flatten = t
  | [], l, t, h => by rw [rl] at h; cases h; rfl
  | c :: cs, l, t, h => by
    rw [rl] at h
    unfold toksL
    by_cases h1 : c.toNat = 116
    · rw [if_pos h1] at h ⊢
      obtain ⟨t', h2, rfl⟩ := Option.map_eq_some_iff.1 h
      rw [List.map_cons, List.flatten_cons, rl_toks text q cs l t' h2]; simp
    · rw [if_neg h1] at h ⊢
      by_cases h2 : c.toNat = 110
      · rw [if_pos h2] at h ⊢
        by_cases h3 : l.headD 0 < 0
        · rw [if_pos h3] at h; cases h
        · rw [if_neg h3] at h
          obtain ⟨t', h4, rfl⟩ := Option.map_eq_some_iff.1 h
          have hi : Lib.itoa (l.headD 0) = Lib.decDigits (l.headD 0).toNat := by
            have := itoa_nat (l.headD 0).toNat
            rwa [Int.toNat_of_nonneg (by omega)] at this
          rw [List.map_cons, List.flatten_cons, rl_toks text q cs l.tail t' h4, hi]; simp
      · rw [if_neg h2] at h ⊢
        by_cases h3 : okQ q = true
        · rw [if_pos h3] at h
          obtain ⟨t', h4, rfl⟩ := Option.map_eq_some_iff.1 h
          have hq : qtextL q = toldF 8 q := by unfold qtextL; rw [if_pos h3]
          rw [List.map_cons, List.flatten_cons, rl_toks text q cs l t' h4, hq]; simp
        · rw [if_neg h3] at h; cases h
theorem rl_some (text : List UInt8) (q : QT) : ∀ (cs : List UInt8) (l : List Int), (∀ x ∈ l, 0 ≤ x) → ((∃ c ∈ cs, c.toNat ≠ 116 ∧ c.toNat ≠ 110) → okQ q = true) → ∃ t, rl text q cs l = some t
  | [], l, _, _ => ⟨[], rfl⟩
  | c :: cs, l, hl, hq => by
    have hq' : (∃ c ∈ cs, c.toNat ≠ 116 ∧ c.toNat ≠ 110) → okQ q = true := fun ⟨x, h1, h2⟩ => hq ⟨x, by simp [h1], h2⟩
    rw [rl]
    by_cases h1 : c.toNat = 116
    · obtain ⟨t, ht⟩ := rl_some text q cs l hl hq'
      rw [if_pos h1, ht]; exact ⟨_, rfl⟩
    · rw [if_neg h1]
      by_cases h2 : c.toNat = 110
      · obtain ⟨t, ht⟩ := rl_some text q cs l.tail (fun x hx => hl x (List.mem_of_mem_tail hx)) hq'
        have h0 : ¬ l.headD 0 < 0 := by
          cases l with
          | nil => simp
          | cons a r => have := hl a (by simp); show ¬ a < 0; omega
        rw [if_pos h2, if_neg h0, ht]; exact ⟨_, rfl⟩
      · obtain ⟨t, ht⟩ := rl_some text q cs l hl hq'
        rw [if_neg h2, if_pos (hq ⟨c, by simp, h1, h2⟩), ht]; exact ⟨_, rfl⟩
/-- a command's line as the document writes it; empty: none -/
def rline (k n m c : Int) (text : List UInt8) (q : QT) : List UInt8 :=
  if 1 ≤ k ∧ k ≤ 17 then match rl text q (needsOf k.toNat) [n, m, c] with
    | some t => wordK k.toNat ++ t
    | none => []
  else []
theorem rline_line {k n m c : Int} {text : List UInt8} {q : QT} (h : rline k n m c text q ≠ []) : (1 ≤ k ∧ k ≤ 17) ∧ rline k n m c text q = lineL k.toNat n m c text (qtextL q) := by
  unfold rline at h ⊢
  by_cases hk : 1 ≤ k ∧ k ≤ 17
  · rw [if_pos hk] at h ⊢
    rcases hr : rl text q (needsOf k.toNat) [n, m, c] with _ | t
    · rw [hr] at h; exact absurd rfl h
    · refine ⟨hk, ?_⟩
      simp only
      unfold lineL
      rw [Lib.join_cons]
      show _ = _ ++ (((toksL _ _ _ _).map ([32] ++ ·)).flatten)
      rw [rl_toks text q _ _ t hr]; rfl
  · rw [if_neg hk] at h; exact absurd rfl h
theorem qpS_ok {s : List UInt8} {q : QT} (h : qpS s = some q) : okQ q = true := by
  unfold qpS qparseL at h
  split at h
  · cases h
  · split at h
    · split at h
      · rename_i ho
        cases h; exact ho
      · cases h
    · cases h
theorem rline_is {k n m c : Int} {text : List UInt8} {q : QT} (h : TextR k n m c text q) : rline k n m c text q = lineL k.toNat n m c text (qtextL q) := by
  obtain ⟨h1, h2, h3, st, hp, hk, ht, hn, hm, hc, hq⟩ := h
  have hokq : (∃ c ∈ needsOf k.toNat, c.toNat ≠ 116 ∧ c.toNat ≠ 110) → okQ q = true := by
    rintro ⟨x, hx, hx1, hx2⟩
    have hK1 : 1 ≤ k.toNat := by omega
    have hK2 : k.toNat ≤ 17 := by omega
    have hnd : needsOf k.toNat = [113] := by
      rcases words_need k.toNat hK1 hK2 with e | e | e | e | e | e | e <;> rw [e] at hx <;> simp at hx
      · subst hx; exact absurd rfl hx1
      · subst hx; exact absurd rfl hx2
      · rcases hx with rfl | rfl
        · exact absurd rfl hx1
        · exact absurd rfl hx2
      · exact e
      · rcases hx with rfl | rfl
        · exact absurd rfl hx1
        · exact absurd rfl hx2
      · subst hx; exact absurd rfl hx2
    have hline : lineL k.toNat n m c text (qtextL q) = wordK k.toNat ++ 32 :: qtextL q := by
      unfold lineL
      rw [Lib.join_cons, hnd]
      show _ ++ (((toksL text (qtextL q) [113] [n, m, c]).map ([32] ++ ·)).flatten) = _
      simp [toksL, wordK]
    rw [hline] at hp
    unfold parseR at hp
    split at hp
    · cases hp
    · rw [parse_word k.toNat hK1 hK2 _ (.inr ⟨_, rfl⟩), hnd, run_q] at hp
      obtain ⟨q', hq', hr⟩ := Option.bind_eq_some_iff.1 hp
      rw [run_nil] at hr
      have := Option.some.inj hr
      rw [← this] at hq
      have hqq : q = q' := hq
      rw [hqq]; exact qpS_ok hq'
  obtain ⟨t, hrt⟩ := rl_some text q (needsOf k.toNat) [n, m, c] (by
    intro x hx
    simp only [List.mem_cons, List.not_mem_nil, or_false] at hx
    rcases hx with rfl | rfl | rfl <;> omega) hokq
  unfold rline
  rw [if_pos ⟨h1, h2⟩, hrt]
  simp only
  unfold lineL
  rw [Lib.join_cons]
  show _ = _ ++ (((toksL _ _ _ _).map ([32] ++ ·)).flatten)
  rw [rl_toks text q _ _ t hrt]; rfl
theorem rl_len (text : List UInt8) (q : QT) (ht : text.length ≤ 2500) : ∀ (cs : List UInt8) (l : List Int) (t : List UInt8), (∀ x ∈ l, I64 x) → rl text q cs l = some t → t.length ≤ 19202 * cs.length
  | [], l, t, _, h => by rw [rl] at h; cases h; simp
  | c :: cs, l, t, hl, h => by
    rw [rl] at h
    rw [List.length_cons]
    by_cases h1 : c.toNat = 116
    · rw [if_pos h1] at h
      obtain ⟨t', h2, rfl⟩ := Option.map_eq_some_iff.1 h
      have := rl_len text q ht cs l t' hl h2
      have := quoteL_len text
      simp only [List.length_cons, List.length_append]; omega
    · rw [if_neg h1] at h
      by_cases h2 : c.toNat = 110
      · rw [if_pos h2] at h
        by_cases h3 : l.headD 0 < 0
        · rw [if_pos h3] at h; cases h
        · rw [if_neg h3] at h
          obtain ⟨t', h4, rfl⟩ := Option.map_eq_some_iff.1 h
          have := rl_len text q ht cs l.tail t' (fun x hx => hl x (List.mem_of_mem_tail hx)) h4
          have h0 : I64 (l.headD 0) := by
            cases l with
            | nil => exact ⟨by decide, by decide⟩
            | cons a r => exact hl a (by simp)
          have hd : (Lib.decDigits (l.headD 0).toNat).length ≤ 20 := by
            rw [dec_len]
            exact Lib.nDigits_le20 _ (by have := h0.2; omega)
          simp only [List.length_cons, List.length_append]; omega
      · rw [if_neg h2] at h
        by_cases h3 : okQ q = true
        · rw [if_pos h3] at h
          obtain ⟨t', h4, rfl⟩ := Option.map_eq_some_iff.1 h
          have := rl_len text q ht cs l t' hl h4
          have hq := qtextL_len q
          unfold qtextL at hq
          rw [if_pos h3] at hq
          simp only [List.length_cons, List.length_append]; omega
        · rw [if_neg h3] at h; cases h
theorem rline_len (k n m c : Int) (text : List UInt8) (q : QT) (ht : text.length ≤ 2500) (hn : I64 n) (hm : I64 m) (hc : I64 c) : (rline k n m c text q).length ≤ 80000 := by
  unfold rline
  by_cases hk : 1 ≤ k ∧ k ≤ 17
  · rw [if_pos hk]
    rcases hr : rl text q (needsOf k.toNat) [n, m, c] with _ | t
    · simp
    · have h1 := rl_len text q ht _ _ t (by
        intro x hx
        simp only [List.mem_cons, List.not_mem_nil, or_false] at hx
        rcases hx with rfl | rfl | rfl <;> assumption) hr
      have h2 := (need_ok k.toNat (by omega)).2
      have h3 : (wordK k.toNat).length ≤ 6 := word_len k.toNat (by omega)
      simp only [List.length_append]
      omega
  · rw [if_neg hk]; simp
end Go.Proofs.YtdcobmoeligdkaaGreatDoor
namespace Go.Proofs.YtdcobmoeligdkaaGreatDoor
open Go.RowKit Go.Shelf

/-- the command's cells, the rows, the numbers -/
structure LSt (w : World) (args : Array Value) (N M C : Int) (wr : World) : Prop where
  box : wr.heap[w.heap.size]? = some (.cells args 27 (0, 0))
  nm : wr.heap[w.heap.size + 1]? = some (.cells nmA 9 (0, 0))
  fm : wr.heap[w.heap.size + 2]? = some (.cells fmA 9 (0, 0))
  ns : wr.heap[w.heap.size + 3]? = some (.cells #[.int .i64 N, .int .i64 M, .int .i64 C] 3 (0, 0))
  bel : Below w.heap.size w wr
theorem LSt.kept {w wr W : World} {args : Array Value} {N M C : Int} (h : LSt w args N M C wr) (hb : Below wr.heap.size wr W) : LSt w args N M C W :=
  ⟨(hb.block _ (Array.getElem?_eq_some_iff.1 h.box).1).trans h.box, (hb.block _ (Array.getElem?_eq_some_iff.1 h.nm).1).trans h.nm, (hb.block _ (Array.getElem?_eq_some_iff.1 h.fm).1).trans h.fm, (hb.block _ (Array.getElem?_eq_some_iff.1 h.ns).1).trans h.ns, below_next h.bel hb h.bel.size⟩
set_option maxRecDepth 100000 in
set_option maxHeartbeats 4000000 in
theorem cmdline_any (w : World) (K N M C : Int) (hK : I64 K) (hN : I64 N) (hM : I64 M) (hC : I64 C) (a : Option Addr) (cap : Nat) (text : List UInt8) (ht : text.length ≤ 2500) (hr : Row w a text.length (bV text)) (G : Nat → Prop) (q : QT) (v0 v1 v2 : Value) (hq : QAt w G q v0 v1 v2) :
    Calls Tryz.prog 17 #[cmdI K N M C (.slice a text.length cap) v0 v1 v2] w fun e w' => e = .returned (.string (uS (rline K N M C text q))) ∧ Below w.heap.size w w' := by
  have HR := Lib.hid hr
  have HQA := Lib.hid hq
  obtain ⟨e1, n1, k1, e2, n2, k2, rfl, rfl, rfl⟩ := hq.form
  clear hq hr
  generalize q.k = e0 at *
  have hs0 := World.size_alloc w (.cells #[.int .i64 K, .slice a text.length cap, .int .i64 N, .int .i64 M, .int .i64 C, .int .i64 e0, .slice e1 n1 k1, .slice e2 n2 k2] 27)
  have hb0 : Below w.heap.size w (w.alloc (.cells #[.int .i64 K, .slice a text.length cap, .int .i64 N, .int .i64 M, .int .i64 C, .int .i64 e0, .slice e1 n1 k1, .slice e2 n2 k2] 27)) := (Below.refl _ _).alloc (Nat.le_refl _) _
  have hx0 := World.alloc_heap_new w (.cells #[.int .i64 K, .slice a text.length cap, .int .i64 N, .int .i64 M, .int .i64 C, .int .i64 e0, .slice e1 n1 k1, .slice e2 n2 k2] 27)
  have hrw := rows_any (w.alloc (.cells #[.int .i64 K, .slice a text.length cap, .int .i64 N, .int .i64 M, .int .i64 C, .int .i64 e0, .slice e1 n1 k1, .slice e2 n2 k2] 27))
  rw [hs0] at hrw
  have HRW := Lib.hid hrw
  have HX0 := Lib.hid hx0
  have HB0 := Lib.hid hb0
  clear hrw hx0 hb0
  unfold cmdI
  go_enter Tryz.func17, Tryz.ntmps17
  go_wp2_with (go_at_call 35; refine Hid.out ?_)
  refine Lib.hid ?_
  generalize (w.alloc (.cells #[.int .i64 K, .slice a text.length cap, .int .i64 N, .int .i64 M, .int .i64 C, .int .i64 e0, .slice e1 n1 k1, .slice e2 n2 k2] 27)) = w0 at *
  refine HRW.out.mono ?_
  rintro e w1 ⟨rfl, hw1⟩
  have HN1 : Hid (w1.heap[w.heap.size + 1]? = some (.cells nmA 9 (0, 0))) := by
    rw [hw1]
    have := World.alloc_heap_new w0 (.cells nmA 9)
    rw [hs0] at this
    exact (Below.heap_alloc _ _ _ (by rw [World.size_alloc]; omega)).trans this
  have HF1 : Hid (w1.heap[w.heap.size + 2]? = some (.cells fmA 9 (0, 0))) := by
    rw [hw1]
    have := World.alloc_heap_new (w0.alloc (.cells nmA 9)) (.cells fmA 9)
    rw [World.size_alloc, hs0] at this
    exact this
  have hs1 : w1.heap.size = w.heap.size + 3 := by rw [hw1, World.size_alloc, World.size_alloc, hs0]
  have hx1 : w1.heap[w.heap.size]? = some (.cells #[.int .i64 K, .slice a text.length cap, .int .i64 N, .int .i64 M, .int .i64 C, .int .i64 e0, .slice e1 n1 k1, .slice e2 n2 k2] 27 (0, 0)) := by
    rw [hw1]
    exact (Below.heap_alloc _ _ _ (by rw [World.size_alloc]; omega)).trans ((Below.heap_alloc _ _ _ (by omega)).trans HX0.out)
  have HB1 : Hid (Below w.heap.size w w1) := by rw [hw1]; exact (HB0.out.alloc (by omega) _).alloc (by simp; omega) _
  have HX1 := Lib.hid hx1
  have z0 := cell_of_row _ _ 0 _ _ _ hx1
  have z2 := cell_of_row _ _ 2 _ _ _ hx1
  have z3 := cell_of_row _ _ 3 _ _ _ hx1
  have z4 := cell_of_row _ _ 4 _ _ _ hx1
  simp only [List.getElem?_toArray, List.getElem?_cons_succ, List.getElem?_cons_zero] at z0 z2 z3 z4
  clear hw1 hx1 hs0 HX0 HB0 HRW
  by_cases hbad : K < 1 ∨ 17 < K
  · have HE : Hid (rline K N M C text q = []) := by show _ = _; unfold rline; rw [if_neg (by omega)]
    by_cases hk1 : K < 1
    · have hd1 : decide (K < 1) = true := decide_eq_true hk1
      clear hbad
      go_wp2
      go_ret
      exact ⟨by rw [HE.out]; rfl, HB1.out⟩
    · have hd1 : decide (K < 1) = false := decide_eq_false hk1
      have hk2 : 17 < K := by omega
      have hd2 : decide (17 < K) = true := decide_eq_true hk2
      clear hbad
      go_wp2
      go_ret
      exact ⟨by rw [HE.out]; rfl, HB1.out⟩
  · have hk1 : ¬ K < 1 := by omega
    have hk2 : ¬ 17 < K := by omega
    have hd1 : decide (K < 1) = false := decide_eq_false hk1
    have hd2 : decide (17 < K) = false := decide_eq_false hk2
    obtain ⟨I, hI⟩ : ∃ I : Nat, K - 1 = (I : Int) := ⟨(K - 1).toNat, by omega⟩
    have hI17 : I < 17 := by omega
    have hKN : K.toNat = I + 1 := by omega
    have hixN : ∀ (bb : Nat) (W : World) (k : Nat), k < 17 → (Instr.indexAt 44 (.slice (some ⟨bb, 0, none⟩) 17 17) (.int .i64 (k : Int))).run Tryz.prog W = .ok (.pointer (some ⟨bb, k, none⟩)) W := fun bb W k hk => by
      have := run_ix (P := Tryz.prog) 44 (by kernel_rfl) (fun w => by kernel_rfl) (some ⟨bb, 0, none⟩) 17 17 (.inr rfl) .i64 W k hk
      simpa [bOf, oOf] using this
    have hxa := fun W => hixN (w.heap.size + 1) W I hI17
    have hxb := fun W => hixN (w.heap.size + 2) W I hI17
    obtain ⟨wd, hwd⟩ : ∃ wd, wd = wordK (I + 1) := ⟨_, rfl⟩
    obtain ⟨nd, hnd⟩ : ∃ nd, nd = needsOf (I + 1) := ⟨_, rfl⟩
    have d5 : w1.cell? ⟨w.heap.size + 1, I, none⟩ = some (.string (uS wd)) := (cell_of_row _ _ _ _ _ _ HN1.out).trans (by rw [hwd]; exact nmA_at I hI17)
    have d6 : w1.cell? ⟨w.heap.size + 2, I, none⟩ = some (.string (uS (nd.map upC))) := (cell_of_row _ _ _ _ _ _ HF1.out).trans (by rw [hnd]; exact fmA_at I hI17)
    have hIi : (I : Int) < 17 := by omega
    have hnl : nd.length ≤ 4 := by rw [hnd]; exact (need_ok (I + 1) (by omega)).2
    have hwl : wd.length ≤ 6 := by rw [hwd]; exact word_len (I + 1) (by omega)
    have HRN : Hid (rl text q nd [N, M, C] = none → rline K N M C text q = []) := fun h => by
      unfold rline
      rw [if_pos ⟨by omega, by omega⟩, hKN, ← hnd, h]
    have HRS : Hid (∀ t, rl text q nd [N, M, C] = some t → rline K N M C text q = wd ++ t) := fun t h => by
      unfold rline
      rw [if_pos ⟨by omega, by omega⟩, hKN, ← hnd, h, ← hwd]
    have HCN : Hid (nd.countP (fun x => x.toNat == 110) ≤ 3) := by show _ ≤ _; rw [hnd]; exact needs_cnt (I + 1) (by omega)
    have HTN : Hid (∀ x ∈ nd, x = 116 ∨ x = 110 ∨ x = 113) := by rw [hnd]; exact needs_tnq (I + 1) (by omega)
    have hfs : (uS (nd.map upC)).size = nd.length := (uS_size _).trans (List.length_map ..)
    have HL0 : Hid (LSt w #[.int .i64 K, .slice a text.length cap, .int .i64 N, .int .i64 M, .int .i64 C, .int .i64 e0, .slice e1 n1 k1, .slice e2 n2 k2] N M C (w1.alloc (.cells #[.int .i64 N, .int .i64 M, .int .i64 C] 3))) := by
      refine ⟨(Below.heap_alloc _ _ _ (by omega)).trans HX1.out, (Below.heap_alloc _ _ _ (by omega)).trans HN1.out, (Below.heap_alloc _ _ _ (by omega)).trans HF1.out, ?_, HB1.out.alloc (by omega) _⟩
      have := World.alloc_heap_new w1 (.cells #[.int .i64 N, .int .i64 M, .int .i64 C] 3)
      rwa [hs1] at this
    clear hwd hnd hbad hixN hKN HN1 HF1 HX1 HB1
    go_wp2
    clear hxa hxb d5 d6 z0 z2 z3 z4 hI hIi
    generalize (w1.alloc (.cells #[.int .i64 N, .int .i64 M, .int .i64 C] 3)) = w2 at *
    generalize hargs : #[Value.int .i64 K, .slice a text.length cap, .int .i64 N, .int .i64 M, .int .i64 C, .int .i64 e0, .slice e1 n1 k1, .slice e2 n2 k2] = args at HL0
    have HARG := Lib.hid hargs
    clear hargs
    go_loopw [5, 7, 8] (fun v5 v7 v8 wr => ∃ (j cnt : Nat) (pre : List UInt8) (l6 : Option Addr), j ≤ nd.length ∧ cnt + (nd.drop j).countP (fun x => x.toNat == 110) ≤ 3 ∧ pre.length ≤ 19202 * j ∧ v5 = .string (uS (wd ++ pre)) ∧ v7 = .slice l6 (3 - cnt) (3 - cnt) ∧ (cnt < 3 → l6 = some ⟨w.heap.size + 3, cnt, none⟩) ∧ v8 = .int .i64 (j : Int) ∧ LSt w args N M C wr ∧ Hid (rl text q nd [N, M, C] = (rl text q (nd.drop j) ([N, M, C].drop cnt)).map fun t => pre ++ t)) (fun _ _ v8 _ => nd.length - (intOf v8).toNat)
    case atStart => exact ⟨0, 0, [], _, Nat.zero_le _, by rw [List.drop_zero]; have := HCN.out; omega, by simp, by rw [List.append_nil], rfl, fun _ => rfl, rfl, HL0.out, by
      show _ = _
      rw [List.drop_zero, List.drop_zero]
      cases rl text q nd [N, M, C] <;> rfl⟩
    case round =>
      clear HL0
      obtain ⟨j, cnt, pre, l6, hjl, hj, hpl, rfl, rfl, hl6, rfl, hL, HRL⟩ := hrel
      have HL := Lib.hid hL
      have HL6 := Lib.hid hl6
      clear hL hl6
      by_cases hlt : j < nd.length
      · obtain ⟨c, hc⟩ : ∃ c, nd[j]? = some c := ⟨nd[j], List.getElem?_eq_getElem hlt⟩
        have hdr : nd.drop j = c :: nd.drop (j + 1) := by
          rw [List.drop_eq_getElem_cons hlt]; congr 1
          exact Option.some.inj ((List.getElem?_eq_getElem hlt).symm.trans hc)
        have hcm := HTN.out c (List.mem_of_getElem? hc)
        have hcf : (nd.map upC)[j]? = some (upC c) := by rw [List.getElem?_map, hc]; rfl
        have hix := ixS (nd.map upC) j (upC c) hcf j rfl
        rw [hdr] at hj HRL
        have hbx := HL.out.box
        rw [← HARG.out] at hbx
        have y1 := cell_of_row _ _ 1 _ _ _ hbx
        have y5 := cell_of_row _ _ 5 _ _ _ hbx
        have y6 := cell_of_row _ _ 6 _ _ _ hbx
        have y7 := cell_of_row _ _ 7 _ _ _ hbx
        simp only [List.getElem?_toArray, List.getElem?_cons_succ, List.getElem?_cons_zero] at y1 y5 y6 y7
        have hpl2 : pre.length ≤ 80000 := by omega
        clear hdr hc hcf hbx
        rcases hcm with rfl | rfl | rfl
        · have eu : ((upC 116).toNat : Int) = 84 := by decide
          rw [eu] at hix
          have HRL2 : Hid (rl text q nd [N, M, C] = (rl text q (nd.drop (j + 1)) ([N, M, C].drop cnt)).map fun t => (pre ++ 32 :: quoteL text) ++ t) := by
            show _ = _
            rw [HRL.out, rl, if_pos (by decide), Option.map_map]
            congr 1
            funext t
            simp
          have hj2 : cnt + (nd.drop (j + 1)).countP (fun x => x.toNat == 110) ≤ 3 := by rw [List.countP_cons] at hj; simp at hj; omega
          have hql := quoteL_len text
          have hcv := convA wr a text cap (HR.out.kept HL.out.bel)
          have HQ := Lib.hid (rquote_any wr text (by omega))
          have ha0 : ∀ W : World, (Op.stringOp .add (uS (wd ++ pre)) ⟨#[32]⟩).run Tryz.prog W = .ok (.string (uS (wd ++ pre ++ [32]))) W := add_uS (wd ++ pre) [32] (by simp; omega)
          have ha1 := add_uS (wd ++ pre ++ [32]) (quoteL text) (by simp; omega)
          have HSE : Hid (wd ++ pre ++ [32] ++ quoteL text = wd ++ (pre ++ 32 :: quoteL text)) := by show _ = _; simp
          have HLE : Hid ((pre ++ 32 :: quoteL text).length ≤ 19202 * (j + 1)) := by show _ ≤ _; simp only [List.length_append, List.length_cons]; omega
          rw [HSE.out] at ha1
          clear hj HRL HSE eu hql
          generalize (pre ++ 32 :: quoteL text) = pre2 at *
          generalize wd ++ pre ++ [32] = s1 at *
          generalize wd ++ pre = s0 at *
          generalize quoteL text = dd at *
          go_wp2_with (go_at_call 36; refine HQ.out.mono ?_; rintro e w4 ⟨rfl, hb4⟩; have HL4 := Lib.hid (HL.out.kept hb4); clear hb4)
          go_roundw
          case rel => exact ⟨j + 1, cnt, pre2, l6, by omega, hj2, HLE.out, rfl, rfl, HL6.out, by go_num, HL4.out, HRL2.out⟩
          case measure => simp only [intOf]; omega
        · have eu : ((upC 110).toNat : Int) = 110 := by decide
          rw [eu] at hix
          have hj3 : cnt < 3 := by rw [List.countP_cons] at hj; simp at hj; omega
          clear eu
          rcases Nat.lt_or_ge cnt 1 with h | h
          · obtain rfl : cnt = 0 := by omega
            obtain rfl := HL6.out (by omega)
            clear hj3 h
            have d9 : wr.cell? ⟨w.heap.size + 3, 0, none⟩ = some (.int .i64 N) := cell_of_row _ _ 0 _ _ _ HL.out.ns
            by_cases hneg : N < 0
            · have HN : Hid (rl text q nd [N, M, C] = none) := by
                show _ = _
                rw [HRL.out, rl, if_neg (by decide), if_pos (by decide)]
                show (if N < 0 then _ else _ : Option _).map _ = _
                rw [if_pos hneg]; rfl
              have HE : Hid (rline K N M C text q = []) := HRN.out HN.out
              have hdn : decide (N < 0) = true := decide_eq_true hneg
              clear hj HRL
              go_wp2
              go_ret
              exact ⟨by rw [HE.out]; rfl, HL.out.bel⟩
            · have HRL2 : Hid (rl text q nd [N, M, C] = (rl text q (nd.drop (j + 1)) ([N, M, C].drop 1)).map fun t => (pre ++ 32 :: Lib.decDigits (N).toNat) ++ t) := by
                show _ = _
                rw [HRL.out, rl, if_neg (by decide), if_pos (by decide)]
                show (if N < 0 then _ else _ : Option _).map _ = _
                rw [if_neg hneg, Option.map_map]
                congr 1
                funext t
                simp
              have hdn : decide (N < 0) = false := decide_eq_false hneg
              have hdg := digits_any wr (N).toNat (by have := hN.2; omega)
              rw [Int.toNat_of_nonneg (by omega)] at hdg
              have HDG := Lib.hid hdg
              have hdl : (Lib.decDigits (N).toNat).length ≤ 20 := by rw [dec_len]; exact Lib.nDigits_le20 _ (by have := hN.2; omega)
              have hj2 : 1 + (nd.drop (j + 1)).countP (fun x => x.toNat == 110) ≤ 3 := by rw [List.countP_cons] at hj; simp at hj ⊢; omega
              have ha0 : ∀ W : World, (Op.stringOp .add (uS (wd ++ pre)) ⟨#[32]⟩).run Tryz.prog W = .ok (.string (uS (wd ++ pre ++ [32]))) W := add_uS (wd ++ pre) [32] (by simp; omega)
              have ha1 := add_uS (wd ++ pre ++ [32]) (Lib.decDigits (N).toNat) (by simp; omega)
              have HSE : Hid (wd ++ pre ++ [32] ++ Lib.decDigits (N).toNat = wd ++ (pre ++ 32 :: Lib.decDigits (N).toNat)) := by show _ = _; simp
              have HLE : Hid ((pre ++ 32 :: Lib.decDigits (N).toNat).length ≤ 19202 * (j + 1)) := by show _ ≤ _; simp only [List.length_append, List.length_cons]; omega
              rw [HSE.out] at ha1
              clear hj HRL hdg hneg HSE
              generalize (pre ++ 32 :: Lib.decDigits (N).toNat) = pre2 at *
              generalize wd ++ pre ++ [32] = s1 at *
              generalize wd ++ pre = s0 at *
              generalize Lib.decDigits (N).toNat = dd at *
              go_wp2_with (go_at_call 39; refine HDG.out.mono ?_; rintro e w4 ⟨rfl, hw4⟩; subst hw4)
              go_roundw
              case rel => exact ⟨j + 1, 1, pre2, _, by omega, hj2, HLE.out, rfl, rfl, fun h => (by first | rfl | omega), by go_num, HL.out, HRL2.out⟩
              case measure => simp only [intOf]; omega
          · rcases Nat.lt_or_ge cnt 2 with h' | h'
            · obtain rfl : cnt = 1 := by omega
              obtain rfl := HL6.out (by omega)
              clear hj3 h h'
              have d9 : wr.cell? ⟨w.heap.size + 3, 1, none⟩ = some (.int .i64 M) := cell_of_row _ _ 1 _ _ _ HL.out.ns
              by_cases hneg : M < 0
              · have HN : Hid (rl text q nd [N, M, C] = none) := by
                  show _ = _
                  rw [HRL.out, rl, if_neg (by decide), if_pos (by decide)]
                  show (if M < 0 then _ else _ : Option _).map _ = _
                  rw [if_pos hneg]; rfl
                have HE : Hid (rline K N M C text q = []) := HRN.out HN.out
                have hdn : decide (M < 0) = true := decide_eq_true hneg
                clear hj HRL
                go_wp2
                go_ret
                exact ⟨by rw [HE.out]; rfl, HL.out.bel⟩
              · have HRL2 : Hid (rl text q nd [N, M, C] = (rl text q (nd.drop (j + 1)) ([N, M, C].drop 2)).map fun t => (pre ++ 32 :: Lib.decDigits (M).toNat) ++ t) := by
                  show _ = _
                  rw [HRL.out, rl, if_neg (by decide), if_pos (by decide)]
                  show (if M < 0 then _ else _ : Option _).map _ = _
                  rw [if_neg hneg, Option.map_map]
                  congr 1
                  funext t
                  simp
                have hdn : decide (M < 0) = false := decide_eq_false hneg
                have hdg := digits_any wr (M).toNat (by have := hM.2; omega)
                rw [Int.toNat_of_nonneg (by omega)] at hdg
                have HDG := Lib.hid hdg
                have hdl : (Lib.decDigits (M).toNat).length ≤ 20 := by rw [dec_len]; exact Lib.nDigits_le20 _ (by have := hM.2; omega)
                have hj2 : 2 + (nd.drop (j + 1)).countP (fun x => x.toNat == 110) ≤ 3 := by rw [List.countP_cons] at hj; simp at hj ⊢; omega
                have ha0 : ∀ W : World, (Op.stringOp .add (uS (wd ++ pre)) ⟨#[32]⟩).run Tryz.prog W = .ok (.string (uS (wd ++ pre ++ [32]))) W := add_uS (wd ++ pre) [32] (by simp; omega)
                have ha1 := add_uS (wd ++ pre ++ [32]) (Lib.decDigits (M).toNat) (by simp; omega)
                have HSE : Hid (wd ++ pre ++ [32] ++ Lib.decDigits (M).toNat = wd ++ (pre ++ 32 :: Lib.decDigits (M).toNat)) := by show _ = _; simp
                have HLE : Hid ((pre ++ 32 :: Lib.decDigits (M).toNat).length ≤ 19202 * (j + 1)) := by show _ ≤ _; simp only [List.length_append, List.length_cons]; omega
                rw [HSE.out] at ha1
                clear hj HRL hdg hneg HSE
                generalize (pre ++ 32 :: Lib.decDigits (M).toNat) = pre2 at *
                generalize wd ++ pre ++ [32] = s1 at *
                generalize wd ++ pre = s0 at *
                generalize Lib.decDigits (M).toNat = dd at *
                go_wp2_with (go_at_call 39; refine HDG.out.mono ?_; rintro e w4 ⟨rfl, hw4⟩; subst hw4)
                go_roundw
                case rel => exact ⟨j + 1, 2, pre2, _, by omega, hj2, HLE.out, rfl, rfl, fun h => (by first | rfl | omega), by go_num, HL.out, HRL2.out⟩
                case measure => simp only [intOf]; omega
            · obtain rfl : cnt = 2 := by omega
              obtain rfl := HL6.out (by omega)
              clear hj3 h h'
              have d9 : wr.cell? ⟨w.heap.size + 3, 2, none⟩ = some (.int .i64 C) := cell_of_row _ _ 2 _ _ _ HL.out.ns
              by_cases hneg : C < 0
              · have HN : Hid (rl text q nd [N, M, C] = none) := by
                  show _ = _
                  rw [HRL.out, rl, if_neg (by decide), if_pos (by decide)]
                  show (if C < 0 then _ else _ : Option _).map _ = _
                  rw [if_pos hneg]; rfl
                have HE : Hid (rline K N M C text q = []) := HRN.out HN.out
                have hdn : decide (C < 0) = true := decide_eq_true hneg
                clear hj HRL
                go_wp2
                go_ret
                exact ⟨by rw [HE.out]; rfl, HL.out.bel⟩
              · have HRL2 : Hid (rl text q nd [N, M, C] = (rl text q (nd.drop (j + 1)) ([N, M, C].drop 3)).map fun t => (pre ++ 32 :: Lib.decDigits (C).toNat) ++ t) := by
                  show _ = _
                  rw [HRL.out, rl, if_neg (by decide), if_pos (by decide)]
                  show (if C < 0 then _ else _ : Option _).map _ = _
                  rw [if_neg hneg, Option.map_map]
                  congr 1
                  funext t
                  simp
                have hdn : decide (C < 0) = false := decide_eq_false hneg
                have hdg := digits_any wr (C).toNat (by have := hC.2; omega)
                rw [Int.toNat_of_nonneg (by omega)] at hdg
                have HDG := Lib.hid hdg
                have hdl : (Lib.decDigits (C).toNat).length ≤ 20 := by rw [dec_len]; exact Lib.nDigits_le20 _ (by have := hC.2; omega)
                have hj2 : 3 + (nd.drop (j + 1)).countP (fun x => x.toNat == 110) ≤ 3 := by rw [List.countP_cons] at hj; simp at hj ⊢; omega
                have ha0 : ∀ W : World, (Op.stringOp .add (uS (wd ++ pre)) ⟨#[32]⟩).run Tryz.prog W = .ok (.string (uS (wd ++ pre ++ [32]))) W := add_uS (wd ++ pre) [32] (by simp; omega)
                have ha1 := add_uS (wd ++ pre ++ [32]) (Lib.decDigits (C).toNat) (by simp; omega)
                have HSE : Hid (wd ++ pre ++ [32] ++ Lib.decDigits (C).toNat = wd ++ (pre ++ 32 :: Lib.decDigits (C).toNat)) := by show _ = _; simp
                have HLE : Hid ((pre ++ 32 :: Lib.decDigits (C).toNat).length ≤ 19202 * (j + 1)) := by show _ ≤ _; simp only [List.length_append, List.length_cons]; omega
                rw [HSE.out] at ha1
                clear hj HRL hdg hneg HSE
                generalize (pre ++ 32 :: Lib.decDigits (C).toNat) = pre2 at *
                generalize wd ++ pre ++ [32] = s1 at *
                generalize wd ++ pre = s0 at *
                generalize Lib.decDigits (C).toNat = dd at *
                go_wp2_with (go_at_call 39; refine HDG.out.mono ?_; rintro e w4 ⟨rfl, hw4⟩; subst hw4)
                go_roundw
                case rel => exact ⟨j + 1, 3, pre2, _, by omega, hj2, HLE.out, rfl, rfl, fun h => (by first | rfl | omega), by go_num, HL.out, HRL2.out⟩
                case measure => simp only [intOf]; omega
        · have eu : ((upC 113).toNat : Int) = 81 := by decide
          rw [eu] at hix
          have hj2 : cnt + (nd.drop (j + 1)).countP (fun x => x.toNat == 110) ≤ 3 := by rw [List.countP_cons] at hj; simp at hj; omega
          have HOK := Lib.hid (rok_any wr G q _ _ _ (HQA.out.kept HL.out.bel))
          cases hok : okQ q with
          | false =>
            have HN : Hid (rl text q nd [N, M, C] = none) := by
              show _ = _
              rw [HRL.out, rl, if_neg (by decide), if_neg (by decide), hok]; rfl
            have HE : Hid (rline K N M C text q = []) := HRN.out HN.out
            rw [hok] at HOK
            clear hj HRL eu hok
            go_wp2_with (go_at_call 37; refine HOK.out.mono ?_; rintro e w4 ⟨rfl, hb4⟩; have HL4 := Lib.hid (HL.out.kept hb4); clear hb4)
            go_ret
            exact ⟨by rw [HE.out]; rfl, HL4.out.bel⟩
          | true =>
            have HRL2 : Hid (rl text q nd [N, M, C] = (rl text q (nd.drop (j + 1)) ([N, M, C].drop cnt)).map fun t => (pre ++ 32 :: toldF 8 q) ++ t) := by
              show _ = _
              rw [HRL.out, rl, if_neg (by decide), if_neg (by decide), if_pos hok, Option.map_map]
              congr 1
              funext t
              simp
            have hql := qtextL_len q
            unfold qtextL at hql
            rw [if_pos hok] at hql
            have HLN : Hid (∀ W, Below wr.heap.size wr W → Calls Tryz.prog 38 #[.agg #[.int .i64 e0, .slice e1 n1 k1, .slice e2 n2 k2]] W fun e w' => e = .returned (.string (uS (toldF 8 q))) ∧ Below W.heap.size W w') := fun W hW => rline_any 8 W G q _ _ _ ((HQA.out.kept HL.out.bel).kept hW) (of_decide_eq_true hok)
            have ha0 : ∀ W : World, (Op.stringOp .add (uS (wd ++ pre)) ⟨#[32]⟩).run Tryz.prog W = .ok (.string (uS (wd ++ pre ++ [32]))) W := add_uS (wd ++ pre) [32] (by simp; omega)
            have ha1 := add_uS (wd ++ pre ++ [32]) (toldF 8 q) (by simp; omega)
            have HSE : Hid (wd ++ pre ++ [32] ++ toldF 8 q = wd ++ (pre ++ 32 :: toldF 8 q)) := by show _ = _; simp
            have HLE : Hid ((pre ++ 32 :: toldF 8 q).length ≤ 19202 * (j + 1)) := by show _ ≤ _; simp only [List.length_append, List.length_cons]; omega
            rw [HSE.out] at ha1
            rw [hok] at HOK
            clear hj HRL HSE eu hql hok
            generalize (pre ++ 32 :: toldF 8 q) = pre2 at *
            generalize wd ++ pre ++ [32] = s1 at *
            generalize wd ++ pre = s0 at *
            generalize toldF 8 q = dd at *
            go_wp2_with (first
              | (go_at_call 37; refine HOK.out.mono ?_; rintro e w4 ⟨rfl, hb4⟩; have HB4 := Lib.hid hb4; have HL4 := Lib.hid (HL.out.kept hb4); have hb9 := HL4.out.box; rw [← HARG.out] at hb9; have x5 := cell_of_row _ _ 5 _ _ _ hb9; have x6 := cell_of_row _ _ 6 _ _ _ hb9; have x7 := cell_of_row _ _ 7 _ _ _ hb9; simp only [List.getElem?_toArray, List.getElem?_cons_succ, List.getElem?_cons_zero] at x5 x6 x7; clear hb4 hb9)
              | (go_at_call 38; refine (HLN.out _ HB4.out).mono ?_; rintro e w5 ⟨rfl, hb5⟩; have HL5 := Lib.hid (HL4.out.kept hb5); clear hb5))
            go_roundw
            case rel => exact ⟨j + 1, cnt, pre2, l6, by omega, hj2, HLE.out, rfl, rfl, HL6.out, by go_num, HL5.out, HRL2.out⟩
            case measure => simp only [intOf]; omega
      · obtain rfl : j = nd.length := by omega
        have hd : decide ((nd.length : Int) < (nd.length : Int)) = false := by simp
        have HE : Hid (rline K N M C text q = wd ++ pre) := by
          refine HRS.out _ ?_
          rw [HRL.out, List.drop_length, rl]
          simp
        clear HRL hj
        generalize wd ++ pre = s0 at *
        go_wp2
        go_ret
        exact ⟨by rw [HE.out]; rfl, HL.out.bel⟩
end Go.Proofs.YtdcobmoeligdkaaGreatDoor
