/-
  Plain laws of lines: how the pieces of a command are read again.
-/
import Derived.Test.YtdcobmoeligdkaaDoorCmLine
namespace Go.Proofs.YtdcobmoeligdkaaDoor
open Go.RowKit Go.Shelf

theorem hexI_D : ∀ d : Fin 16, hexI (hexD d.1) = (d.1 : Int) := by decide
theorem hexB_D (h l : Nat) (hh : h < 16) (hl : l < 16) : hexB (hexD h) (hexD l) = UInt8.ofNat (16 * h + l) := by
  unfold hexB
  rw [hexI_D ⟨h, hh⟩, hexI_D ⟨l, hl⟩]; rfl
theorem plain_34 {c : UInt8} (h : plainB c = true) : c.toNat ≠ 34 := by
  intro e
  unfold plainB at h
  rw [e] at h
  exact absurd h (by decide)
theorem unqR_esc (c : UInt8) (t : List UInt8) : unqR (escL c ++ t) = (unqR t).map fun p => (c :: p.1, p.2 + (escL c).length) := by
  by_cases hp : plainB c = true
  · have he : escL c = [c] := if_pos hp
    rw [he, List.singleton_append, unqR_cons, if_neg (plain_34 hp), if_pos hp]
    rfl
  · have he : escL c = [92, hexD (c.toNat / 16), hexD (c.toNat % 16)] := if_neg hp
    have hc := c.toNat_lt
    have h1 : c.toNat / 16 < 16 := by omega
    have h2 : c.toNat % 16 < 16 := by omega
    have hb : hexB (hexD (c.toNat / 16)) (hexD (c.toNat % 16)) = c := by
      rw [hexB_D _ _ h1 h2, show 16 * (c.toNat / 16) + c.toNat % 16 = c.toNat by omega]
      simp
    have e1 : ¬ (hexI (hexD (c.toNat / 16)) < 0 ∨ hexI (hexD (c.toNat % 16)) < 0 ∨ plainB c = true) := by
      rw [hexI_D ⟨_, h1⟩, hexI_D ⟨_, h2⟩]
      rintro (h | h | h)
      · simp only at h; omega
      · simp only at h; omega
      · exact hp h
    rw [he]
    show unqR (92 :: (hexD (c.toNat / 16) :: hexD (c.toNat % 16) :: t)) = _
    rw [unqR_cons, if_neg (by decide), if_neg (by decide), if_neg (by decide), unqH, hb, if_neg e1]
    rfl
theorem unqR_flat (b r : List UInt8) : unqR (b.flatMap escL ++ 34 :: r) = some (b, (b.flatMap escL).length + 1) := by
  induction b with
  | nil => rw [List.flatMap_nil, List.nil_append, unqR_cons, if_pos (by decide)]; rfl
  | cons c b ih =>
    rw [List.flatMap_cons, List.append_assoc, unqR_esc, ih]
    show some (c :: b, (b.flatMap escL).length + 1 + (escL c).length) = some (c :: b, (escL c ++ b.flatMap escL).length + 1)
    rw [List.length_append, show (b.flatMap escL).length + 1 + (escL c).length = (escL c).length + (b.flatMap escL).length + 1 by omega]
theorem unq_quote (b r : List UInt8) : unq (quoteL b ++ r) = some (b, (quoteL b).length) := by
  have e : quoteL b ++ r = 34 :: (b.flatMap escL ++ 34 :: r) := by unfold quoteL; simp
  rw [e, unq, if_pos (by decide), unqR_flat]
  show some _ = some _
  congr 2
  unfold quoteL
  simp
theorem unq_not (c : UInt8) (r : List UInt8) (h : c.toNat ≠ 34) : unq (c :: r) = none := by rw [unq, if_neg h]
theorem indexB_noblank (w : List UInt8) (h : ∀ b ∈ w, b ≠ 32) : Lib.indexByte w 32 = -1 := by
  induction w with
  | nil => rfl
  | cons a r ih =>
    have ha : a ≠ 32 := h a (by simp)
    have hr := ih (fun b hb => h b (by simp [hb]))
    rw [Lib.indexByte, if_neg (by simpa using ha), if_pos (by rw [hr]; rfl)]
theorem indexB_blank (r w : List UInt8) (h : ∀ b ∈ w, b ≠ 32) : Lib.indexByte (w ++ 32 :: r) 32 = (w.length : Int) := by
  induction w with
  | nil => rw [List.nil_append, Lib.indexByte]; rfl
  | cons a t ih =>
    have ha : a ≠ 32 := h a (by simp)
    have hr := ih (fun b hb => h b (by simp [hb]))
    rw [List.cons_append, Lib.indexByte, if_neg (by simpa using ha), hr, if_neg (by rw [beq_iff_eq]; omega)]
    simp
theorem blank_none (t : List UInt8) (h : ∀ b ∈ t, b ≠ 32) : blank t = t.length := by
  unfold blank
  rw [if_pos (by rw [indexB_noblank t h]; decide)]
/-- what may stand behind a piece -/
def EndOk (r : List UInt8) : Prop := r = [] ∨ ∃ t, r = 32 :: t
theorem blank_at (w r : List UInt8) (h : ∀ b ∈ w, b ≠ 32) (hr : EndOk r) : blank (w ++ r) = w.length := by
  rcases hr with rfl | ⟨t, rfl⟩
  · rw [List.append_nil]; exact blank_none w h
  · unfold blank
    rw [indexB_blank t w h, if_neg (by omega)]; simp
theorem putS_num (st : PCmd) (w : List UInt8) : putS st (110, w) = (numR w).map (putN st) := by
  unfold putS
  rw [if_neg (show ¬ (110 : UInt8).toNat = 116 from by decide), if_pos (show (110 : UInt8).toNat = 110 from by decide)]
theorem putS_end (st : PCmd) (w : List UInt8) : putS st (0, w) = if w = [] then some st else none := by
  unfold putS
  rw [if_neg (show ¬ (0 : UInt8).toNat = 116 from by decide), if_neg (show ¬ (0 : UInt8).toNat = 110 from by decide), if_neg (show ¬ (0 : UInt8).toNat = 113 from by decide)]
  by_cases h : w = []
  · rw [if_pos ⟨show (0 : UInt8).toNat ≠ 33 from by decide, h⟩, if_pos h]
  · rw [if_neg (fun q => h q.2), if_neg h]
theorem putS_none (st : PCmd) (w : List UInt8) : putS st (33, w) = none := by
  unfold putS
  rw [if_neg (show ¬ (33 : UInt8).toNat = 116 from by decide), if_neg (show ¬ (33 : UInt8).toNat = 110 from by decide), if_neg (show ¬ (33 : UInt8).toNat = 113 from by decide), if_neg (fun h => h.1 (show (33 : UInt8).toNat = 33 from by decide))]
theorem putS_t (st : PCmd) (w : List UInt8) : putS st (116, w) = match unq w with
    | some (b, _) => if b.length ≤ mostT st.kind then some { st with text := b } else none
    | none => none := by
  unfold putS
  rw [if_pos (show (116 : UInt8).toNat = 116 from by decide)]
  rfl
theorem putS_q (st : PCmd) (w : List UInt8) : putS st (113, w) = (qpS w).map (fun q => { st with q := q }) := by
  unfold putS
  rw [if_neg (show ¬ (113 : UInt8).toNat = 116 from by decide), if_neg (show ¬ (113 : UInt8).toNat = 110 from by decide), if_pos (show (113 : UInt8).toNat = 113 from by decide)]
theorem dec_noblank (n : Nat) : ∀ b ∈ Lib.decDigits n, b ≠ 32 := fun b hb e => by
  have := dec_digits n b hb
  rw [e] at this
  exact absurd this.1 (by decide)
/-- the pieces, put into a command -/
def runS (needs s : List UInt8) (st : PCmd) : Option PCmd := (wordsL needs s).foldlM putS st
theorem run_nil (st : PCmd) : runS [] [] st = some st := by
  unfold runS; rw [wordsL, List.foldlM_cons, putS_end, if_pos rfl]; rfl
theorem run_rest (st : PCmd) (y : UInt8) (r : List UInt8) : runS [] (y :: r) st = none := by
  unfold runS; rw [wordsL, List.foldlM_cons, putS_end, if_neg (by simp)]; rfl
theorem run_less (c : UInt8) (cs : List UInt8) (st : PCmd) : runS (c :: cs) [] st = none := by
  unfold runS; rw [wordsL, List.foldlM_cons, putS_none]; rfl
theorem run_noblank (c : UInt8) (cs : List UInt8) (st : PCmd) (b : UInt8) (r : List UInt8) (h : b.toNat ≠ 32) : runS (c :: cs) (b :: r) st = none := by
  unfold runS; rw [wordsL, if_neg h, List.foldlM_cons, putS_none]; rfl
theorem run_piece (c : UInt8) (cs : List UInt8) (st : PCmd) (r : List UInt8) : runS (c :: cs) (32 :: r) st = (putS st (c, r.take (pieceLen c r))).bind (runS cs (r.drop (pieceLen c r))) := by
  unfold runS; rw [wordsL, if_pos (show (32 : UInt8).toNat = 32 from by decide), List.foldlM_cons]; rfl
theorem piece_t (r : List UInt8) : pieceLen 116 r = ((unq r).map (·.2)).getD 0 := by unfold pieceLen; rw [if_pos (show (116 : UInt8).toNat = 116 from by decide)]
theorem piece_n (r : List UInt8) : pieceLen 110 r = blank r := by unfold pieceLen; rw [if_neg (show ¬ (110 : UInt8).toNat = 116 from by decide), if_pos (show (110 : UInt8).toNat = 110 from by decide)]
theorem piece_q (r : List UInt8) : pieceLen 113 r = r.length := by unfold pieceLen; rw [if_neg (show ¬ (113 : UInt8).toNat = 116 from by decide), if_neg (show ¬ (113 : UInt8).toNat = 110 from by decide)]
theorem run_t (cs : List UInt8) (st : PCmd) (b r : List UInt8) (hb : b.length ≤ mostT st.kind) : runS (116 :: cs) (32 :: (quoteL b ++ r)) st = runS cs r { st with text := b } := by
  rw [run_piece, piece_t, unq_quote]
  simp only [Option.map_some, Option.getD_some]
  rw [List.take_left' rfl, List.drop_left' rfl, putS_t]
  have h := unq_quote b []
  rw [List.append_nil] at h
  rw [h]
  simp only [if_pos hb, Option.bind_some]
theorem run_n (cs : List UInt8) (st : PCmd) (n : Nat) (r : List UInt8) (hn : n < 1000000000) (hr : EndOk r) : runS (110 :: cs) (32 :: (Lib.decDigits n ++ r)) st = runS cs r (putN st n) := by
  rw [run_piece, piece_n, blank_at _ _ (dec_noblank n) hr, List.take_left' rfl, List.drop_left' rfl, putS_num, numR_dec hn]
  rfl
theorem run_q (cs : List UInt8) (st : PCmd) (s : List UInt8) : runS (113 :: cs) (32 :: s) st = (qpS s).bind fun q => runS cs [] { st with q := q } := by
  rw [run_piece, piece_q, List.take_length, List.drop_length, putS_q]
  cases qpS s <;> rfl
theorem run_nx (cs : List UInt8) (st : PCmd) (n : Nat) : runS (110 :: cs) (32 :: (Lib.decDigits n ++ [120])) st = none := by
  have hb : ∀ b ∈ Lib.decDigits n ++ [120], b ≠ 32 := fun b h => by
    rw [List.mem_append, List.mem_singleton] at h
    rcases h with h | rfl
    · exact dec_noblank n b h
    · decide
  rw [run_piece, piece_n, blank_none _ hb, List.take_length, putS_num, numR_bad (b := 120) (by simp) (by decide)]
  rfl
theorem run_two_t (cs : List UInt8) (st : PCmd) (r : List UInt8) : runS (116 :: cs) (32 :: 32 :: r) st = none := by
  rw [run_piece, piece_t, unq_not 32 r (by decide), putS_t]
  rfl
theorem run_two_n (cs : List UInt8) (st : PCmd) (r : List UInt8) : runS (110 :: cs) (32 :: 32 :: r) st = none := by
  have h0 : blank (32 :: r) = 0 := by
    have := blank_at [] (32 :: r) (by simp) (.inr ⟨r, rfl⟩)
    simpa using this
  rw [run_piece, piece_n, h0, putS_num]
  show ((numR []).map _).bind _ = none
  rw [numR_nil]; rfl
theorem readF_blank (f : Nat) (r : List UInt8) : readF f (32 :: r) = none := by
  cases f with
  | zero => rw [readF]
  | succ f => rw [readF, if_neg (by decide), if_neg (by decide), unq_not 32 r (by decide)]; rfl
theorem qpS_blank (r : List UInt8) : qpS (32 :: r) = none := by
  unfold qpS qparseL
  rw [readF_blank]
  split <;> rfl
theorem run_two_q (cs : List UInt8) (st : PCmd) (r : List UInt8) : runS (113 :: cs) (32 :: 32 :: r) st = none := by
  rw [run_q, qpS_blank]; rfl
/-- the query: not q, q in quotes -/
def qW : QT := .node 4 [] [.node 1 [113] []]
def qtW : List UInt8 := [33, 34, 113, 34]
theorem quote_q : quoteL [113] = [34, 113, 34] := by decide
theorem read_W (r : List UInt8) : readF 8 (qtW ++ r) = some (qW, r) := by
  have h2 : readF 7 (34 :: 113 :: 34 :: r) = some (.node 1 [113] [], r) := by
    have h := unq_quote [113] r
    rw [quote_q] at h
    have h' : unq (34 :: 113 :: 34 :: r) = some ([113], 3) := h
    rw [readF, if_neg (by decide), if_neg (by decide), h']
    rfl
  show readF 8 (33 :: 34 :: 113 :: 34 :: r) = _
  rw [readF, if_pos (by decide), h2]
  rfl
theorem okQ_W : okQ qW = true := by decide +kernel
theorem qpS_W : qpS qtW = some qW := by
  have h := read_W []
  rw [List.append_nil] at h
  unfold qpS qparseL
  rw [if_neg (by decide), h]
  simp only [okQ_W, if_true]
theorem qpS_Wr (y : UInt8) (r : List UInt8) : qpS (qtW ++ y :: r) = none := by
  unfold qpS qparseL
  rw [read_W]
  split <;> rfl
theorem qtext_W : qtextL qW = qtW := by
  unfold qtextL
  rw [okQ_W, if_pos rfl]
  show toldF 8 (.node 4 [] [.node 1 [113] []]) = _
  rw [toldF, if_neg (by decide), if_pos rfl]
  show 33 :: toldF 7 (.node 1 [113] []) = _
  rw [toldF, if_pos rfl, quote_q]; rfl
/-- a piece -/
def tokW (b : List UInt8) (n : Nat) (c : UInt8) (j : Nat) : List UInt8 := if c.toNat = 116 then quoteL b else if c.toNat = 113 then qtW else Lib.decDigits (n + j)
/-- the pieces behind the word -/
def tailL (b : List UInt8) (n : Nat) : List UInt8 → Nat → List UInt8
  | [], _ => []
  | c :: cs, j => 32 :: (tokW b n c j ++ tailL b n cs (j + 1))
/-- the command that they make -/
def stW (b : List UInt8) (n : Nat) : List UInt8 → Nat → PCmd → PCmd
  | [], _, st => st
  | c :: cs, j, st => stW b n cs (j + 1) (if c.toNat = 116 then { st with text := b } else if c.toNat = 113 then { st with q := qW } else putN st (n + j))
theorem tail_end (b : List UInt8) (n : Nat) (cs : List UInt8) (j : Nat) (r : List UInt8) (hr : EndOk r) : EndOk (tailL b n cs j ++ r) := by
  cases cs with
  | nil => exact hr
  | cons c cs => exact .inr ⟨_, rfl⟩
/-- what is needed: a text, a number, or, at the end, a query -/
def needOk : List UInt8 → Bool
  | [] => true
  | [c] => c == 116 || c == 110 || c == 113
  | c :: d :: r => (c == 116 || c == 110) && needOk (d :: r)
theorem need_cons {c : UInt8} {cs : List UInt8} (h : needOk (c :: cs) = true) : (c = 116 ∨ c = 110 ∨ (c = 113 ∧ cs = [])) ∧ needOk cs = true := by
  cases cs with
  | nil =>
    simp only [needOk, Bool.or_eq_true, beq_iff_eq] at h
    refine ⟨?_, rfl⟩
    rcases h with (h | h) | h
    · exact .inl h
    · exact .inr (.inl h)
    · exact .inr (.inr ⟨h, rfl⟩)
  | cons d r =>
    simp only [needOk, Bool.and_eq_true, Bool.or_eq_true, beq_iff_eq] at h
    refine ⟨?_, h.2⟩
    rcases h.1 with h | h
    · exact .inl h
    · exact .inr (.inl h)
theorem tok_t (b : List UInt8) (n j : Nat) : tokW b n 116 j = quoteL b := by unfold tokW; rw [if_pos (by decide)]
theorem tok_n (b : List UInt8) (n j : Nat) : tokW b n 110 j = Lib.decDigits (n + j) := by unfold tokW; rw [if_neg (by decide), if_neg (by decide)]
theorem tok_q (b : List UInt8) (n j : Nat) : tokW b n 113 j = qtW := by unfold tokW; rw [if_neg (by decide), if_pos (by decide)]
theorem run_full (b : List UInt8) (n : Nat) (hb : b.length ≤ 200) (hn : n ≤ 16777216) : ∀ (cs : List UInt8) (j : Nat) (st : PCmd), needOk cs = true → j + cs.length ≤ 10 → runS cs (tailL b n cs j) st = some (stW b n cs j st)
  | [], j, st, _, _ => run_nil st
  | c :: cs, j, st, h, hj => by
    obtain ⟨hc, h'⟩ := need_cons h
    rw [List.length_cons] at hj
    rcases hc with rfl | rfl | ⟨rfl, rfl⟩
    · rw [tailL, tok_t, run_t _ _ _ _ (by unfold mostT; split <;> omega), run_full b n hb hn cs (j + 1) _ h' (by omega)]
      rfl
    · have he := tail_end b n cs (j + 1) [] (.inl rfl)
      rw [List.append_nil] at he
      rw [tailL, tok_n, run_n _ _ _ _ (by omega) he, run_full b n hb hn cs (j + 1) _ h' (by omega)]
      rfl
    · rw [tailL, tok_q, tailL, List.append_nil, run_q, qpS_W]
      show runS [] [] _ = _
      rw [run_nil]; rfl
theorem run_more (b : List UInt8) (n : Nat) (hb : b.length ≤ 200) (hn : n ≤ 16777216) (t : List UInt8) : ∀ (cs : List UInt8) (j : Nat) (st : PCmd), needOk cs = true → j + cs.length ≤ 10 → runS cs (tailL b n cs j ++ 32 :: t) st = none
  | [], j, st, _, _ => run_rest st 32 t
  | c :: cs, j, st, h, hj => by
    obtain ⟨hc, h'⟩ := need_cons h
    rw [List.length_cons] at hj
    have e : tailL b n (c :: cs) j ++ 32 :: t = 32 :: (tokW b n c j ++ (tailL b n cs (j + 1) ++ 32 :: t)) := by rw [tailL]; simp
    rw [e]
    rcases hc with rfl | rfl | ⟨rfl, rfl⟩
    · rw [tok_t, run_t _ _ _ _ (by unfold mostT; split <;> omega)]
      exact run_more b n hb hn t cs (j + 1) _ h' (by omega)
    · rw [tok_n, run_n _ _ _ _ (by omega) (tail_end b n cs (j + 1) _ (.inr ⟨t, rfl⟩))]
      exact run_more b n hb hn t cs (j + 1) _ h' (by omega)
    · rw [tok_q, run_q]
      show (qpS (qtW ++ 32 :: t)).bind _ = none
      rw [qpS_Wr]; rfl
theorem run_x (b : List UInt8) (n : Nat) (hb : b.length ≤ 200) (hn : n ≤ 16777216) : ∀ (cs : List UInt8) (j : Nat) (st : PCmd), needOk cs = true → j + cs.length ≤ 10 → cs ≠ [] → runS cs (tailL b n cs j ++ [120]) st = none
  | [], j, st, _, _, h => absurd rfl h
  | c :: cs, j, st, h, hj, _ => by
    obtain ⟨hc, h'⟩ := need_cons h
    rw [List.length_cons] at hj
    have e : tailL b n (c :: cs) j ++ [120] = 32 :: (tokW b n c j ++ (tailL b n cs (j + 1) ++ [120])) := by rw [tailL]; simp
    rw [e]
    rcases hc with rfl | rfl | ⟨rfl, rfl⟩
    · rw [tok_t, run_t _ _ _ _ (by unfold mostT; split <;> omega)]
      cases cs with
      | nil => exact run_rest _ 120 []
      | cons d r => exact run_x b n hb hn (d :: r) (j + 1) _ h' (by omega) (by simp)
    · cases cs with
      | nil => rw [tok_n]; exact run_nx _ _ _
      | cons d r =>
        rw [tok_n, run_n _ _ _ _ (by omega) (show EndOk (tailL b n (d :: r) (j + 1) ++ [120]) from .inr ⟨_, rfl⟩)]
        exact run_x b n hb hn (d :: r) (j + 1) _ h' (by omega) (by simp)
    · rw [tok_q, run_q]
      show (qpS (qtW ++ 120 :: [])).bind _ = none
      rw [qpS_Wr]; rfl
theorem run_two (cs : List UInt8) (st : PCmd) (r : List UInt8) (h : needOk cs = true) (hne : cs ≠ []) : runS cs (32 :: 32 :: r) st = none := by
  cases cs with
  | nil => exact absurd rfl hne
  | cons c cs =>
    rcases (need_cons h).1 with rfl | rfl | ⟨rfl, rfl⟩
    · exact run_two_t _ _ _
    · exact run_two_n _ _ _
    · exact run_two_q _ _ _
theorem run_last (b : List UInt8) (n : Nat) (hb : b.length ≤ 200) (hn : n ≤ 16777216) : ∀ (cs : List UInt8) (c : UInt8) (j : Nat) (st : PCmd), needOk (cs ++ [c]) = true → j + cs.length ≤ 10 → runS (cs ++ [c]) (tailL b n cs j) st = none
  | [], c, j, st, _, _ => run_less c [] st
  | d :: cs, c, j, st, h, hj => by
    obtain ⟨hc, h'⟩ := need_cons h
    rw [List.length_cons] at hj
    have he := tail_end b n cs (j + 1) [] (.inl rfl)
    rw [List.append_nil] at he
    rw [List.cons_append, tailL]
    rcases hc with rfl | rfl | ⟨-, h2⟩
    · rw [tok_t, run_t _ _ _ _ (by unfold mostT; split <;> omega)]
      exact run_last b n hb hn cs c (j + 1) _ h' (by omega)
    · rw [tok_n, run_n _ _ _ _ (by omega) he]
      exact run_last b n hb hn cs c (j + 1) _ h' (by omega)
    · simp at h2
/-- a command's line, of its k-th word -/
def wordK (k : Nat) : List UInt8 := (shL.getD k ([], [])).1
def st0 (k : Nat) : PCmd := { kind := k, text := [], n := 0, m := 0, k := 0, cnt := 0 }
theorem need_ok (k : Nat) (h : k ≤ 17) : needOk (needsOf k) = true ∧ (needsOf k).length ≤ 4 := by
  have : ∀ K : Fin 18, needOk (needsOf K.1) = true ∧ (needsOf K.1).length ≤ 4 := by decide
  exact this ⟨k, by omega⟩
theorem parse_word (k : Nat) (h1 : 1 ≤ k) (h : k ≤ 17) (r : List UInt8) (hr : EndOk r) : parseL (wordK k ++ r) = runS (needsOf k) r (st0 k) := by
  have hw : wordOf (wordK k ++ r) = wordK k := by
    rcases hr with rfl | ⟨t, rfl⟩
    · rw [List.append_nil]; exact wordOf_all _ (word_plain k h)
    · exact wordOf_blank _ _ (word_plain k h)
  have hk : kindI (wordK k) = (k : Int) := kind_word k h1 h
  unfold parseL
  rw [hw, hk, if_neg (by omega), Int.toNat_natCast, List.drop_left' rfl]
  rfl
theorem tail_head (b : List UInt8) (n : Nat) (cs : List UInt8) (j : Nat) : EndOk (tailL b n cs j) := by
  have := tail_end b n cs j [] (.inl rfl)
  rwa [List.append_nil] at this
theorem words_need (k : Nat) (h1 : 1 ≤ k) (h : k ≤ 17) : needsOf k = [] ∨ needsOf k = [116] ∨ needsOf k = [110] ∨ needsOf k = [116, 110] ∨ needsOf k = [113] ∨ needsOf k = [116, 110, 110, 110] ∨ needsOf k = [110, 110] := by
  have : ∀ K : Fin 18, 1 ≤ K.1 → needsOf K.1 = [] ∨ needsOf K.1 = [116] ∨ needsOf K.1 = [110] ∨ needsOf K.1 = [116, 110] ∨ needsOf K.1 = [113] ∨ needsOf K.1 = [116, 110, 110, 110] ∨ needsOf K.1 = [110, 110] := by decide
  exact this ⟨k, by omega⟩ h1
theorem words_x (k : Nat) (h1 : 1 ≤ k) (h : k ≤ 17) (hn : needsOf k = []) : kindI (wordK k ++ [120]) = 0 ∧ ∀ b ∈ wordK k ++ [120], b ≠ 32 := by
  have : ∀ K : Fin 18, 1 ≤ K.1 → needsOf K.1 = [] → kindI (wordK K.1 ++ [120]) = 0 ∧ ∀ b ∈ wordK K.1 ++ [120], b ≠ 32 := by decide
  exact this ⟨k, by omega⟩ h1 hn
theorem itoa_nat (n : Nat) : Lib.itoa (n : Int) = Lib.decDigits n := by
  unfold Lib.itoa
  rw [if_neg (by omega)]; simp
theorem itoa_1 (n : Nat) : Lib.itoa ((n : Int) + 1) = Lib.decDigits (n + 1) := itoa_nat (n + 1)
theorem itoa_2 (n : Nat) : Lib.itoa ((n : Int) + 2) = Lib.decDigits (n + 2) := itoa_nat (n + 2)
theorem itoa_3 (n : Nat) : Lib.itoa ((n : Int) + 3) = Lib.decDigits (n + 3) := itoa_nat (n + 3)
/-- the pieces, told again -/
theorem toks_tail (b : List UInt8) (n : Nat) (k : Nat) (h1 : 1 ≤ k) (h : k ≤ 17) : ((toksL (stW b n (needsOf k) 0 (st0 k)).text (qtextL (stW b n (needsOf k) 0 (st0 k)).q) (needsOf k) [((stW b n (needsOf k) 0 (st0 k)).n : Int), ((stW b n (needsOf k) 0 (st0 k)).m : Int), ((stW b n (needsOf k) 0 (st0 k)).k : Int)]).map ([32] ++ ·)).flatten = tailL b n (needsOf k) 0 := by
  rcases words_need k h1 h with e | e | e | e | e | e | e <;> rw [e] <;>
    simp [toksL, tailL, stW, st0, putN, tok_t, tok_n, tok_q, qtext_W, itoa_nat, itoa_1, itoa_2, itoa_3]
theorem line_word (b : List UInt8) (n : Nat) (k : Nat) (h1 : 1 ≤ k) (h : k ≤ 17) : lineL k (stW b n (needsOf k) 0 (st0 k)).n (stW b n (needsOf k) 0 (st0 k)).m (stW b n (needsOf k) 0 (st0 k)).k (stW b n (needsOf k) 0 (st0 k)).text (qtextL (stW b n (needsOf k) 0 (st0 k)).q) = wordK k ++ tailL b n (needsOf k) 0 := by
  unfold lineL
  rw [Lib.join_cons]
  show _ ++ (((toksL _ _ _ _).map ([32] ++ ·)).flatten) = _
  rw [toks_tail b n k h1 h]; rfl
end Go.Proofs.YtdcobmoeligdkaaDoor
