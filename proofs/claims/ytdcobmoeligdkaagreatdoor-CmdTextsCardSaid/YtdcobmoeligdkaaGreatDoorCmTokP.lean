/-
  Plain laws of the commands that are made of their words: what is read, and what is refused.
-/
import Derived.Test.YtdcobmoeligdkaaGreatDoorCmTok
import Derived.Test.YtdcobmoeligdkaaGreatDoorCmRQuote
import Derived.Laws.BytesString
import Derived.Laws.IdiomStrings
namespace Go.Proofs.YtdcobmoeligdkaaGreatDoor
open Go.RowKit Go.Shelf

/-- bytes turned to a string -/
theorem convA (W : World) (a : Option Addr) (l : List UInt8) (cap : Nat) (h : Row W a l.length (bV l)) : (convert 22 9 (.slice a l.length cap)).run Tryz.prog W = .ok (.string (uS l)) W := by
  rcases Nat.eq_zero_or_pos l.length with h0 | h0
  · have : l = [] := List.eq_nil_of_length_eq_zero h0
    subst this
    rw [run_convert_bytes_string W 22 9 5 _ _ cap Tryz.underlying22 Tryz.underlying5 Tryz.underlying9]
    have e : uS [] = ByteArray.empty := rfl
    rw [e]
    cases a <;> simp [Conv.bytesToString, loadCells]
    all_goals rfl
  · have ha := h.at_.resolve_left (by omega)
    rw [ha]
    refine run_convert_bytes_back W _ _ 5 ⟨bOf a, oOf a, none⟩ cap l Tryz.underlying22 Tryz.underlying5 Tryz.underlying9 (fun j hj => ?_)
    have := h.cell j hj
    rw [show (⟨bOf a, oOf a, none⟩ : Addr).add j = ⟨bOf a, oOf a + j, none⟩ from by simp [Addr.add], this]
    simp [bV, List.getD_eq_getElem?_getD, hj]
theorem tail_snoc (b : List UInt8) (n : Nat) (c : UInt8) : ∀ (cs : List UInt8) (j : Nat), tailL b n (cs ++ [c]) j = tailL b n cs j ++ 32 :: tokW b n c (j + cs.length)
  | [], j => by simp [tailL]
  | d :: cs, j => by
    rw [List.cons_append, tailL, tailL, tail_snoc b n c cs (j + 1), List.length_cons, show j + (cs.length + 1) = j + 1 + cs.length by omega]
    simp
/-- the command, as far as its j-th piece -/
def sJ (b : List UInt8) (n K j : Nat) : List UInt8 := wordK K ++ tailL b n ((needsOf K).take j) 0
theorem sJ_zero (b : List UInt8) (n K : Nat) : sJ b n K 0 = wordK K := by unfold sJ; simp [tailL]
theorem sJ_succ (b : List UInt8) (n K j : Nat) (c : UInt8) (hc : (needsOf K)[j]? = some c) : sJ b n K (j + 1) = sJ b n K j ++ 32 :: tokW b n c j := by
  obtain ⟨hj, he⟩ := List.getElem?_eq_some_iff.1 hc
  unfold sJ
  rw [List.take_succ_eq_append_getElem hj, he, tail_snoc, List.length_take, Nat.min_eq_left (by omega), Nat.zero_add, List.append_assoc]
theorem sJ_all (b : List UInt8) (n K : Nat) : sJ b n K (needsOf K).length = wordK K ++ tailL b n (needsOf K) 0 := by unfold sJ; rw [List.take_length]
theorem tok_len (b : List UInt8) (n : Nat) (c : UInt8) (j : Nat) (hb : b.length ≤ 60) (hn : n + j < 1000000000) : (tokW b n c j).length ≤ 182 := by
  unfold tokW
  split
  · have := quoteL_len b; omega
  · split
    · decide
    · have := dec_len9 hn; omega
theorem tail_len (b : List UInt8) (n : Nat) (hb : b.length ≤ 60) (hn : n ≤ 16777216) : ∀ (cs : List UInt8) (j : Nat), j + cs.length ≤ 10 → (tailL b n cs j).length ≤ 183 * cs.length
  | [], _, _ => by simp [tailL]
  | c :: cs, j, h => by
    rw [List.length_cons] at h
    have h1 := tail_len b n hb hn cs (j + 1) (by omega)
    have h2 := tok_len b n c j hb (by omega)
    rw [tailL, List.length_cons, List.length_append, List.length_cons]
    omega
theorem sJ_len (b : List UInt8) (n K j : Nat) (hK : K ≤ 17) (hb : b.length ≤ 60) (hn : n ≤ 16777216) : (sJ b n K j).length ≤ 800 := by
  unfold sJ
  have h1 := word_len K hK
  have h2 := (need_ok K hK).2
  have h3 := tail_len b n hb hn ((needsOf K).take j) 0 (by rw [List.length_take]; omega)
  rw [List.length_take] at h3
  have : (wordK K).length ≤ 6 := h1
  rw [List.length_append]; omega
/-- the forms, as the statement writes them -/
def upC (c : UInt8) : UInt8 := if c.toNat = 116 then 84 else if c.toNat = 113 then 81 else 110
def formK (K : Nat) : List UInt8 := (needsOf K).map upC
/-- the command -/
def stK (b : List UInt8) (n K : Nat) : PCmd := stW b n (needsOf K) 0 (st0 K)
theorem stK_is (b : List UInt8) (n K : Nat) (h1 : 1 ≤ K) (h : K ≤ 17) (hb : b.length ≤ 60) (hn : n ≤ 16777216) : (stK b n K).kind = K ∧ (stK b n K).text.length ≤ 60 ∧ (stK b n K).n ≤ 16777220 ∧ (stK b n K).m ≤ 16777220 ∧ (stK b n K).k ≤ 16777220 := by
  unfold stK
  rcases words_need K h1 h with e | e | e | e | e | e | e <;> rw [e] <;> simp [stW, st0, putN] <;> omega
theorem parse_all (b : List UInt8) (n K : Nat) (h1 : 1 ≤ K) (h : K ≤ 17) (hb : b.length ≤ 60) (hn : n ≤ 16777216) : parseL (sJ b n K (needsOf K).length) = some (stK b n K) := by
  have h2 := need_ok K h
  rw [sJ_all, parse_word K h1 h _ (tail_head b n _ 0)]
  exact run_full b n (by omega) hn _ _ _ h2.1 (by omega)
theorem line_all (b : List UInt8) (n K : Nat) (h1 : 1 ≤ K) (h : K ≤ 17) : lineL K (stK b n K).n (stK b n K).m (stK b n K).k (stK b n K).text (qtextL (stK b n K).q) = sJ b n K (needsOf K).length := by
  rw [sJ_all]; exact line_word b n K h1 h
theorem text_all (b : List UInt8) (n K : Nat) (h1 : 1 ≤ K) (h : K ≤ 17) (hb : b.length ≤ 60) (hn : n ≤ 16777216) : TextR (K : Int) (stK b n K).n (stK b n K).m (stK b n K).k (stK b n K).text (stK b n K).q := by
  have hs := stK_is b n K h1 h hb hn
  refine ⟨by omega, by omega, by omega, stK b n K, ?_, by rw [hs.1], rfl, rfl, rfl, rfl, rfl⟩
  rw [Int.toNat_natCast, line_all b n K h1 h]
  have := sJ_len b n K (needsOf K).length h hb hn
  unfold parseR
  rw [if_neg (by omega)]
  exact parse_all b n K h1 h hb hn
/-- the lines that are refused -/
def badL (b : List UInt8) (n K : Nat) : List (List UInt8) :=
  [sJ b n K (needsOf K).length ++ [32], 32 :: sJ b n K (needsOf K).length, sJ b n K (needsOf K).length ++ [32, 49], sJ b n K (needsOf K).length ++ [120], wordK K ++ 32 :: tailL b n (needsOf K) 0]
theorem parse_none {l : List UInt8} (h : kindI (wordOf l) = 0) : parseL l = none := by unfold parseL; rw [if_pos h]
theorem bad_none (b : List UInt8) (n K : Nat) (h1 : 1 ≤ K) (h : K ≤ 17) (hb : b.length ≤ 60) (hn : n ≤ 16777216) : ∀ l ∈ badL b n K, parseL l = none ∧ l.length ≤ 1000 := by
  have hl := sJ_len b n K (needsOf K).length h hb hn
  have h2 := need_ok K h
  intro l hm
  simp only [badL, List.mem_cons, List.not_mem_nil, or_false] at hm
  rcases hm with rfl | rfl | rfl | rfl | rfl
  · refine ⟨?_, by simp only [List.length_append, List.length_cons, List.length_nil]; omega⟩
    rw [sJ_all, List.append_assoc, parse_word K h1 h _ (tail_end b n _ 0 _ (.inr ⟨[], rfl⟩))]
    exact run_more b n (by omega) hn [] _ _ _ h2.1 (by omega)
  · refine ⟨parse_none ?_, by simp only [List.length_cons]; omega⟩
    rw [show 32 :: sJ b n K (needsOf K).length = [] ++ 32 :: sJ b n K (needsOf K).length from rfl, wordOf_blank [] _ (by simp)]
    decide
  · refine ⟨?_, by simp only [List.length_append, List.length_cons, List.length_nil]; omega⟩
    rw [sJ_all, List.append_assoc, parse_word K h1 h _ (tail_end b n _ 0 _ (.inr ⟨[49], rfl⟩))]
    exact run_more b n (by omega) hn [49] _ _ _ h2.1 (by omega)
  · refine ⟨?_, by simp only [List.length_append, List.length_cons, List.length_nil]; omega⟩
    rw [sJ_all]
    by_cases hne : needsOf K = []
    · rw [hne]
      have h3 := words_x K h1 h hne
      show parseL (wordK K ++ [] ++ [120]) = none
      rw [List.append_nil]
      refine parse_none ?_
      rw [wordOf_all _ h3.2]; exact h3.1
    · obtain ⟨c, cs, e⟩ := List.exists_cons_of_ne_nil hne
      have he : EndOk (tailL b n (needsOf K) 0 ++ [120]) := by rw [e]; exact .inr ⟨_, rfl⟩
      rw [List.append_assoc, parse_word K h1 h _ he]
      exact run_x b n (by omega) hn _ _ _ h2.1 (by omega) hne
  · have h3 := tail_len b n hb hn (needsOf K) 0 (by omega)
    have h4 : (wordK K).length ≤ 6 := word_len K h
    refine ⟨?_, by simp only [List.length_append, List.length_cons]; omega⟩
    rw [parse_word K h1 h _ (.inr ⟨_, rfl⟩)]
    by_cases hne : needsOf K = []
    · rw [hne]; exact run_rest _ _ _
    · obtain ⟨c, cs, e⟩ := List.exists_cons_of_ne_nil hne
      have he : ∃ t, tailL b n (needsOf K) 0 = 32 :: t := by rw [e]; exact ⟨_, rfl⟩
      obtain ⟨t, ht⟩ := he
      rw [ht]
      exact run_two _ _ _ h2.1 hne
theorem last_none (b : List UInt8) (n K : Nat) (h1 : 1 ≤ K) (h : K ≤ 17) (hb : b.length ≤ 60) (hn : n ≤ 16777216) (hne : needsOf K ≠ []) : parseL (sJ b n K ((needsOf K).length - 1)) = none ∧ sJ b n K ((needsOf K).length - 1) ≠ sJ b n K (needsOf K).length := by
  have h2 := need_ok K h
  have e : needsOf K = (needsOf K).dropLast ++ [(needsOf K).getLast hne] := (List.dropLast_concat_getLast hne).symm
  have hd : (needsOf K).take ((needsOf K).length - 1) = (needsOf K).dropLast := (List.dropLast_eq_take).symm
  constructor
  · unfold sJ
    rw [hd, parse_word K h1 h _ (tail_head b n _ 0)]
    have hn2 := h2.1
    rw [e] at hn2
    have := run_last b n (by omega) hn (needsOf K).dropLast ((needsOf K).getLast hne) 0 (st0 K) hn2 (by rw [List.length_dropLast]; omega)
    rwa [← e] at this
  · intro hh
    have hp : 0 < (needsOf K).length := List.length_pos_iff.2 hne
    have hl := sJ_succ b n K ((needsOf K).length - 1) _ (List.getElem?_eq_getElem (by omega))
    rw [show (needsOf K).length - 1 + 1 = (needsOf K).length by omega, ← hh] at hl
    have := congrArg List.length hl
    simp only [List.length_append, List.length_cons] at this
    omega
end Go.Proofs.YtdcobmoeligdkaaGreatDoor
