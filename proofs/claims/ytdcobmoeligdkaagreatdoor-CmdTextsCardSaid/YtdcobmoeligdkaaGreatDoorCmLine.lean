/-
  Plain laws of lines: a line's word; the line of a command.
-/
import Derived.Test.YtdcobmoeligdkaaGreatDoorCmSame
namespace Go.Proofs.YtdcobmoeligdkaaGreatDoor
open Go.RowKit Go.Shelf

theorem index_word (r : List UInt8) : ∀ (w : List UInt8), (∀ b ∈ w, b ≠ 32) → Lib.index (w ++ 32 :: r) [32] = (w.length : Int)
  | [], _ => by simp [Lib.index, List.isPrefixOf]
  | b :: w, h => by
    have hb : b ≠ 32 := h b (by simp)
    have h1 := index_word r w (fun x hx => h x (by simp [hx]))
    have h2 : ([32] : List UInt8).isPrefixOf (b :: (w ++ 32 :: r)) = false := by simp [List.isPrefixOf, Ne.symm hb]
    have h3 : ((w.length : Int) == -1) = false := by rw [beq_eq_false_iff_ne]; omega
    rw [List.cons_append, Lib.index, h2, h1]
    simp
theorem index_none : ∀ (w : List UInt8), (∀ b ∈ w, b ≠ 32) → Lib.index w [32] = -1
  | [], _ => by simp [Lib.index]
  | b :: w, h => by
    have hb : b ≠ 32 := h b (by simp)
    have h1 := index_none w (fun x hx => h x (by simp [hx]))
    have h2 : ([32] : List UInt8).isPrefixOf (b :: w) = false := by simp [List.isPrefixOf, Ne.symm hb]
    rw [Lib.index, h2, h1]
    simp
theorem wordOf_blank (w r : List UInt8) (h : ∀ b ∈ w, b ≠ 32) : wordOf (w ++ 32 :: r) = w := by
  unfold wordOf Lib.cut
  rw [index_word r w h, if_pos (by omega)]
  simp
theorem wordOf_all (w : List UInt8) (h : ∀ b ∈ w, b ≠ 32) : wordOf w = w := by
  unfold wordOf Lib.cut
  rw [index_none w h, if_neg (by omega)]
/-- the pieces of a command's line behind its word -/
def toksL (text qt : List UInt8) : List UInt8 → List Int → List (List UInt8)
  | [], _ => []
  | c :: cs, l => if c.toNat = 116 then quoteL text :: toksL text qt cs l else if c.toNat = 110 then Lib.itoa (l.headD 0) :: toksL text qt cs l.tail else qt :: toksL text qt cs l
def lineL (k : Nat) (n m c : Int) (text qt : List UInt8) : List UInt8 := Lib.join ((shL.getD k ([], [])).1 :: toksL text qt (needsOf k) [n, m, c]) [32]
/-- whether a command is the one that a line is read as -/
def isR (k n m c : Int) (text : List UInt8) (q : QT) (st : PCmd) : Prop := k = (st.kind : Int) ∧ text = st.text ∧ n = (st.n : Int) ∧ m = (st.m : Int) ∧ c = (st.k : Int) ∧ q = st.q
/-- whether a command has a line -/
def TextR (k n m c : Int) (text : List UInt8) (q : QT) : Prop := 1 ≤ k ∧ k ≤ 17 ∧ text.length ≤ 2000 ∧ ∃ st, parseR (lineL k.toNat n m c text (qtextL q)) = some st ∧ isR k n m c text q st
theorem word_plain (k : Nat) (h : k ≤ 17) : ∀ b ∈ (shL.getD k ([], [])).1, b ≠ 32 := by
  have : ∀ K : Fin 18, ∀ b ∈ (shL.getD K.1 ([], [])).1, b ≠ 32 := by decide
  exact this ⟨k, by omega⟩
theorem word_len (k : Nat) (h : k ≤ 17) : (shL.getD k ([], [])).1.length ≤ 6 := by
  have : ∀ K : Fin 18, (shL.getD K.1 ([], [])).1.length ≤ 6 := by decide
  exact this ⟨k, by omega⟩
theorem kind_word (k : Nat) (h1 : 1 ≤ k) (h : k ≤ 17) : kindI (shL.getD k ([], [])).1 = (k : Int) := by
  have : ∀ K : Fin 18, 1 ≤ K.1 → kindI (shL.getD K.1 ([], [])).1 = (K.1 : Int) := by decide
  exact this ⟨k, by omega⟩ h1
theorem wordOf_line (k : Nat) (h : k ≤ 17) (n m c : Int) (text qt : List UInt8) : wordOf (lineL k n m c text qt) = (shL.getD k ([], [])).1 := by
  unfold lineL
  rw [Lib.join_cons]
  cases ht : toksL text qt (needsOf k) [n, m, c] with
  | nil =>
    have : Lib.joinTail [32] [] = [] := rfl
    rw [this, List.append_nil]
    exact wordOf_all _ (word_plain k h)
  | cons x r =>
    have : Lib.joinTail [32] (x :: r) = 32 :: (x ++ Lib.joinTail [32] r) := rfl
    rw [this]
    exact wordOf_blank _ _ (word_plain k h)
def I64 (x : Int) : Prop := -9223372036854775808 ≤ x ∧ x ≤ 9223372036854775807
theorem toks_len (text qt : List UInt8) (ht : text.length ≤ 2000) (hq : qt.length ≤ 19200) : ∀ (cs : List UInt8) (l : List Int), (∀ x ∈ l, I64 x) → Lib.lens (toksL text qt cs l) ≤ 6002 * cs.countP (fun c => c.toNat == 116) + 19221 * cs.countP (fun c => !(c.toNat == 116 || c.toNat == 110)) + 21 * cs.length
  | [], l, _ => by simp [toksL, Lib.lens]
  | c :: cs, l, h => by
    unfold toksL
    have hq' := quoteL_len text
    rw [List.countP_cons, List.countP_cons]
    split
    · rename_i hc
      have ih := toks_len text qt ht hq cs l h
      have : Lib.lens (quoteL text :: toksL text qt cs l) = (quoteL text).length + Lib.lens (toksL text qt cs l) := rfl
      rw [this]
      simp only [hc, beq_self_eq_true, if_true, List.length_cons, Bool.true_or, Bool.not_true, Bool.false_eq_true, if_false]
      omega
    · rename_i hc
      split
      · rename_i hc2
        have ih := toks_len text qt ht hq cs l.tail (fun x hx => h x (List.mem_of_mem_tail hx))
        have h0 : I64 (l.headD 0) := by
          cases l with
          | nil => exact ⟨by decide, by decide⟩
          | cons a r => exact h a (by simp)
        have hi := Lib.itoa_length_le _ h0.1 h0.2
        have : Lib.lens (Lib.itoa (l.headD 0) :: toksL text qt cs l.tail) = (Lib.itoa (l.headD 0)).length + Lib.lens (toksL text qt cs l.tail) := rfl
        rw [this, List.length_cons]
        omega
      · rename_i hc2
        have ih := toks_len text qt ht hq cs l h
        have : Lib.lens (qt :: toksL text qt cs l) = qt.length + Lib.lens (toksL text qt cs l) := rfl
        rw [this]
        have e1 : (c.toNat == 116) = false := by rw [beq_eq_false_iff_ne]; exact hc
        have e2 : (c.toNat == 110) = false := by rw [beq_eq_false_iff_ne]; exact hc2
        simp only [e1, e2, Bool.or_false, Bool.not_false, if_true, List.length_cons, Bool.false_eq_true, if_false]
        omega
theorem toks_many (text qt : List UInt8) : ∀ (cs : List UInt8) (l : List Int), (toksL text qt cs l).length = cs.length
  | [], _ => rfl
  | c :: cs, l => by
    unfold toksL
    split
    · rw [List.length_cons, toks_many text qt cs l, List.length_cons]
    · split
      · rw [List.length_cons, toks_many text qt cs l.tail, List.length_cons]
      · rw [List.length_cons, toks_many text qt cs l, List.length_cons]
theorem needs_t (k : Nat) (h : k ≤ 17) : (needsOf k).countP (fun c => c.toNat == 116) ≤ 1 ∧ (needsOf k).length ≤ 4 ∧ (needsOf k).countP (fun c => !(c.toNat == 116 || c.toNat == 110)) ≤ 1 := by
  have : ∀ K : Fin 18, (needsOf K.1).countP (fun c => c.toNat == 116) ≤ 1 ∧ (needsOf K.1).length ≤ 4 ∧ (needsOf K.1).countP (fun c => !(c.toNat == 116 || c.toNat == 110)) ≤ 1 := by decide
  exact this ⟨k, by omega⟩
theorem line_len (k : Nat) (h : k ≤ 17) (n m c : Int) (hn : I64 n) (hm : I64 m) (hc : I64 c) (text qt : List UInt8) (ht : text.length ≤ 2000) (hq : qt.length ≤ 19200) : (lineL k n m c text qt).length ≤ 30000 := by
  unfold lineL
  rw [Lib.join_length, toks_many]
  have h1 := toks_len text qt ht hq (needsOf k) [n, m, c] (by intro x hx; simp at hx; rcases hx with rfl | rfl | rfl <;> assumption)
  have h2 := needs_t k h
  have h3 := word_len k h
  have : Lib.lens ((shL.getD k ([], [])).1 :: toksL text qt (needsOf k) [n, m, c]) = (shL.getD k ([], [])).1.length + Lib.lens (toksL text qt (needsOf k) [n, m, c]) := rfl
  rw [this]
  simp only [List.length_cons, List.length_nil]
  omega
end Go.Proofs.YtdcobmoeligdkaaGreatDoor
