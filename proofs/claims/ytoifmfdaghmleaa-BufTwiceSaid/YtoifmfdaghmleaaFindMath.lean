/-
  The places of a row of bytes where others begin, in the words of the library's index.
-/
import Derived.Test.YtoifmfdaghmleaaTextWalk
import Derived.Lib.IndexMore
import Derived.Lib.Bytes
namespace Go.Proofs.Ytoifmfdaghmleaa.Tx
open Go.RowKit

theorem ofNat_inj {a b : Nat} (ha : a < 256) (hb : b < 256) : UInt8.ofNat a = UInt8.ofNat b ↔ a = b := by
  constructor
  · intro h
    have := congrArg UInt8.toNat h
    simp at this; omega
  · intro h; rw [h]
theorem map_inj {x y : List Nat} (hx : ∀ c ∈ x, c < 256) (hy : ∀ c ∈ y, c < 256) : x.map UInt8.ofNat = y.map UInt8.ofNat ↔ x = y := by
  induction x generalizing y with
  | nil => cases y <;> simp
  | cons a x ih =>
    cases y with
    | nil => simp
    | cons b y =>
      simp only [List.map_cons, List.cons.injEq]
      rw [ofNat_inj (hx a (by simp)) (hy b (by simp)), ih (fun c hc => hx c (by simp [hc])) (fun c hc => hy c (by simp [hc]))]
/-- do P's bytes begin at place j of D? -/
def occB (P D : List Nat) (j : Nat) : Bool := decide ((D.drop j).take P.length = P)
def inTo (P D : List Nat) (k : Nat) : List Nat := (List.range k).filter (occB P D)
theorem inTo_zero (P D : List Nat) : inTo P D 0 = [] := rfl
theorem inTo_yes (P D : List Nat) (k : Nat) (h : occB P D k = true) : inTo P D (k + 1) = inTo P D k ++ [k] := by
  unfold inTo; rw [List.range_succ, List.filter_append, List.filter_cons_of_pos h]; rfl
theorem inTo_no (P D : List Nat) (k : Nat) (h : occB P D k = false) : inTo P D (k + 1) = inTo P D k := by
  unfold inTo; rw [List.range_succ, List.filter_append, List.filter_cons_of_neg (by rw [h]; simp)]; simp
theorem inTo_gap (P D : List Nat) (k m : Nat) (hk : k ≤ m) (h : ∀ j, k ≤ j → j < m → occB P D j = false) : inTo P D m = inTo P D k := by
  obtain ⟨t, rfl⟩ := Nat.le.dest hk
  induction t with
  | zero => rfl
  | succ t ih => rw [← Nat.add_assoc, inTo_no _ _ _ (h (k + t) (by omega) (by omega))]; exact ih (by omega) (fun j h1 h2 => h j h1 (by omega))
theorem inTo_len (P D : List Nat) (k : Nat) : (inTo P D k).length ≤ k := by unfold inTo; exact Nat.le_trans (List.length_filter_le _ _) (by simp)
theorem inTo_pre (P D : List Nat) {k m : Nat} (h : k ≤ m) : inTo P D k <+: inTo P D m := by
  obtain ⟨t, rfl⟩ := Nat.le.dest h
  unfold inTo
  rw [List.range_add, List.filter_append]
  exact List.prefix_append _ _
theorem occB_room (P D : List Nat) (j : Nat) (hP : P ≠ []) (h : occB P D j = true) : j + P.length ≤ D.length := by
  have := congrArg List.length (of_decide_eq_true h)
  rw [List.length_take, List.length_drop] at this
  have : 0 < P.length := by cases P with
    | nil => exact absurd rfl hP
    | cons => simp
  omega
/-- Lib.index, of what stands from a place on -/
def idxB (P D : List Nat) (k : Nat) : Int := Lib.index (Lib.bytesOf ((D.drop k).map Int.ofNat)) (Lib.bytesOf (P.map Int.ofNat))
theorem bytesOf_nat (l : List Nat) : Lib.bytesOf (l.map Int.ofNat) = l.map UInt8.ofNat := by
  unfold Lib.bytesOf; rw [List.map_map]; rfl
theorem occ_iff (P X : List Nat) (hp : ∀ c ∈ P, c < 256) (hx : ∀ c ∈ X, c < 256) (j : Nat) : Lib.occAt (X.map UInt8.ofNat) (P.map UInt8.ofNat) j = decide ((X.drop j).take P.length = P) := by
  unfold Lib.occAt
  rw [Bool.eq_iff_iff, List.isPrefixOf_iff_prefix, List.prefix_iff_eq_take, decide_eq_true_iff, List.length_map, ← List.map_drop, ← List.map_take, map_inj hp (fun c hc => hx c (List.mem_of_mem_drop (List.mem_of_mem_take hc)))]
  exact eq_comm
theorem idxB_spec (P D : List Nat) (hp : ∀ c ∈ P, c < 256) (hd : ∀ c ∈ D, c < 256) (hP : P ≠ []) (k : Nat) (hk : k ≤ D.length) :
    (idxB P D k = -1 ∧ ∀ m, inTo P D (k + m) = inTo P D k) ∨ (∃ i : Nat, idxB P D k = i ∧ k + i + P.length ≤ D.length ∧ inTo P D (k + i + 1) = inTo P D k ++ [k + i]) := by
  have hX : ∀ c ∈ D.drop k, c < 256 := fun c hc => hd c (List.mem_of_mem_drop hc)
  have ho : ∀ j, Lib.occAt ((D.drop k).map UInt8.ofNat) (P.map UInt8.ofNat) j = occB P D (k + j) := fun j => by
    rw [occ_iff P _ hp hX, List.drop_drop]; rfl
  unfold idxB
  rw [bytesOf_nat, bytesOf_nat]
  rcases Lib.index_spec ((D.drop k).map UInt8.ofNat) (P.map UInt8.ofNat) with ⟨h1, h2⟩ | ⟨i, h1, h2, h3, h4⟩
  · refine .inl ⟨h1, fun m => inTo_gap P D k (k + m) (by omega) fun j hj hm => ?_⟩
    by_cases hl : j ≤ D.length
    · have := h2 (j - k) (by rw [List.length_map, List.length_drop]; omega)
      rw [ho, show k + (j - k) = j by omega] at this
      exact this
    · cases hb : occB P D j with
      | false => rfl
      | true => have := occB_room P D j hP hb; omega
  · rw [ho] at h3
    refine .inr ⟨i, h1, occB_room P D _ hP h3, ?_⟩
    rw [inTo_yes P D _ h3, inTo_gap P D k (k + i) (by omega) fun j hj hm => ?_]
    have := h4 (j - k) (by omega)
    rw [ho, show k + (j - k) = j by omega] at this
    exact this
theorem inTo_short (P D : List Nat) (hP : P ≠ []) (k m : Nat) (hk : D.length < k + P.length) : inTo P D (k + m) = inTo P D k :=
  inTo_gap P D k (k + m) (by omega) fun j hj _ => by
    cases hb : occB P D j with
    | false => rfl
    | true => have := occB_room P D j hP hb; omega
/-- all places -/
def inL (P D : List Nat) : List Nat := if P = [] then [] else inTo P D (D.length + 1)
theorem inL_len (P D : List Nat) : (inL P D).length ≤ D.length + 1 := by
  unfold inL; split
  · exact Nat.zero_le _
  · exact inTo_len _ _ _
attribute [irreducible] inL
end Go.Proofs.Ytoifmfdaghmleaa.Tx
