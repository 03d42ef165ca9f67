/-
  A text with a byte more in front: how often, in plain lists.
-/
import Derived.Test.YtckmabdphdcpmaaBackMath
namespace Go.Proofs.Ytckmabdphdcpmaa
open Go.RowKit

/-- the symbols of some rows -/
def segL (L : List Nat) (lo hi : Nat) : List Nat := (L.take hi).drop lo
theorem seg_split (L : List Nat) {lo hi : Nat} (h : lo ≤ hi) : L.take hi = L.take lo ++ segL L lo hi := by
  unfold segL
  have := List.take_append_drop lo (L.take hi)
  rw [List.take_take, Nat.min_eq_left h] at this
  exact this.symm
theorem seg_len (L : List Nat) {lo hi : Nat} (hh : hi ≤ L.length) : (segL L lo hi).length = hi - lo := by
  unfold segL; rw [List.length_drop, List.length_take, Nat.min_eq_left hh]
theorem seg_rk (L : List Nat) {lo hi : Nat} (h : lo ≤ hi) (c : Nat) : rkC L c hi = rkC L c lo + inK (segL L lo hi) (fun x => x) c := by
  unfold rkC inK
  rw [seg_split L h, List.filter_append, List.length_append]
/-- how many of the rows have a symbol from one up to another -/
def sumK (L : List Nat) (lo hi c : Nat) : Nat := below (segL L lo hi) (fun x => x) (c + 1) - inK (segL L lo hi) (fun x => x) 0
theorem below_one (l : List Nat) : below l (fun x => x) 1 = inK l (fun x => x) 0 := by rw [below_succ, below_zero, Nat.zero_add]
theorem below_mono (l : List Nat) {a b : Nat} (h : a ≤ b) : below l (fun x => x) a ≤ below l (fun x => x) b := by
  obtain ⟨m, rfl⟩ := Nat.le.dest h
  clear h
  induction m with
  | zero => exact Nat.le_refl _
  | succ m ih => rw [← Nat.add_assoc, below_succ]; omega
theorem sumK_zero (L : List Nat) (lo hi : Nat) : sumK L lo hi 0 = 0 := by unfold sumK; rw [below_one]; omega
theorem sumK_succ (L : List Nat) {lo hi : Nat} (h : lo ≤ hi) (c : Nat) : sumK L lo hi (c + 1) = sumK L lo hi c + (rkC L (c + 1) hi - rkC L (c + 1) lo) := by
  have h1 := seg_rk L h (c + 1)
  have h2 := below_mono (segL L lo hi) (show 1 ≤ c + 1 by omega)
  rw [below_one] at h2
  unfold sumK
  rw [below_succ]
  omega
theorem sumK_all (L : List Nat) {lo hi : Nat} (hh : hi ≤ L.length) (hm : ∀ c ∈ L, c ≤ 256) : sumK L lo hi 256 + inK (segL L lo hi) (fun x => x) 0 = hi - lo := by
  have h1 : below (segL L lo hi) (fun x => x) 257 = hi - lo := by
    rw [below_all _ _ _ (fun x hx => by have := hm x (List.mem_of_mem_take (List.mem_of_mem_drop hx)); omega), seg_len L hh]
  have h2 := below_mono (segL L lo hi) (show 1 ≤ 257 by omega)
  rw [below_one] at h2
  unfold sumK
  rw [show (256 : Nat) + 1 = 257 from rfl]
  omega
theorem sumK_le (L : List Nat) {lo hi : Nat} (hh : hi ≤ L.length) (c : Nat) : sumK L lo hi c ≤ hi - lo := by
  have := below_le (segL L lo hi) (fun x => x) (c + 1)
  rw [seg_len L hh] at this
  unfold sumK; omega
theorem rk_gap (L : List Nat) (c : Nat) {lo hi : Nat} (h : lo ≤ hi) (hh : hi ≤ L.length) : rkC L c hi - rkC L c lo ≤ hi - lo := by
  have h1 := seg_rk L h c
  have h2 := inK_le (segL L lo hi) (fun x => x) c
  rw [seg_len L hh] at h2
  omega
/-- the documents, of the first ones, that begin with a text -/
def begD (ds : List (List Nat)) (P : List Nat) (n : Nat) : List Nat := (List.range n).filter fun r => decide ((ds.getD r []).take P.length = P)
theorem begD_zero (ds : List (List Nat)) (P : List Nat) : (begD ds P 0).length = 0 := rfl
theorem begD_succ (ds : List (List Nat)) (P : List Nat) (n : Nat) : (begD ds P (n + 1)).length = (begD ds P n).length + if (ds.getD n []).take P.length = P then 1 else 0 := by
  unfold begD
  rw [List.range_succ, List.filter_append, List.length_append]
  by_cases h : (ds.getD n []).take P.length = P
  · rw [if_pos h, List.filter_cons_of_pos (by simpa using h)]; rfl
  · rw [if_neg h, List.filter_cons_of_neg (by simpa using h)]; rfl
theorem begD_le (ds : List (List Nat)) (P : List Nat) (n : Nat) : (begD ds P n).length ≤ n := by
  unfold begD; exact Nat.le_trans (List.length_filter_le _ _) (by simp)
theorem bwt_map (ds : List (List Nat)) : bwtOf ds = (rowsR ds).map fun p => if p.2 = 0 then 0 else (ds.getD p.1 []).getD (p.2 - 1) 0 + 1 := by
  apply List.ext_getElem (by rw [bwtOf_len, List.length_map, rows_len])
  intro i h1 h2
  rw [List.length_map] at h2
  have := bwt_row ds i h2
  rw [List.getD_eq_getElem?_getD, List.getElem?_eq_getElem h1] at this
  simp only [Option.getD_some] at this
  rw [this, List.getElem_map]
  rw [List.getD_eq_getElem?_getD, List.getElem?_eq_getElem h2]
  rfl
theorem seg_zeros (ds : List (List Nat)) (P : List Nat) (lo hi : Nat) (h : IsB ds P lo hi) : inK (segL (bwtOf ds) lo hi) (fun x => x) 0 = (begD ds P ds.length).length := by
  have hl := h.len
  have e : inK (segL (bwtOf ds) lo hi) (fun x => x) 0 = ((((rowsR ds).take hi).drop lo).filter fun p => decide (p.2 = 0)).length := by
    unfold segL inK
    rw [bwt_map, ← List.map_take, ← List.map_drop, List.filter_map, List.length_map]
    congr 2
    funext p
    simp only [Function.comp]
    by_cases c : p.2 = 0
    · rw [if_pos c, decide_eq_true c]; rfl
    · rw [if_neg c, decide_eq_false c]; rfl
  have hnd : ((((rowsR ds).take hi).drop lo).filter fun p => decide (p.2 = 0)).Nodup :=
    ((rows_nodup ds).sublist ((List.drop_sublist _ _).trans (List.take_sublist _ _))).sublist List.filter_sublist
  have hmem : ∀ p, p ∈ ((rowsR ds).take hi).drop lo ↔ ∃ i, lo ≤ i ∧ i < hi ∧ (rowsR ds).getD i (0, 0) = p := fun p => by
    constructor
    · intro hp
      obtain ⟨k, hk, e⟩ := List.getElem_of_mem hp
      have hk' : k < hi - lo := by rw [List.length_drop, List.length_take, Nat.min_eq_left hl] at hk; exact hk
      refine ⟨lo + k, by omega, by omega, ?_⟩
      rw [List.getElem_drop, List.getElem_take] at e
      rw [List.getD_eq_getElem?_getD, List.getElem?_eq_getElem (by omega)]
      exact e
    · rintro ⟨i, h1, h2, e⟩
      rw [List.mem_iff_getElem?]
      refine ⟨i - lo, ?_⟩
      rw [List.getElem?_drop, show lo + (i - lo) = i by omega, List.getElem?_take_of_lt h2, List.getElem?_eq_getElem (by omega)]
      rw [List.getD_eq_getElem?_getD, List.getElem?_eq_getElem (by omega)] at e
      exact congrArg some e
  have hbn : ((begD ds P ds.length).map fun r => (r, 0)).Nodup := by
    have : (begD ds P ds.length).Nodup := (List.nodup_range (n := ds.length)).sublist List.filter_sublist
    exact List.Pairwise.map _ (fun a b hab e => hab (by injection e)) this
  have hsub : ∀ p, p ∈ ((((rowsR ds).take hi).drop lo).filter fun p => decide (p.2 = 0)) ↔ p ∈ ((begD ds P ds.length).map fun r => ((r, 0) : Nat × Nat)) := fun p => by
    rw [List.mem_filter, hmem, List.mem_map]
    constructor
    · rintro ⟨⟨i, h1, h2, e⟩, h3⟩
      have h3' : p.2 = 0 := by simpa using h3
      have hv := rows_at ds i (by omega)
      have ht := (h.all i (by omega)).1 ⟨h1, h2⟩
      rw [e] at hv ht
      refine ⟨p.1, List.mem_filter.2 ⟨List.mem_range.2 hv.1, ?_⟩, by rw [← h3']⟩
      unfold textAt at ht
      rw [h3', List.drop_zero] at ht
      exact decide_eq_true ht
    · rintro ⟨r, hr, rfl⟩
      obtain ⟨h1, h2⟩ := List.mem_filter.1 hr
      have h1' := List.mem_range.1 h1
      have h2' := of_decide_eq_true h2
      obtain ⟨i, hi1, hi2⟩ := rows_idx ds (r, 0) ⟨h1', Nat.zero_le _⟩
      have := (h.all i hi1).2 (by rw [hi2]; unfold textAt; rw [List.drop_zero]; exact h2')
      exact ⟨⟨i, this.1, this.2, hi2⟩, by simp⟩
  rw [e]
  have l1 := nodup_len_le _ _ hnd (fun p hp => (hsub p).1 hp)
  have l2 := nodup_len_le _ _ hbn (fun p hp => (hsub p).2 hp)
  rw [List.length_map] at l1 l2
  omega
attribute [irreducible] sumK begD
end Go.Proofs.Ytckmabdphdcpmaa
