/-
  Hits, sorted: what the rows of a text come to when they are put in order.
-/
import Derived.Test.YtjpoebmjfedecaaGreatBackMath
import Derived.Test.YtjpoebmjfedecaaGreatRefRange
import Derived.Sort.LotA
namespace Go.Proofs.YtjpoebmjfedecaaGreat
open Go.RowKit

/-- two bounded numbers, as a hit holds them -/
abbrev B2 := Fin 65536 × Fin 65536
def toB (p : Nat × Nat) : B2 := (Fin.ofNat 65536 p.1, Fin.ofNat 65536 p.2)
def ofB (x : B2) : Nat × Nat := (x.1.val, x.2.val)
theorem ofB_toB (p : Nat × Nat) (h : p.1 < 65536 ∧ p.2 < 65536) : ofB (toB p) = p := by
  obtain ⟨a, b⟩ := p
  have h1 : a % 65536 = a := Nat.mod_eq_of_lt h.1
  have h2 : b % 65536 = b := Nat.mod_eq_of_lt h.2
  simp [ofB, toB, Fin.ofNat, h1, h2]
theorem toB_ofB (x : B2) : toB (ofB x) = x := by
  obtain ⟨a, b⟩ := x
  simp [ofB, toB, Fin.ofNat, Nat.mod_eq_of_lt a.isLt, Nat.mod_eq_of_lt b.isLt]
def cfH (x y : B2) : Int := if (x.1.val : Int) = (y.1.val : Int) then (x.2.val : Int) - (y.2.val : Int) else (x.1.val : Int) - (y.1.val : Int)
def ltH (x y : B2) : Bool := decide (cfH x y < 0)
theorem ltH_iff (x y : B2) : ltH x y = true ↔ x.1.val < y.1.val ∨ x.1.val = y.1.val ∧ x.2.val < y.2.val := by
  unfold ltH cfH
  rw [decide_eq_true_iff]
  split <;> omega
theorem ltH_no (x y : B2) : ltH x y = false ↔ y.1.val < x.1.val ∨ y.1.val = x.1.val ∧ y.2.val ≤ x.2.val := by
  rw [← Bool.not_eq_true, ltH_iff]; omega
theorem ltH_swo : Sort.SWO ltH where
  irrefl x := by rw [ltH_no]; omega
  trans x y z h1 h2 := by rw [ltH_iff] at *; omega
  ntrans x y z h1 h2 := by rw [ltH_no] at *; omega
theorem ltH_one (x y : B2) (h1 : ltH x y = false) (h2 : ltH y x = false) : x = y := by
  rw [ltH_no] at *
  obtain ⟨⟨a, ha⟩, ⟨b, hb⟩⟩ := x
  obtain ⟨⟨c, hc⟩, ⟨d, hd⟩⟩ := y
  simp only at h1 h2
  obtain rfl : a = c := by omega
  obtain rfl : b = d := by omega
  rfl
/-- the rows gathered so far -/
def gotR (ds : List (List Nat)) (lo i : Nat) : List (Nat × Nat) := ((rowsR ds).take i).drop lo
theorem gotR_nil (ds : List (List Nat)) (lo : Nat) : gotR ds lo lo = [] := by
  unfold gotR; exact List.drop_of_length_le (by rw [List.length_take]; omega)
theorem gotR_succ (ds : List (List Nat)) (lo i : Nat) (h : lo ≤ i) (hi : i < (rowsR ds).length) : gotR ds lo (i + 1) = gotR ds lo i ++ [(rowsR ds).getD i (0, 0)] := by
  unfold gotR
  rw [List.take_succ_eq_append_getElem hi, List.drop_append_of_le_length (by rw [List.length_take]; omega), List.getD_eq_getElem?_getD, List.getElem?_eq_getElem hi]; rfl
theorem gotR_len (ds : List (List Nat)) (lo i : Nat) (hi : i ≤ (rowsR ds).length) : (gotR ds lo i).length = i - lo := by
  unfold gotR; rw [List.length_drop, List.length_take]; omega
theorem gotR_at (ds : List (List Nat)) (lo i q : Nat) (h : lo + q < i) : (gotR ds lo i)[q]? = (rowsR ds)[lo + q]? := by
  unfold gotR
  rw [List.getElem?_drop, List.getElem?_take_of_lt h]
/-- what a text's hits are -/
def hitL (ds : List (List Nat)) (P : List Nat) : List (Nat × Nat) := foundL ds P (allH ds ds.length)
theorem mem_hitL (ds : List (List Nat)) (P : List Nat) (p : Nat × Nat) : p ∈ hitL ds P ↔ validH ds p ∧ prefH ds P p = true := by
  unfold hitL
  rw [show foundL ds P (allH ds ds.length) = (allH ds ds.length).filter (prefH ds P) by unfold foundL; rfl, List.mem_filter, mem_allH]
  rfl
theorem mem_gotR (ds : List (List Nat)) (P : List Nat) (lo hi : Nat) (h : IsB ds P lo hi) (p : Nat × Nat) : p ∈ gotR ds lo hi ↔ validH ds p ∧ prefH ds P p = true := by
  have hlen := h.len
  have key : ∀ j, j < (rowsR ds).length → ((lo ≤ j ∧ j < hi) ↔ prefH ds P ((rowsR ds).getD j (0, 0)) = true) := fun j hj => by
    rw [h.all j hj]; unfold prefH; rw [decide_eq_true_iff]
  constructor
  · intro hp
    obtain ⟨q, hq, rfl⟩ := List.mem_iff_getElem.1 hp
    have hl := gotR_len ds lo hi hlen
    have e : (gotR ds lo hi)[q] = (rowsR ds).getD (lo + q) (0, 0) := by
      have h1 := gotR_at ds lo hi q (by omega)
      rw [List.getElem?_eq_getElem hq] at h1
      rw [List.getD_eq_getElem?_getD, ← h1]; rfl
    rw [e]
    exact ⟨rows_at ds _ (by omega), (key _ (by omega)).1 ⟨by omega, by omega⟩⟩
  · rintro ⟨hv, hp⟩
    obtain ⟨i, hi1, he⟩ := rows_idx ds p hv
    rw [← he] at hp
    obtain ⟨h1, h2⟩ := (key i hi1).2 hp
    have h3 := gotR_at ds lo hi (i - lo) (by omega)
    rw [show lo + (i - lo) = i by omega] at h3
    refine List.mem_of_getElem? (i := i - lo) (h3.trans ?_)
    rw [List.getD_eq_getElem?_getD, List.getElem?_eq_getElem hi1] at he
    rw [List.getElem?_eq_getElem hi1]
    exact congrArg some he
theorem gotR_nodup (ds : List (List Nat)) (lo hi : Nat) : (gotR ds lo hi).Nodup := by
  unfold gotR
  exact ((rows_nodup ds).sublist (List.take_sublist _ _)).sublist (List.drop_sublist _ _)
theorem lex_allH (ds : List (List Nat)) (r : Nat) : (allH ds r).Pairwise (fun p q => p.1 < q.1 ∨ p.1 = q.1 ∧ p.2 < q.2) := by
  induction r with
  | zero => exact List.Pairwise.nil
  | succ r ih =>
    rw [allH_succ]
    refine List.pairwise_append.2 ⟨ih, ?_, fun a ha b hb => ?_⟩
    · unfold hitsD
      rw [List.pairwise_map]
      refine (List.pairwise_lt_range).imp ?_
      intro a b hab
      exact .inr ⟨rfl, hab⟩
    · have h1 := (mem_allH ds r a).1 ha
      unfold hitsD at hb
      obtain ⟨j, _, rfl⟩ := List.mem_map.1 hb
      exact .inl h1.1
theorem lex_hitL (ds : List (List Nat)) (P : List Nat) : (hitL ds P).Pairwise (fun p q => p.1 < q.1 ∨ p.1 = q.1 ∧ p.2 < q.2) := by
  unfold hitL foundL
  exact (lex_allH ds _).sublist List.filter_sublist
theorem hitL_nodup (ds : List (List Nat)) (P : List Nat) : (hitL ds P).Nodup := (lex_hitL ds P).imp (fun h e => by subst e; omega)
theorem got_perm (ds : List (List Nat)) (P : List Nat) (lo hi : Nat) (h : IsB ds P lo hi) : (hitL ds P).Perm (gotR ds lo hi) :=
  (List.perm_ext_iff_of_nodup (hitL_nodup ds P) (gotR_nodup ds lo hi)).2 fun p => (mem_hitL ds P p).trans (mem_gotR ds P lo hi h p).symm
/-- bounds of all places -/
def SmallD (ds : List (List Nat)) : Prop := ∀ p, validH ds p → p.1 < 65536 ∧ p.2 < 65536
theorem sorted_hits (ds : List (List Nat)) (P : List Nat) (lo hi : Nat) (h : IsB ds P lo hi) (hs : SmallD ds) :
    (((gotR ds lo hi).map toB).toArray.toList.mergeSort fun x y => !(ltH y x)).toArray = ((hitL ds P).map toB).toArray := by
  refine congrArg List.toArray (Sort.sorted_unique_holds ltH_swo ltH_one ((gotR ds lo hi).map toB).toArray ((hitL ds P).map toB).toArray ⟨?_, ?_, ?_⟩ ?_).symm
  · simp [(got_perm ds P lo hi h).length_eq]
  · intro i hi2
    have e := (got_perm ds P lo hi h).length_eq
    have h1 : ¬ i < ((gotR ds lo hi).map toB).toArray.size := by omega
    have h2 : ¬ i < ((hitL ds P).map toB).toArray.size := by simp at h1 ⊢; omega
    have hd : ∀ A : Array B2, ¬ i < A.size → A[i]! = default := fun A h => getElem!_neg A i h
    rw [hd _ h1, hd _ h2]
  · have e := (got_perm ds P lo hi h).length_eq
    rw [Array.extract_size, show ((gotR ds lo hi).map toB).toArray.size = ((hitL ds P).map toB).toArray.size by simp [e], Array.extract_size]
    exact (got_perm ds P lo hi h).map toB
  · intro i j _ hij hj
    have e := (got_perm ds P lo hi h).length_eq
    have hjl : j < (hitL ds P).length := by simp at hj; omega
    have hil : i < (hitL ds P).length := by omega
    have e1 : ((hitL ds P).map toB).toArray[i]! = toB (hitL ds P)[i] := by rw [getElem!_pos _ i (by simp; omega)]; simp
    have e2 : ((hitL ds P).map toB).toArray[j]! = toB (hitL ds P)[j] := by rw [getElem!_pos _ j (by simp; omega)]; simp
    rw [e1, e2, ltH_no]
    have hp := List.pairwise_iff_getElem.1 (lex_hitL ds P) i j hil hjl hij
    have b1 := hs _ ((mem_hitL ds P _).1 (List.getElem_mem hil)).1
    have b2 := hs _ ((mem_hitL ds P _).1 (List.getElem_mem hjl)).1
    have o1 := ofB_toB _ b1
    have o2 := ofB_toB _ b2
    generalize (hitL ds P)[i] = x at *
    generalize (hitL ds P)[j] = y at *
    have p1 : (toB x).1.val = x.1 := congrArg Prod.fst o1
    have p2 : (toB x).2.val = x.2 := congrArg Prod.snd o1
    have p3 : (toB y).1.val = y.1 := congrArg Prod.fst o2
    have p4 : (toB y).2.val = y.2 := congrArg Prod.snd o2
    omega
theorem hitL_len (ds : List (List Nat)) (P : List Nat) (lo hi : Nat) (h : IsB ds P lo hi) : (hitL ds P).length = hi - lo := by
  rw [(got_perm ds P lo hi h).length_eq, gotR_len ds lo hi h.len]
end Go.Proofs.YtjpoebmjfedecaaGreat
