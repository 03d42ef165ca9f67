/-
  Plain laws of commands: numerals of at most nine digits, and the pieces of a line.
-/
import Derived.Test.YtdcobmoeligdkaaGreatDoorCommon
import Derived.Lib.AtoiTie
import Derived.Lib.ItoaNum
import Derived.Lib.ItoaLen
namespace Go.Proofs.YtdcobmoeligdkaaGreatDoor
open Go.RowKit

theorem dec_small {u : Nat} (h : u < 10) : Lib.decDigits u = [UInt8.ofNat (48 + u)] := by rw [Lib.decDigits, dif_pos h]
theorem dec_big {u : Nat} (h : ¬ u < 10) : Lib.decDigits u = Lib.decDigits (u / 10) ++ [UInt8.ofNat (48 + u % 10)] := by rw [Lib.decDigits, dif_neg h]
theorem ofNat_digit {d : Nat} (h : d < 10) : (UInt8.ofNat (48 + d)).toNat = 48 + d := by
  rw [UInt8.toNat_ofNat']; exact Nat.mod_eq_of_lt (by omega)
theorem dec_digits (u : Nat) : ∀ b ∈ Lib.decDigits u, 48 ≤ b.toNat ∧ b.toNat ≤ 57 := by
  induction u using Nat.strongRecOn with
  | _ u ih =>
    intro b hb
    by_cases h : u < 10
    · rw [dec_small h, List.mem_singleton] at hb
      rw [hb, ofNat_digit h]; omega
    · rw [dec_big h, List.mem_append, List.mem_singleton] at hb
      rcases hb with hb | hb
      · exact ih (u / 10) (by omega) b hb
      · rw [hb, ofNat_digit (Nat.mod_lt _ (by omega))]; omega
theorem dec_len (u : Nat) : (Lib.decDigits u).length = Lib.nDigits u := by rw [Lib.decDigits_eq]; simp
theorem dec_ne (u : Nat) : Lib.decDigits u ≠ [] := fun h => by have := dec_len u; rw [h] at this; have := Lib.nDigits_pos u; simp at *; omega
theorem dec_len9 {u : Nat} (h : u < 1000000000) : (Lib.decDigits u).length ≤ 9 := by
  rw [dec_len]
  rcases Nat.lt_or_ge (Lib.nDigits u) 10 with h' | h'
  · omega
  · exfalso
    have : ∀ k u : Nat, 10 ^ k > u → 1 ≤ k → Lib.nDigits u ≤ k := by
      intro k
      induction k with
      | zero => intro u _ h; omega
      | succ k ih =>
        intro u hu _
        by_cases h : u < 10
        · rw [Lib.nDigits_small h]; omega
        · rw [Lib.nDigits_big h]
          rw [Nat.pow_succ] at hu
          have hk : 1 ≤ k := by
            rcases Nat.eq_zero_or_pos k with e | e
            · subst e; simp at hu; omega
            · exact e
          have := ih (u / 10) (by omega) hk
          omega
    have := this 9 u (by omega) (by omega)
    omega
theorem dec_lt9 {u : Nat} (h : (Lib.decDigits u).length ≤ 9) : u < 1000000000 := by
  rw [dec_len] at h
  have h1 := Lib.lt_pow_nDigits u
  have h2 : 10 ^ Lib.nDigits u ≤ 10 ^ 9 := Nat.pow_le_pow_right (by omega) h
  omega
theorem digitVal_of {b : UInt8} (h : 48 ≤ b.toNat ∧ b.toNat ≤ 57) : Lib.digitVal b = some (b.toNat - 48) := if_pos h
theorem decFrom_snoc (l : List UInt8) (b : UInt8) : ∀ (acc n : Nat), Lib.decFrom acc l = some n → (48 ≤ b.toNat ∧ b.toNat ≤ 57) → Lib.decFrom acc (l ++ [b]) = some (n * 10 + (b.toNat - 48)) := by
  induction l with
  | nil =>
    intro acc n h hb
    simp only [Lib.decFrom, Option.some.injEq] at h
    subst h
    simp [Lib.decFrom, digitVal_of hb]
  | cons a t ih =>
    intro acc n h hb
    simp only [Lib.decFrom, List.cons_append] at h ⊢
    cases ha : Lib.digitVal a with
    | none => simp [ha] at h
    | some e => simp only [ha] at h ⊢; exact ih _ _ h hb
theorem decFrom_dec (u : Nat) : Lib.decFrom 0 (Lib.decDigits u) = some u := by
  induction u using Nat.strongRecOn with
  | _ u ih =>
    by_cases h : u < 10
    · rw [dec_small h]
      have hd := ofNat_digit h
      have := decFrom_snoc [] (UInt8.ofNat (48 + u)) 0 0 rfl (by omega)
      rw [List.nil_append] at this
      rw [this, hd]; congr 1; omega
    · have hd := ofNat_digit (Nat.mod_lt u (show 10 > 0 by omega))
      rw [dec_big h, decFrom_snoc _ _ 0 (u / 10) (ih (u / 10) (by omega)) (by omega), hd]
      congr 1; omega
/-- the numeral of at most nine digits, as cmd reads it -/
def numR (l : List UInt8) : Option Nat :=
  match Lib.atoiAll l with
  | .ok v => if 0 ≤ v ∧ l.length ≤ 9 ∧ Lib.itoa v = l then some v.toNat else none
  | _ => none
theorem numR_dec {n : Nat} (h : n < 1000000000) : numR (Lib.decDigits n) = some n := by
  have hl := dec_len9 h
  have hd := dec_digits n
  have hf := decFrom_dec n
  have h1 : Lib.atoiAll (Lib.decDigits n) = .ok (n : Int) := by
    rw [Lib.atoiAll_short _ (by omega)]
    have hne := dec_ne n
    cases hc : Lib.decDigits n with
    | nil => exact absurd hc hne
    | cons c r =>
      have hc' := hd c (by rw [hc]; simp)
      have e1 : (c == 45) = false := by
        rw [beq_eq_false_iff_ne]; intro e; rw [e] at hc'; exact absurd hc'.1 (by decide)
      have e2 : (c == 43) = false := by
        rw [beq_eq_false_iff_ne]; intro e; rw [e] at hc'; exact absurd hc'.1 (by decide)
      have : Lib.decNat (c :: r) = some n := by rw [← hc]; unfold Lib.decNat; rw [hc]; rw [← hc]; simpa [hc] using hf
      simp [Lib.atoi, e1, e2, this, Lib.NumEnd.ofOption]
  unfold numR
  rw [h1]
  simp only
  rw [if_pos]
  · simp
  · refine ⟨by omega, hl, ?_⟩
    unfold Lib.itoa
    rw [if_neg (by omega)]; simp
theorem numR_some {l : List UInt8} {n : Nat} (h : numR l = some n) : n < 1000000000 ∧ l = Lib.decDigits n := by
  unfold numR at h
  split at h
  · rename_i v hv
    split at h
    · rename_i hc
      obtain ⟨h0, h1, h2⟩ := hc
      have hn := Option.some.inj h
      have h3 : l = Lib.decDigits n := by
        rw [← h2, ← hn]; unfold Lib.itoa; rw [if_neg (by omega)]
      refine ⟨dec_lt9 (by rw [← h3]; exact h1), h3⟩
    · cases h
  · cases h
theorem numR_dig {l : List UInt8} {n : Nat} (h : numR l = some n) : ∀ b ∈ l, 48 ≤ b.toNat ∧ b.toNat ≤ 57 := by
  rw [(numR_some h).2]; exact dec_digits n
theorem numR_nil : numR [] = none := by
  cases h : numR [] with
  | none => rfl
  | some n => exact absurd (numR_some h).2.symm (dec_ne n)
theorem numR_bad {l : List UInt8} {b : UInt8} (hb : b ∈ l) (h : ¬ (48 ≤ b.toNat ∧ b.toNat ≤ 57)) : numR l = none := by
  cases h' : numR l with
  | none => rfl
  | some n => exact absurd (numR_dig h' b hb) h
theorem numR_long {l : List UInt8} (h : 10 ≤ l.length) : numR l = none := by
  cases h' : numR l with
  | none => rfl
  | some n => have h1 := numR_some h'; have := dec_len9 h1.1; rw [← h1.2] at this; omega
theorem dec_head0 (u : Nat) : ∀ b r, Lib.decDigits u = b :: r → b.toNat = 48 → u = 0 := by
  induction u using Nat.strongRecOn with
  | _ u ih =>
    intro b r hc hb
    by_cases h : u < 10
    · rw [dec_small h] at hc
      rw [← (List.cons.inj hc).1, ofNat_digit h] at hb
      omega
    · rw [dec_big h] at hc
      cases hd : Lib.decDigits (u / 10) with
      | nil => exact absurd hd (dec_ne _)
      | cons c t =>
        rw [hd, List.cons_append] at hc
        have := ih (u / 10) (by omega) c t hd (by rw [(List.cons.inj hc).1]; exact hb)
        omega
theorem numR_zero {r : List UInt8} (hr : r ≠ []) : numR (48 :: r) = none := by
  cases h' : numR (48 :: r) with
  | none => rfl
  | some n =>
    have h1 := numR_some h'
    have h2 := dec_head0 n 48 r h1.2.symm rfl
    rw [h2, dec_small (by omega)] at h1
    exact absurd (List.cons.inj h1.2).2 hr
end Go.Proofs.YtdcobmoeligdkaaGreatDoor
