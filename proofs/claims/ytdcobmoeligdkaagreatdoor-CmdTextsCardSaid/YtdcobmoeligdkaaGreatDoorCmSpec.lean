/-
  What commands are, plain: the pieces of a line, a text in quotes, a command of a line.
-/
import Derived.Test.YtdcobmoeligdkaaGreatDoorCmMath
import Derived.Shelf.Strings.Cut
import Derived.Shelf.Small.Strs
namespace Go.Proofs.YtdcobmoeligdkaaGreatDoor
open Go.RowKit

def uS (l : List UInt8) : ByteArray := ⟨l.toArray⟩
theorem uS_size (l : List UInt8) : (uS l).size = l.length := by simp [uS, ByteArray.size]
theorem uS_cut (l : List UInt8) (k m : Nat) : (uS l).extract k m = uS ((l.drop k).take (m - k)) := by
  unfold uS
  apply ByteArray.ext
  rw [ByteArray.data_extract]
  apply Array.ext'
  simp
theorem uS_drop (l : List UInt8) (k : Nat) : (uS l).extract k l.length = uS (l.drop k) := by
  rw [uS_cut]; congr 1
  exact List.take_of_length_le (by simp)
theorem uS_take (l : List UInt8) (k : Nat) : (uS l).extract 0 k = uS (l.take k) := by rw [uS_cut]; simp
theorem uS_list (l : List UInt8) : (uS l).data.toList = l := rfl
theorem uS_of (s : ByteArray) : uS s.data.toList = s := rfl
theorem uS_app (a b : List UInt8) : uS a ++ uS b = uS (a ++ b) := by
  apply ByteArray.ext
  simp [uS]
theorem uS_inj {a b : List UInt8} (h : uS a = uS b) : a = b := by
  have := congrArg (fun s : ByteArray => s.data.toList) h
  exact this
theorem uS_at (l : List UInt8) (k : Nat) (hk : k < l.length) : ∃ h : k < (uS l).size, ((uS l)[k]'h).toNat = (l[k]'hk).toNat := by
  refine ⟨by rw [uS_size]; exact hk, ?_⟩
  show ((uS l).data[k]'_).toNat = _
  simp [uS]

/-- a byte that is told as it is -/
def plainB (c : UInt8) : Bool := decide (32 ≤ c.toNat) && decide (c.toNat ≤ 126) && !decide (c.toNat = 34) && !decide (c.toNat = 92)
def hexL : List UInt8 := [48, 49, 50, 51, 52, 53, 54, 55, 56, 57, 97, 98, 99, 100, 101, 102]
def hexI (c : UInt8) : Int := Lib.indexByte hexL c
def hexB (x y : UInt8) : UInt8 := UInt8.ofNat (16 * (hexI x).toNat + (hexI y).toNat)
/-- what stands behind an opening quote: the bytes that it tells, and how many bytes that is -/
def unqR : List UInt8 → Option (List UInt8 × Nat)
  | [] => none
  | c :: r =>
    if c.toNat = 34 then some ([], 1)
    else if plainB c then (unqR r).map fun p => (c :: p.1, p.2 + 1)
    else if c.toNat ≠ 92 then none
    else match r with
      | x :: y :: t => if hexI x < 0 ∨ hexI y < 0 ∨ plainB (hexB x y) = true then none else (unqR t).map fun p => (hexB x y :: p.1, p.2 + 3)
      | _ => none
termination_by l => l.length
def unq : List UInt8 → Option (List UInt8 × Nat)
  | [] => none
  | c :: r => if c.toNat = 34 then (unqR r).map fun p => (p.1, p.2 + 1) else none
theorem unqR_nil : unqR [] = none := by rw [unqR]
/-- a pair of hexadecimal digits -/
def unqH : List UInt8 → Option (List UInt8 × Nat)
  | x :: y :: t => if hexI x < 0 ∨ hexI y < 0 ∨ plainB (hexB x y) = true then none else (unqR t).map fun p => (hexB x y :: p.1, p.2 + 3)
  | _ => none
theorem unqR_cons (c : UInt8) (r : List UInt8) : unqR (c :: r) = if c.toNat = 34 then some ([], 1) else if plainB c = true then (unqR r).map fun p => (c :: p.1, p.2 + 1) else if c.toNat ≠ 92 then none else unqH r := by
  rw [unqR.eq_def]
  rcases r with _ | ⟨x, _ | ⟨y, t⟩⟩ <;> rfl
theorem unqR_len : ∀ (n : Nat) (l : List UInt8), l.length = n → ∀ p, unqR l = some p → 1 ≤ p.2 ∧ p.2 ≤ l.length ∧ p.1.length + 1 ≤ p.2 := by
  intro n
  induction n using Nat.strongRecOn with
  | _ n ih =>
    intro l hl p hp
    cases l with
    | nil => rw [unqR_nil] at hp; cases hp
    | cons c r =>
      rw [unqR_cons] at hp
      by_cases h1 : c.toNat = 34
      · rw [if_pos h1] at hp; cases hp; simp
      rw [if_neg h1] at hp
      by_cases h2 : plainB c = true
      · rw [if_pos h2] at hp
        obtain ⟨q, hq, rfl⟩ := Option.map_eq_some_iff.1 hp
        have := ih r.length (by simp at hl; omega) r rfl q hq
        simp only [List.length_cons]; omega
      rw [if_neg h2] at hp
      by_cases h3 : c.toNat ≠ 92
      · rw [if_pos h3] at hp; cases hp
      rw [if_neg h3] at hp
      rcases r with _ | ⟨x, _ | ⟨y, t⟩⟩
      · cases hp
      · cases hp
      rw [unqH] at hp
      split at hp
      · cases hp
      obtain ⟨q, hq, rfl⟩ := Option.map_eq_some_iff.1 hp
      have := ih t.length (by simp at hl; omega) t rfl q hq
      simp only [List.length_cons]; omega
theorem unq_len {l : List UInt8} {p : List UInt8 × Nat} (h : unq l = some p) : 2 ≤ p.2 ∧ p.2 ≤ l.length ∧ p.1.length + 2 ≤ p.2 := by
  cases l with
  | nil => cases h
  | cons c r =>
    simp only [unq] at h
    split at h
    · obtain ⟨q, hq, rfl⟩ := Option.map_eq_some_iff.1 h
      have := unqR_len _ r rfl q hq
      simp only [List.length_cons]; omega
    · cases h

/-- where the first blank is; all, where there is none -/
def blank (l : List UInt8) : Nat := if Lib.indexByte l 32 < 0 then l.length else (Lib.indexByte l 32).toNat
def pieceLen (need : UInt8) (r : List UInt8) : Nat :=
  if need.toNat = 116 then ((unq r).map (·.2)).getD 0 else if need.toNat = 110 then blank r else r.length
def wordsL : List UInt8 → List UInt8 → List (UInt8 × List UInt8)
  | [], s => [(0, s)]
  | c :: cs, s => match s with
    | b :: r => if b.toNat = 32 then (c, r.take (pieceLen c r)) :: wordsL cs (r.drop (pieceLen c r)) else [(33, b :: r)]
    | [] => [(33, [])]

theorem wordsL_fst : ∀ (cs s : List UInt8), ((wordsL cs s).map (·.1)).countP (fun c => c.toNat == 110) ≤ cs.countP (fun c => c.toNat == 110)
  | [], s => by simp [wordsL]
  | c :: cs, [] => by simp [wordsL]
  | c :: cs, b :: r => by
    rw [wordsL]
    split
    · rw [List.map_cons, List.countP_cons, List.countP_cons]
      exact Nat.add_le_add_right (wordsL_fst cs (r.drop (pieceLen c r))) _
    · simp
end Go.Proofs.YtdcobmoeligdkaaGreatDoor
