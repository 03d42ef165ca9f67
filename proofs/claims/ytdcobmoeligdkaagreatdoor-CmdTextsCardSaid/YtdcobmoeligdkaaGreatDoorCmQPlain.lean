/-
  query.read, plain: the query that a text begins with.
-/
import Derived.Test.YtdcobmoeligdkaaGreatDoorCmQTree
namespace Go.Proofs.YtdcobmoeligdkaaGreatDoor
open Go.RowKit Go.Shelf

/-- the kind that a sign tells; 0: none -/
def sgnQ (c : UInt8) : Int := if c.toNat = 38 then 2 else if c.toNat = 124 then 3 else 0
/-- what stands behind an opening bracket: rounds left, the kind so far, the queries so far -/
def listF (rd : List UInt8 → Option (QT × List UInt8)) : Nat → Int → List QT → List UInt8 → Option (QT × List UInt8)
  | 0, _, _, _ => none
  | n + 1, k, acc, s => match rd s with
    | none => none
    | some (_, []) => none
    | some (x, c :: r) =>
      if c.toNat = 41 then (if k = 0 then none else some (.node k [] (acc ++ [x]), r))
      else if sgnQ c = 0 ∨ (k ≠ 0 ∧ k ≠ (sgnQ c)) then none
      else listF rd n (sgnQ c) (acc ++ [x]) r
/-- the query that a text begins with, and what is behind it; as deep as may be -/
def readF : Nat → List UInt8 → Option (QT × List UInt8)
  | 0, _ => none
  | _ + 1, [] => none
  | f + 1, c :: r =>
    if c.toNat = 33 then (readF f r).map fun p => (.node 4 [] [p.1], p.2)
    else if c.toNat = 40 then listF (readF f) 9 0 [] r
    else (unq (c :: r)).map fun p => (.node 1 p.1 [], (c :: r).drop p.2)
/-- the query of a text -/
def qparseL (s : List UInt8) : Option QT := match readF 8 s with
  | some (q, []) => if okQ q then some q else none
  | _ => none
theorem listF_succ (rd : List UInt8 → Option (QT × List UInt8)) (n : Nat) (k : Int) (acc : List QT) (s : List UInt8) (x : QT) (c : UInt8) (r : List UInt8) (h : rd s = some (x, c :: r)) :
    listF rd (n + 1) k acc s = if c.toNat = 41 then (if k = 0 then none else some (.node k [] (acc ++ [x]), r)) else if sgnQ c = 0 ∨ (k ≠ 0 ∧ k ≠ (sgnQ c)) then none
      else listF rd n (sgnQ c) (acc ++ [x]) r := by
  rw [listF, h]
theorem listF_none (rd : List UInt8 → Option (QT × List UInt8)) (n : Nat) (k : Int) (acc : List QT) (s : List UInt8) (h : rd s = none ∨ ∃ x, rd s = some (x, [])) : listF rd (n + 1) k acc s = none := by
  rw [listF]
  rcases h with h | ⟨x, h⟩ <;> rw [h]
theorem listF_len {rd : List UInt8 → Option (QT × List UInt8)} (hr : ∀ s p, rd s = some p → p.2.length < s.length) : ∀ (n : Nat) (k : Int) (acc : List QT) (s : List UInt8) (p : QT × List UInt8), listF rd n k acc s = some p → p.2.length < s.length := by
  intro n
  induction n with
  | zero => intro k acc s p h; cases h
  | succ n ih =>
    intro k acc s p h
    rcases hs : rd s with _ | ⟨x, _ | ⟨c, r⟩⟩
    · rw [listF_none rd n k acc s (.inl hs)] at h; cases h
    · rw [listF_none rd n k acc s (.inr ⟨x, hs⟩)] at h; cases h
    · have h1 := hr s _ hs
      simp only [List.length_cons] at h1
      rw [listF_succ rd n k acc s x c r hs] at h
      split at h
      · split at h
        · cases h
        · cases h; show r.length < s.length; omega
      · split at h
        · cases h
        · have := ih _ _ r p h
          omega
theorem readF_len : ∀ (f : Nat) (s : List UInt8) (p : QT × List UInt8), readF f s = some p → p.2.length < s.length := by
  intro f
  induction f with
  | zero => intro s p h; rw [readF] at h; cases h
  | succ f ih =>
    intro s p h
    cases s with
    | nil => rw [readF] at h; cases h
    | cons c r =>
      rw [readF] at h
      split at h
      · obtain ⟨q, hq, rfl⟩ := Option.map_eq_some_iff.1 h
        have := ih r q hq
        show q.2.length < (c :: r).length
        simp only [List.length_cons]; omega
      · split at h
        · have := listF_len ih _ _ _ _ _ h
          simp only [List.length_cons]; omega
        · obtain ⟨q, hq, rfl⟩ := Option.map_eq_some_iff.1 h
          have := unq_len hq
          show ((c :: r).drop q.2).length < (c :: r).length
          rw [List.length_drop]; omega
end Go.Proofs.YtdcobmoeligdkaaGreatDoor
