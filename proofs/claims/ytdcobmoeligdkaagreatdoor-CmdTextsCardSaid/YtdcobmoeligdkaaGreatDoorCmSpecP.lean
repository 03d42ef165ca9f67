/-
  What commands are, plain: a command of a line, with its query.
-/
import Derived.Test.YtdcobmoeligdkaaGreatDoorCmQTold
namespace Go.Proofs.YtdcobmoeligdkaaGreatDoor
open Go.RowKit

/-- a command -/
structure PCmd where
  kind : Nat
  text : List UInt8
  n : Nat
  m : Nat
  k : Nat
  cnt : Nat
  q : QT := q0
def putN (st : PCmd) (v : Nat) : PCmd :=
  { st with n := if st.cnt = 0 then v else st.n, m := if st.cnt = 1 then v else st.m, k := if st.cnt = 2 then v else st.k, cnt := st.cnt + 1 }
def mostT (kind : Nat) : Nat := if kind = 1 then 2000 else 200
def putS (st : PCmd) (x : UInt8 × List UInt8) : Option PCmd :=
  if x.1.toNat = 116 then
    match unq x.2 with
    | some (b, _) => if b.length ≤ mostT st.kind then some { st with text := b } else none
    | none => none
  else if x.1.toNat = 110 then (numR x.2).map (putN st)
  else if x.1.toNat = 113 then (qpS x.2).map (fun q => { st with q := q })
  else if x.1.toNat ≠ 33 ∧ x.2 = [] then some st else none
def parseS (kind : Nat) (needs s : List UInt8) : Option PCmd := (wordsL needs s).foldlM putS { kind := kind, text := [], n := 0, m := 0, k := 0, cnt := 0 }
theorem putS_cnt {st st' : PCmd} {x : UInt8 × List UInt8} (h : putS st x = some st') : st'.cnt = st.cnt + (if x.1.toNat == 110 then 1 else 0) ∧ st'.kind = st.kind := by
  unfold putS at h
  split at h
  · rename_i h1
    split at h
    · split at h
      · cases h; simp [h1]
      · cases h
    · cases h
  · split at h
    · rename_i h2
      obtain ⟨v, _, rfl⟩ := Option.map_eq_some_iff.1 h
      simp [h2, putN]
    · rename_i h2
      split at h
      · obtain ⟨v, _, rfl⟩ := Option.map_eq_some_iff.1 h
        simp [h2]
      · split at h
        · cases h; simp [h2]
        · cases h
theorem foldS_cnt : ∀ (pre : List (UInt8 × List UInt8)) (st st' : PCmd), pre.foldlM putS st = some st' → st'.cnt = st.cnt + (pre.map (·.1)).countP (fun c => c.toNat == 110) ∧ st'.kind = st.kind
  | [], st, st', h => by cases h; simp
  | x :: r, st, st', h => by
    rw [List.foldlM_cons] at h
    obtain ⟨s1, h1, h2⟩ := Option.bind_eq_some_iff.1 h
    have a := putS_cnt h1
    have b := foldS_cnt r s1 st' h2
    rw [List.map_cons, List.countP_cons]
    refine ⟨by rw [b.1, a.1]; omega, b.2.trans a.2⟩
end Go.Proofs.YtdcobmoeligdkaaGreatDoor
