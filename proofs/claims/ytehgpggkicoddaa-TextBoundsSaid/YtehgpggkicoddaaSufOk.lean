/-
  suffix.Inverse and suffix.Ok at an order that is right.
-/
import Derived.Test.YtehgpggkicoddaaSufLaw
namespace Go.Proofs.Ytehgpggkicoddaa
open Go.RowKit

theorem info_bool : (Try.prog.info? 4).map (fun i => (i.zero, i.size, i.bytes)) = some (some (.bool false), 1, 1) := by kernel_rfl
/-- where places stand, behind i of them -/
def invK (sa : List Nat) (i p : Nat) : Nat := if p ∈ sa.take i then sa.idxOf p else 0
def seenK (sa : List Nat) (i p : Nat) : Bool := decide (p ∈ sa.take i)
theorem invK_zero (sa : List Nat) (p : Nat) : invK sa 0 p = 0 := by unfold invK; simp
theorem seenK_zero (sa : List Nat) (p : Nat) : seenK sa 0 p = false := by unfold seenK; simp
theorem seenK_at (sa : List Nat) (hn : sa.Nodup) (i : Nat) (hi : i < sa.length) : seenK sa i (sa.getD i 0) = false := by
  unfold seenK
  rw [decide_eq_false_iff_not]
  intro h
  obtain ⟨j, hj, e⟩ := List.getElem_of_mem h
  rw [List.length_take] at hj
  have h1 : sa[j]? = some (sa.getD i 0) := by
    rw [List.getElem_take] at e
    rw [List.getElem?_eq_getElem (by omega), e]
  have h2 : sa[i]? = some (sa.getD i 0) := by rw [List.getD_eq_getElem?_getD, List.getElem?_eq_getElem hi]; rfl
  have := nodup_getElem? hn h1 h2
  omega
theorem mem_take_succ (sa : List Nat) (i p : Nat) (hi : i < sa.length) : p ∈ sa.take (i + 1) ↔ p ∈ sa.take i ∨ p = sa.getD i 0 := by
  rw [take_succ_getD sa i hi, List.mem_append, List.mem_singleton]
theorem invK_succ (sa : List Nat) (hn : sa.Nodup) (i : Nat) (hi : i < sa.length) (p : Nat) : invK sa (i + 1) p = if p = sa.getD i 0 then i else invK sa i p := by
  unfold invK
  by_cases e : p = sa.getD i 0
  · rw [if_pos e, if_pos ((mem_take_succ sa i p hi).2 (.inr e)), e, idxOf_getD hn i hi]
  · rw [if_neg e]
    by_cases h : p ∈ sa.take i
    · rw [if_pos h, if_pos ((mem_take_succ sa i p hi).2 (.inl h))]
    · rw [if_neg h, if_neg (fun h2 => ((mem_take_succ sa i p hi).1 h2).elim h e)]
theorem seenK_succ (sa : List Nat) (i : Nat) (hi : i < sa.length) (p : Nat) : seenK sa (i + 1) p = if p = sa.getD i 0 then true else seenK sa i p := by
  unfold seenK
  by_cases e : p = sa.getD i 0
  · rw [if_pos e, decide_eq_true ((mem_take_succ sa i p hi).2 (.inr e))]
  · rw [if_neg e, decide_eq_decide, mem_take_succ sa i p hi]
    exact ⟨fun h => h.elim id (fun h => (e h).elim), .inl⟩
theorem invK_all (sa : List Nat) (p : Nat) (h : p ∈ sa) : invK sa sa.length p = sa.idxOf p := by unfold invK; rw [List.take_length, if_pos h]
attribute [irreducible] invK seenK
def InvPost (w : World) (n : Nat) (sa : List Nat) (e : Ending) (w' : World) : Prop :=
  ∃ a cap, e = .returned (.tuple #[.slice a n cap, .bool true]) ∧ Row w' a n (fun p => .int .i64 ((sa.idxOf p : Nat) : Int)) ∧ Below w.heap.size w w'
/-- neighbours of a right order -/
theorem order_next (ds : List (List Nat)) (sa : List Nat) (h : IsSA (ordS ds) (rowOf ds).length sa) (i : Nat) (hi : i + 1 < sa.length) :
    symP (rowOf ds) ds.length (sa.getD i 0) ≤ symP (rowOf ds) ds.length (sa.getD (i + 1) 0) ∧
    (symP (rowOf ds) ds.length (sa.getD i 0) = symP (rowOf ds) ds.length (sa.getD (i + 1) 0) → sa.getD i 0 + 1 < (rowOf ds).length ∧ sa.getD (i + 1) 0 + 1 < (rowOf ds).length ∧ sa.idxOf (sa.getD i 0 + 1) ≤ sa.idxOf (sa.getD (i + 1) 0 + 1)) := by
  have hp := pair_at h.ord (show i < i + 1 by omega) hi
  have hpm := (h.mem _).1 (getD_mem (show i < sa.length by omega))
  have hqm := (h.mem _).1 (getD_mem hi)
  generalize sa.getD i 0 = p at *
  generalize sa.getD (i + 1) 0 = q at *
  have hs : ∀ x, x < (rowOf ds).length → ordS ds x = (symP (rowOf ds) ds.length x : Int) := fun x hx => by unfold ordS symS; rw [if_pos hx]
  have hp0 := hp
  rw [ltS_step, hs p hpm, hs q hqm] at hp
  rcases hp with c | ⟨c, hlt⟩
  · exact ⟨by omega, fun e => by omega⟩
  · refine ⟨by omega, fun _ => ?_⟩
    have hsn := symN_row ds
    have hne : p ≠ q := fun e => by subst e; exact ltS_asymm hp0 hp0
    have hp1 : p + 1 < (rowOf ds).length := by
      rcases Nat.lt_or_ge (p + 1) (rowOf ds).length with g | g
      · exact g
      · exfalso
        have e1 : p = (rowOf ds).length - 1 := by omega
        have := hsn.last q hqm (by omega)
        rw [← e1] at this
        apply this
        show ordS ds q = ordS ds p
        rw [hs q hqm, hs p hpm, c]
    have hq1 : q + 1 < (rowOf ds).length := by
      rcases Nat.lt_or_ge (q + 1) (rowOf ds).length with g | g
      · exact g
      · exfalso
        have e1 : q = (rowOf ds).length - 1 := by omega
        have := hsn.last p hpm (by omega)
        rw [← e1] at this
        apply this
        show ordS ds p = ordS ds q
        rw [hs q hqm, hs p hpm, c]
    refine ⟨hp1, hq1, ?_⟩
    obtain ⟨i1, i2⟩ := idxOf_at ((h.mem (p + 1)).2 hp1)
    obtain ⟨j1, j2⟩ := idxOf_at ((h.mem (q + 1)).2 hq1)
    rcases Nat.lt_or_ge (sa.idxOf (q + 1)) (sa.idxOf (p + 1)) with g | g
    · exfalso
      have := pair_at h.ord g i1
      rw [i2, j2] at this
      exact ltS_asymm this hlt
    · exact g
end Go.Proofs.Ytehgpggkicoddaa
