/-
  Rows that begin with a text and a byte more.
-/
import Derived.Test.YtckmabdphdcpmaaRangeMath
namespace Go.Proofs.Ytckmabdphdcpmaa

theorem cmpL_append : ∀ (P T Q : List Nat), cmpL T (P ++ Q) = if cmpL T P = 0 then cmpL (T.drop P.length) Q else cmpL T P
  | [], T, Q => by rw [cmpL_nil, if_pos rfl]; rfl
  | b :: P, [], Q => by rw [List.cons_append, cmpL_end, cmpL_end, if_neg (by omega)]
  | b :: P, a :: T, Q => by
    rw [List.cons_append, cmpL_cons, cmpL_cons]
    by_cases e : a = b
    · rw [if_pos e, if_pos e, cmpL_append P T Q]; rfl
    · rw [if_neg e, if_neg e, if_neg (by omega)]
theorem cmpL_one_nil (c : Nat) : cmpL [] [c] = -(c : Int) - 1 := rfl
theorem cmpL_one_cons (a c : Nat) (U : List Nat) : cmpL (a :: U) [c] = if a = c then 0 else (a : Int) - c := by rw [cmpL_cons, cmpL_nil]
theorem cmpL_one_next (U : List Nat) (c : Nat) : cmpL U [c] ≤ 0 ↔ cmpL U [c + 1] < 0 := by
  cases U with
  | nil => rw [cmpL_one_nil, cmpL_one_nil]; omega
  | cons a U =>
    rw [cmpL_one_cons, cmpL_one_cons]
    by_cases e : a = c
    · rw [if_pos e, if_neg (by omega)]; omega
    · rw [if_neg e]
      by_cases g : a = c + 1
      · rw [if_pos g]; omega
      · rw [if_neg g]; omega
theorem nest_next (T P : List Nat) (c : Nat) : cmpL T (P ++ [c]) ≤ 0 ↔ cmpL T (P ++ [c + 1]) < 0 := by
  rw [cmpL_append, cmpL_append]
  by_cases e : cmpL T P = 0
  · rw [if_pos e, if_pos e]; exact cmpL_one_next _ c
  · rw [if_neg e, if_neg e]; omega
theorem nest_in (T P : List Nat) (c : Nat) (h : cmpL T (P ++ [c]) ≤ 0) : cmpL T P ≤ 0 := by
  rw [cmpL_append] at h
  by_cases e : cmpL T P = 0
  · omega
  · rw [if_neg e] at h; omega
theorem nest_first (T P : List Nat) (h : cmpL T P = 0) : cmpL T (P ++ [0]) < 0 ↔ T.length = P.length := by
  rw [cmpL_append, if_pos h]
  have hz := (cmpL_zero P T).1 h
  have hl : P.length ≤ T.length := by have := congrArg List.length hz; rw [List.length_take] at this; omega
  cases e : T.drop P.length with
  | nil =>
    rw [cmpL_one_nil]
    have := congrArg List.length e
    rw [List.length_drop] at this
    simp at this
    exact ⟨fun _ => by omega, fun _ => by omega⟩
  | cons a U =>
    rw [cmpL_one_cons]
    have := congrArg List.length e
    rw [List.length_drop, List.length_cons] at this
    constructor
    · intro h
      by_cases g : a = 0
      · rw [if_pos g] at h; omega
      · rw [if_neg g] at h; omega
    · intro h; omega
theorem nest_last (T P : List Nat) (hb : ∀ c ∈ T, c < 256) : cmpL T (P ++ [255]) ≤ 0 ↔ cmpL T P ≤ 0 := by
  constructor
  · exact nest_in T P 255
  · intro h
    rw [cmpL_append]
    by_cases e : cmpL T P = 0
    · rw [if_pos e]
      cases g : T.drop P.length with
      | nil => rw [cmpL_one_nil]; omega
      | cons a U =>
        have : a < 256 := hb a (List.mem_of_mem_drop (by rw [g]; simp))
        rw [cmpL_one_cons]
        by_cases g2 : a = 255
        · rw [if_pos g2]; omega
        · rw [if_neg g2]; omega
    · rw [if_neg e]; exact h
theorem same_cut {n a b : Nat} (ha : a ≤ n) (hb : b ≤ n) (h : ∀ i, i < n → (i < a ↔ i < b)) : a = b := by
  rcases Nat.lt_trichotomy a b with c | c | c
  · have := (h a (by omega)).2 c; omega
  · exact c
  · have := (h b (by omega)).1 c; omega
theorem RangeP.one {ds : List (List Nat)} {P : List Nat} {lo hi lo' hi' : Nat} (h : RangeP ds P lo hi) (g : RangeP ds P lo' hi') : lo = lo' ∧ hi = hi' := by
  refine ⟨same_cut (n := (rowsR ds).length) (Nat.le_trans h.le h.len) (Nat.le_trans g.le g.len) (fun i hi => (h.low i hi).symm.trans (g.low i hi)), same_cut (n := (rowsR ds).length) h.len g.len (fun i hi => (h.high i hi).symm.trans (g.high i hi))⟩
theorem nest_step {ds : List (List Nat)} {P : List Nat} {c lo hi lo' hi' : Nat} (h : RangeP ds (P ++ [c]) lo hi) (g : RangeP ds (P ++ [c + 1]) lo' hi') : hi = lo' :=
  same_cut (n := (rowsR ds).length) h.len (Nat.le_trans g.le g.len) (fun i hi => (h.high i hi).symm.trans ((nest_next _ P c).trans (g.low i hi)))
theorem nest_le {ds : List (List Nat)} {P : List Nat} {c lo hi lo' hi' : Nat} (h : RangeP ds P lo hi) (g : RangeP ds (P ++ [c]) lo' hi') : hi' ≤ hi := by
  rcases Nat.lt_or_ge hi hi' with k | k
  · have h1 := g.len
    have h2 := (g.high hi (by omega)).2 k
    have h3 := (h.high hi (by omega)).1 (nest_in _ P c h2)
    omega
  · exact k
theorem nest_end {ds : List (List Nat)} (hby : ∀ d ∈ ds, ∀ c ∈ d, c < 256) {P : List Nat} {lo hi lo' hi' : Nat} (h : RangeP ds P lo hi) (g : RangeP ds (P ++ [255]) lo' hi') : hi' = hi :=
  same_cut (n := (rowsR ds).length) g.len h.len (fun i hi => (g.high i hi).symm.trans ((nest_last _ P (fun c hc => hby _ (by
    have hv := rows_at ds i hi
    rw [List.getD_eq_getElem?_getD, List.getElem?_eq_getElem hv.1]; exact List.getElem_mem _) c (List.mem_of_mem_drop hc))).trans (h.high i hi)))
/-- the first rows of those that begin with a text are the text itself -/
theorem nest_mid {ds : List (List Nat)} {P : List Nat} {lo hi lo' hi' : Nat} (h : RangeP ds P lo hi) (g : RangeP ds (P ++ [0]) lo' hi') : lo ≤ lo' ∧ lo' ≤ hi ∧ ∀ i, lo ≤ i → i < hi → ((textAt ds ((rowsR ds).getD i (0, 0))).length = P.length ↔ i < lo') := by
  have hl := h.len
  refine ⟨?_, Nat.le_trans g.le (nest_le h g), fun i h1 h2 => ?_⟩
  · rcases Nat.lt_or_ge lo' lo with k | k
    · have h3 := h.le
      have h1 := (h.low lo' (by omega)).2 k
      have h2 : cmpR ds (P ++ [0]) lo' < 0 := by
        unfold cmpR at *
        rw [cmpL_append, if_neg (by omega)]; exact h1
      have := (g.low lo' (by omega)).1 h2
      omega
    · exact k
  · have c0 : cmpR ds P i = 0 := by
      have a := (h.high i (by omega)).2 h2
      have b : ¬ cmpR ds P i < 0 := fun q => by have := (h.low i (by omega)).1 q; omega
      omega
    rw [← g.low i (by omega)]
    exact (nest_first _ P c0).symm
end Go.Proofs.Ytckmabdphdcpmaa
