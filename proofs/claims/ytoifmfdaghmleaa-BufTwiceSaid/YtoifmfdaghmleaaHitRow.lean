/-
  Rows of two-cell structs (hits): read, cut, appended to.
-/
import Derived.Test.YtoifmfdaghmleaaAppendRow
namespace Go.Proofs.Ytoifmfdaghmleaa.Tx
open Go.RowKit

def hitVs (l : List (Nat × Nat)) : List Value := l.flatMap fun p => [.int .i64 (p.1 : Int), .int .i64 (p.2 : Int)]
theorem hitVs_cons (p : Nat × Nat) (l : List (Nat × Nat)) : hitVs (p :: l) = .int .i64 (p.1 : Int) :: .int .i64 (p.2 : Int) :: hitVs l := rfl
theorem hitVs_nil : hitVs [] = [] := rfl
theorem hitVs_append (a b : List (Nat × Nat)) : hitVs (a ++ b) = hitVs a ++ hitVs b := by unfold hitVs; exact List.flatMap_append
theorem hitVs_len (l : List (Nat × Nat)) : (hitVs l).length = l.length * 2 := by
  induction l with
  | nil => rfl
  | cons p l ih => rw [hitVs_cons, List.length_cons, List.length_cons, ih, List.length_cons]; omega
theorem hitVs_at (l : List (Nat × Nat)) : ∀ k, k < l.length → (hitVs l)[2 * k]? = some (.int .i64 ((l.getD k (0, 0)).1 : Int)) ∧ (hitVs l)[2 * k + 1]? = some (.int .i64 ((l.getD k (0, 0)).2 : Int)) := by
  induction l with
  | nil => intro k hk; simp at hk
  | cons p l ih =>
    intro k hk
    rw [hitVs_cons]
    cases k with
    | zero => exact ⟨rfl, rfl⟩
    | succ k =>
      have h := ih k (by simpa using hk)
      rw [show 2 * (k + 1) = 2 * k + 1 + 1 by omega]
      simpa using h
theorem hitVs_drop (l : List (Nat × Nat)) : ∀ k, (hitVs l).drop (2 * k) = hitVs (l.drop k) := by
  induction l with
  | nil => intro k; simp [hitVs]
  | cons p l ih =>
    intro k
    cases k with
    | zero => rfl
    | succ k => rw [hitVs_cons, show 2 * (k + 1) = 2 * k + 1 + 1 by omega, List.drop_succ_cons, List.drop_succ_cons, ih k, List.drop_succ_cons]
theorem hitVs_one (l : List (Nat × Nat)) : ∀ u ∈ hitVs l, u.oneCell' = true := by
  intro u hu
  obtain ⟨p, _, hp⟩ := List.mem_flatMap.1 hu
  simp at hp
  rcases hp with rfl | rfl <;> rfl
structure HRow (w : World) (a : Option Addr) (l : List (Nat × Nat)) : Prop where
  row : Row w a (2 * l.length) (fun j => (hitVs l).getD j undef)
theorem HRow.kept {w w' : World} {a : Option Addr} {l : List (Nat × Nat)} (h : HRow w a l) (hb : Below w.heap.size w w') : HRow w' a l := ⟨h.row.kept hb⟩
theorem HRow.drewN {w : World} {a : Option Addr} {l : List (Nat × Nat)} (h : HRow w a l) (k : Nat) : HRow (w.drewN k) a l := ⟨h.row.drewN k⟩
theorem HRow.drew {w : World} {a : Option Addr} {l : List (Nat × Nat)} (h : HRow w a l) : HRow w.drew a l := ⟨h.row.drew⟩
theorem HRow.nil (w : World) (a : Option Addr) : HRow w a [] := ⟨Row.nil _ _ _⟩
theorem HRow.c0 {w : World} {a : Option Addr} {l : List (Nat × Nat)} (h : HRow w a l) (k : Nat) (hk : k < l.length) : w.cell? ⟨bOf a, oOf a + 2 * k, none⟩ = some (.int .i64 ((l.getD k (0, 0)).1 : Int)) := by
  rw [h.row.cell (2 * k) (by omega), List.getD_eq_getElem?_getD, (hitVs_at l k hk).1]; rfl
theorem HRow.c1 {w : World} {a : Option Addr} {l : List (Nat × Nat)} (h : HRow w a l) (k : Nat) (hk : k < l.length) : w.cell? ⟨bOf a, oOf a + 2 * k + 1, none⟩ = some (.int .i64 ((l.getD k (0, 0)).2 : Int)) := by
  have := h.row.cell (2 * k + 1) (by omega)
  rw [← Nat.add_assoc] at this
  rw [this, List.getD_eq_getElem?_getD, (hitVs_at l k hk).2]; rfl
theorem HRow.at_ {w : World} {a : Option Addr} {l : List (Nat × Nat)} (h : HRow w a l) : l.length = 0 ∨ a = some ⟨bOf a, oOf a, none⟩ := by
  rcases h.row.at_ with e | e
  · exact .inl (by omega)
  · exact .inr e
theorem HRow.take {w : World} {a : Option Addr} {l : List (Nat × Nat)} (h : HRow w a l) (m : Nat) : HRow w a (l.take m) := by
  refine ⟨?_⟩
  have e : hitVs l = hitVs (l.take m) ++ hitVs (l.drop m) := by rw [← hitVs_append, List.take_append_drop]
  refine (h.row.take (m := 2 * (l.take m).length) (by rw [List.length_take]; omega)).congr fun k hk => ?_
  rw [e, List.getD_eq_getElem?_getD, List.getElem?_append_left (by rw [hitVs_len]; omega), List.getD_eq_getElem?_getD]
/-- where a row goes on behind k elements -/
def cutA (a : Option Addr) (cap k : Nat) : Option Addr := if cap = k then a else a.map (·.add (k * 2))
theorem HRow.drop {w : World} {a : Option Addr} {l : List (Nat × Nat)} (h : HRow w a l) (cap k : Nat) (hc : l.length ≤ cap) (hk : k ≤ l.length) : HRow w (cutA a cap k) (l.drop k) := by
  refine ⟨?_⟩
  by_cases e : cap = k
  · have : l.drop k = [] := List.drop_of_length_le (by omega)
    rw [this]; exact Row.nil _ _ _
  · unfold cutA
    rw [if_neg e]
    rcases h.row.at_ with e0 | e0
    · have : l.drop k = [] := List.drop_of_length_le (by omega)
      rw [this]; exact Row.nil _ _ _
    · have e1 : a.map (·.add (k * 2)) = some ⟨bOf a, oOf a + k * 2, none⟩ := by
        conv => lhs; rw [e0]
        simp [Addr.add]
      rw [e1]
      refine ⟨.inr rfl, fun j hj => ?_⟩
      rw [List.length_drop] at hj
      have := h.row.cell (2 * k + j) (by omega)
      show w.cell? ⟨bOf a, oOf a + k * 2 + j, none⟩ = _
      rw [show oOf a + k * 2 + j = oOf a + (2 * k + j) by omega, this, ← hitVs_drop]
      rw [List.getD_eq_getElem?_getD, List.getD_eq_getElem?_getD, List.getElem?_drop]
theorem run_ix2 {P : Program} (t : TypeId) (hu : P.underlying t = some (.slice (P.elem t))) (hsz : ∀ w, (sizeOf (P.elem t)).run P w = .ok 2 w) (a : Option Addr) (n cap : Nat) (h : n = 0 ∨ a = some ⟨bOf a, oOf a, none⟩) :
    ∀ (w : World) (k : Nat), k < n → (Instr.indexAt t (.slice a n cap) (.int .i64 (k : Int))).run P w = .ok (.pointer (some ⟨bOf a, oOf a + 2 * k, none⟩)) w := by
  intro w k hk
  rcases h with e | e
  · omega
  · rw [e, run_indexAt_slice _ _ _ _ _ _ _ hu, if_pos (by omega), hsz]
    simp [bOf, oOf, Addr.add, Nat.mul_comm]
theorem hrow_of_owns {w : World} {base : Nat} {e : TypeId} {v : Value} {l : List (Nat × Nat)} {n : Nat} (h : w.ownsRow base e 2 v n (hitVs l)) (hn : n = l.length) :
    ∃ a cap, v = .slice a l.length cap ∧ l.length ≤ cap ∧ HRow w a l ∧ (l.length = 0 ∨ base ≤ bOf a) := by
  subst hn
  obtain ⟨hl, h⟩ := h
  rcases h with ⟨rfl, h0⟩ | ⟨g, cap, cur, rfl, hb, hh, hn, hc, hs, ht⟩
  · have : l = [] := List.eq_nil_of_length_eq_zero h0
    subst this
    exact ⟨none, 0, rfl, Nat.le_refl _, HRow.nil _ _, .inl rfl⟩
  · refine ⟨some ⟨g, 0, none⟩, cap, rfl, hn, ⟨.inr rfl, fun k hk => ?_⟩, .inr hb⟩
    have hx : (hitVs l)[k]? = cur[k]? := by rw [← ht, List.getElem?_take_of_lt (by omega)]; simp
    have hc1 : k < cur.size := by omega
    simp only [bOf, oOf, Option.map_some, Option.getD_some, Nat.zero_add]
    rw [cell_of_row w g k cur e (0, 0) hh, List.getD_eq_getElem?_getD, hx, Array.getElem?_eq_getElem hc1]; rfl
theorem run_append_hits {P : Program} (w : World) (base : Nat) (t ty e : TypeId) (i : TypeInfo) (z : Value) (bytes : Nat) (ht : P.underlying t = some (.slice e)) (hi : P.info? e = some i) (hz : i.zero = some z)
    (hsize : i.size = 2) (hby : i.bytes = bytes) (hzs : z.cells.size = 2) (v : Value) (n : Nat) (xs : List Value) (hown : w.ownsRow base e 2 v n xs)
    (A : Option Addr) (c : Nat) (l : List (Nat × Nat)) (hr : HRow w A l) (h63 : n + l.length ≤ maxLen) (hbytes : (n + l.length) * bytes ≤ 140737488355328) (hbase : base ≤ w.heap.size) :
    ∃ v' w', (Builtin.append_ #[t, t] ty #[v, .slice A l.length c]).run P w = .ok v' w' ∧ w'.ownsRow base e 2 v' (n + l.length) (xs ++ hitVs l) ∧ w.grownBy w' v.ownBlock ∧ (v'.ownBlock = v.ownBlock ∨ v'.ownBlock = some w.heap.size) := by
  cases A with
  | none =>
    have hm : l.length = 0 := by rcases hr.at_ with h | h; · exact h
                                 · cases h
    have : l = [] := List.eq_nil_of_length_eq_zero hm
    subst this
    refine ⟨v, w, ?_, by simpa [hitVs] using hown, gb_refl _ _, .inl rfl⟩
    rcases hown.2 with ⟨rfl, rfl⟩ | ⟨g, cap, cur, rfl, _, _, hnc, _⟩
    · simp [Builtin.append_, run_underlying ht, sizeOf, typeInfo, hi, Builtin.lenOf, Builtin.firstCells]
    · simp [Builtin.append_, run_underlying ht, sizeOf, typeInfo, hi, Builtin.lenOf, Builtin.firstCells, hnc, storeCells]
  | some ad =>
    obtain ⟨v', w', hrun, h2, h3, _, h5⟩ := run_append_own_at (P := P) w base t ty e i z 2 bytes ht hi hz hsize hby hzs (by omega) v n xs hown ad l.length c (hitVs l) (hitVs_len l)
      (fun j u hu => by
        have hj : j < 2 * l.length := by
          rcases Nat.lt_or_ge j (2 * l.length) with h | h
          · exact h
          · rw [List.getElem?_eq_none (by rw [hitVs_len]; omega)] at hu; cases hu
        rcases hr.at_ with h | h
        · omega
        · have hc := hr.row.cell j hj
          rw [List.getD_eq_getElem?_getD, hu] at hc
          have h' : ad = ⟨bOf (some ad), oOf (some ad), none⟩ := by injection h
          have e : ad.add j = ⟨bOf (some ad), oOf (some ad) + j, none⟩ := by
            conv => lhs; rw [h']
            exact Addr.add_lit _ _ _
          rw [e]
          exact hc)
      (hitVs_one l) h63 hbytes hbase
    exact ⟨v', w', hrun, h2, h3, h5⟩
attribute [irreducible] hitVs cutA
end Go.Proofs.Ytoifmfdaghmleaa.Tx
