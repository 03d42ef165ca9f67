/-
  Rows of the call's own, cell by cell: turned into a row that is read and back; a stretch laid; a copy between rows of whatever size of element.
-/
import Derived.Test.YtoifmfdaghmleaaAppendRow
import Derived.Laws.IdiomCopy
import Derived.Lib.SliceRun
namespace Go.Proofs.Ytoifmfdaghmleaa
open Go.RowKit

theorem row_setCells {b : Nat} {t : TypeId} {n : Nat} : ∀ (vs : List Value) (o : Nat) (w : World) (f : Nat → Value), w.rowIs b t n f → (w.setCells b o vs).rowIs b t n (fun j => if o ≤ j ∧ j < o + vs.length then vs.getD (j - o) undef else f j)
  | [], o, w, f, h => h.congr (fun j _ => by rw [if_neg (by simp)])
  | v :: r, o, w, f, h => by
    have ih := row_setCells r (o + 1) _ _ (h.set o v)
    refine ih.congr (fun j _ => ?_)
    by_cases h1 : j = o
    · subst h1
      rw [if_neg (by omega), if_pos rfl, if_pos (by simp), Nat.sub_self]
      rfl
    · by_cases h2 : o + 1 ≤ j ∧ j < o + 1 + r.length
      · rw [if_pos h2, if_pos (by simp; omega), show j - o = (j - (o + 1)) + 1 by omega, List.getD_cons_succ]
      · rw [if_neg h2, if_neg h1, if_neg (by simp; omega)]
theorem gb_setCells {a : World} (g : Nat) : ∀ (vs : List Value) (o : Nat) (w : World), a.grownBy w (some g) → a.grownBy (w.setCells g o vs) (some g)
  | [], _, _, h => h
  | v :: r, o, w, h => gb_setCells g r (o + 1) _ (gb_set h o v)
theorem owns_some {w : World} {base : Nat} {e : TypeId} {size n cap g : Nat} {xs : List Value} (h : w.ownsRow base e size (.slice (some ⟨g, 0, none⟩) n cap) n xs) : base ≤ g ∧ n ≤ cap ∧ cap ≤ maxLen ∧ ∃ f, w.rowIs g e (cap * size) f ∧ ∀ j, j < n * size → f j = xs.getD j undef := by
  obtain ⟨hl, ⟨hv, _⟩ | ⟨g', cap', cur, hv, hb, hh, hn, hc, hs, ht⟩⟩ := h
  · cases hv
  · injection hv with h1 h2 h3
    injection h1 with h1
    injection h1 with h1
    subst h1
    subst h3
    refine ⟨hb, hn, hc, fun j => cur.toList.getD j undef, ⟨cur, hh, hs, fun i hi => ?_⟩, fun j hj => ?_⟩
    · show cur[i]? = some (cur.toList.getD i undef)
      rw [List.getD_eq_getElem?_getD, Array.getElem?_toList, Array.getElem?_eq_getElem (by omega)]; rfl
    · show cur.toList.getD j undef = _
      rw [← ht, List.getD_eq_getElem?_getD, List.getD_eq_getElem?_getD, List.getElem?_take_of_lt hj]
theorem owns_of {w : World} {base : Nat} {e : TypeId} {size n cap g : Nat} {f : Nat → Value} {xs : List Value} (hr : w.rowIs g e (cap * size) f) (hb : base ≤ g) (hn : n ≤ cap) (hc : cap ≤ maxLen) (hx : xs.length = n * size) (hf : ∀ j, j < n * size → f j = xs.getD j undef) :
    w.ownsRow base e size (.slice (some ⟨g, 0, none⟩) n cap) n xs := by
  obtain ⟨c, h1, h2, h3⟩ := hr
  have hle : n * size ≤ cap * size := Nat.mul_le_mul_right _ hn
  refine ⟨hx, .inr ⟨g, cap, c, rfl, hb, h1, hn, hc, h2, ?_⟩⟩
  apply List.ext_getElem?
  intro j
  rcases Nat.lt_or_ge j (n * size) with h | h
  · rw [List.getElem?_take_of_lt h, Array.getElem?_toList, h3 j (by omega), hf j h, List.getD_eq_getElem?_getD, List.getElem?_eq_getElem (by omega)]
    rfl
  · rw [List.getElem?_eq_none (by rw [List.length_take]; omega), List.getElem?_eq_none (by omega)]
theorem getD_app {α : Type} (a b : List α) (j : Nat) (d : α) : (a ++ b).getD j d = if j < a.length then a.getD j d else b.getD (j - a.length) d := by
  rw [List.getD_eq_getElem?_getD, List.getD_eq_getElem?_getD, List.getD_eq_getElem?_getD]
  split
  · rename_i h; rw [List.getElem?_append_left h]
  · rename_i h; rw [List.getElem?_append_right (by omega)]
theorem getD_take {α : Type} (a : List α) (k j : Nat) (d : α) (h : j < k) : (a.take k).getD j d = a.getD j d := by
  rw [List.getD_eq_getElem?_getD, List.getD_eq_getElem?_getD, List.getElem?_take_of_lt h]
theorem getD_drop {α : Type} (a : List α) (k j : Nat) (d : α) : (a.drop k).getD j d = a.getD (k + j) d := by
  rw [List.getD_eq_getElem?_getD, List.getD_eq_getElem?_getD, List.getElem?_drop]
/-- one element let in, where there is room -/
theorem owns_shift {w : World} {base : Nat} {e : TypeId} {size n cap g i : Nat} {xs ys : List Value} (h : w.ownsRow base e size (.slice (some ⟨g, 0, none⟩) n cap) n xs) (hi : i ≤ n) (hc : n + 1 ≤ cap) (hy : ys.length = size) :
    ((w.drew.setCells g ((i + 1) * size) (xs.drop (i * size))).setCells g (i * size) ys).ownsRow base e size (.slice (some ⟨g, 0, none⟩) (n + 1) cap) (n + 1) (xs.take (i * size) ++ ys ++ xs.drop (i * size)) := by
  obtain ⟨hb, hn, hm, f, hr, hf⟩ := owns_some h
  have hl := h.1
  have e1 : (i + 1) * size = i * size + size := Nat.succ_mul i size
  have e2 : (n + 1) * size = n * size + size := Nat.succ_mul n size
  have e3 : i * size ≤ n * size := Nat.mul_le_mul_right _ hi
  have hr2 : (w.drew).rowIs g e (cap * size) f := hr
  have lt : (xs.take (i * size)).length = i * size := by rw [List.length_take]; omega
  refine owns_of (row_setCells ys _ _ _ (row_setCells (xs.drop (i * size)) _ _ _ hr2)) hb hc hm (by simp; omega) (fun j hj => ?_)
  rw [getD_app, getD_app, List.length_append, lt, hy, List.length_drop, e1]
  by_cases h1 : j < i * size
  · rw [if_neg (by omega), if_neg (by omega), if_pos (by omega), if_pos (by omega), getD_take _ _ _ _ h1, hf j (by omega)]
  · by_cases h2 : j < i * size + size
    · rw [if_pos (by omega), if_pos (by omega), if_neg (by omega)]
    · rw [if_neg (by omega), if_pos (by omega), if_neg (by omega)]
/-- one element let in, in a new row -/
theorem owns_new {w : World} {base : Nat} {e : TypeId} {size n cap G i : Nat} {xs ys z1 z2 : List Value} {ROW : Array Value} (hR : ROW = ((xs.take (i * size)) ++ z1 ++ z2).toArray) (hs : ROW.size = cap * size) (hx : xs.length = n * size) (hi : i ≤ n) (hc : n + 1 ≤ cap) (hm : cap ≤ maxLen) (hy : ys.length = size) (hb : base ≤ w.heap.size) (hG : G = w.heap.size) :
    ((((w.alloc (.cells ROW e)).drew.setCells G (i * size) ys).drew).setCells G ((i + 1) * size) (xs.drop (i * size))).ownsRow base e size (.slice (some ⟨G, 0, none⟩) (n + 1) cap) (n + 1) (xs.take (i * size) ++ ys ++ xs.drop (i * size)) := by
  subst hG
  have hr : ((w.alloc (.cells ROW e)).drew).rowIs w.heap.size e (cap * size) (fun j => ROW.toList.getD j undef) := ⟨ROW, heap_alloc_new w _, hs, fun i hi => by
    show ROW[i]? = some (ROW.toList.getD i undef)
    rw [List.getD_eq_getElem?_getD, Array.getElem?_toList, Array.getElem?_eq_getElem (by omega)]; rfl⟩
  have e1 : (i + 1) * size = i * size + size := Nat.succ_mul i size
  have e2 : (n + 1) * size = n * size + size := Nat.succ_mul n size
  have e3 : i * size ≤ n * size := Nat.mul_le_mul_right _ hi
  have lt : (xs.take (i * size)).length = i * size := by rw [List.length_take]; omega
  have hr2 := row_drewN (row_setCells ys (i * size) _ _ hr) 1
  refine owns_of (row_setCells (xs.drop (i * size)) _ _ _ hr2) hb hc hm (by simp; omega) (fun j hj => ?_)
  rw [getD_app, getD_app, List.length_append, lt, hy, List.length_drop, e1]
  by_cases h1 : j < i * size
  · rw [if_neg (by omega), if_neg (by omega), if_pos (by omega), if_pos (by omega), hR]
    simp only [List.append_assoc]
    rw [getD_app, if_pos (by rw [lt]; exact h1)]
  · by_cases h2 : j < i * size + size
    · rw [if_neg (by omega), if_pos (by omega), if_pos (by omega), if_neg (by omega)]
    · rw [if_pos (by omega), if_neg (by omega)]
/-- copy(d, s), of whatever size of element: all is read before anything is written -/
theorem run_copy_k {P : Program} (w : World) (dT sT ty elem : TypeId) (size : Nat) (b o dLen dCap : Nat) (a : Addr) (sLen sCap : Nat) (cs : List Value)
    (hu : P.underlying dT = some (.slice elem)) (hs : (P.info? elem).map (·.size) = some size) (hn : cs.length = Nat.min sLen dLen * size)
    (hsrc : ∀ j v, cs[j]? = some v → w.cell? (a.add j) = some v) (hc : ∀ j, j < cs.length → (w.cell? ⟨b, o + j, none⟩).isSome = true) (hf : ∀ j, j < cs.length → w.frozen? ⟨b, o + j, none⟩ = false) (h1 : ∀ v ∈ cs, v.oneCell' = true) :
    (Builtin.copy_ #[dT, sT] ty #[.slice (some ⟨b, o, none⟩) dLen dCap, .slice (some a) sLen sCap]).run P w = .ok (goInt (Nat.min sLen dLen)) (w.setCells b o cs) := by
  have hl := run_loadCells_list (P := P) w a cs hsrc
  have hst := run_storeCells_cells (P := P) b o cs 0 w (by simpa using hc) (by simpa using hf) h1
  cases hq : P.info? elem with
  | none => simp [hq] at hs
  | some i =>
    have hi : i.size = size := by simpa [hq] using hs
    simp [Builtin.copy_, run_underlying hu, Builtin.lenOf, Builtin.firstCells, sizeOf, typeInfo, hq, hi, ← hn, hl, hst]
end Go.Proofs.Ytoifmfdaghmleaa
