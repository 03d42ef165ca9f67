/-
  A map whose keys are pointers to blocks of cells, and whose elements are all true: a set of blocks.
-/
import Derived.Test.YtelndbjjkhlacaaCommon
import Derived.LaidEqlPtr
import Derived.MapKept
import Derived.Maps.OwnSet
namespace Go.Proofs.Ytelndbjjkhlacaa
open Go.RowKit Go.MapKept

abbrev ptrB (x : Nat) : Value := .pointer (some ⟨x, 0, none⟩)
/-- a block of cells, none of them frozen -/
def CellB (w : World) (x : Nat) : Prop := ∃ c t, w.heap[x]? = some (.cells c t (0, 0))
section
variable {P : Program} {kt el : TypeId} {j : TypeInfo}
theorem ptr_equal (w : World) (hk : P.underlying kt = some (.pointer el)) (he : P.info? el = some j) (hs : j.size ≠ 0) {x y : Nat} (hx : CellB w x) (hy : CellB w y) :
    (Op.equal kt (ptrB x) (ptrB y)).run P w = .ok (decide (x = y)) w := by
  by_cases h : x = y
  · subst h
    have h9 : ∀ d : Nat, (Op.equalIn (d + 1) kt (ptrB x) (ptrB x)).run P w = .ok true w := fun d => by
      simp [Op.equalIn, run_underlying hk, sizeOf, typeInfo, he, run_sameAddr_same]
    simp [Op.equal, Op.maxDepth, h9 9999]
  · obtain ⟨cx, tx, hx⟩ := hx
    obtain ⟨cy, ty, hy⟩ := hy
    have hne : (⟨x, 0, none⟩ : Addr) ≠ ⟨y, 0, none⟩ := fun e => h (by injection e)
    have h9 : ∀ d : Nat, (Op.equalIn (d + 1) kt (ptrB x) (ptrB y)).run P w = .ok false w := fun d => by
      simp [Op.equalIn, run_underlying hk, sizeOf, typeInfo, he, hs, run_sameAddr_other w hne hx hy]
    simp [Op.equal, Op.maxDepth, h9 9999, h]
theorem ptr_asking (w : World) (hk : P.underlying kt = some (.pointer el)) (he : P.info? el = some j) (hs : j.size ≠ 0) {x : Nat} (hx : CellB w x) : ∀ (es : List MapEntry) (l : List Nat) (i : Nat), es.map (·.key) = l.map ptrB → (∀ y ∈ l, CellB w y) → (∀ e ∈ es, e.val = .bool true) →
    ∃ r, (Instr.findAsking kt (ptrB x) es i).run P w = .ok r w ∧ ((x ∉ l ∧ r = none) ∨ (x ∈ l ∧ ∃ q e, r = some (i + q, .bool true) ∧ es[q]? = some e ∧ e.key = ptrB x))
  | [], [], i, _, _, _ => ⟨none, by simp [Instr.findAsking], .inl ⟨by simp, rfl⟩⟩
  | [], y :: l, i, h, _, _ => by simp at h
  | e :: es, [], i, h, _, _ => by simp at h
  | e :: es, y :: l, i, h, hl, hv => by
    simp only [List.map_cons, List.cons.injEq] at h
    obtain ⟨h1, h2⟩ := h
    have heq := ptr_equal w hk he hs hx (hl y (.head _))
    by_cases hxy : x = y
    · subst hxy
      refine ⟨some (i, .bool true), ?_, .inr ⟨by simp, 0, e, rfl, rfl, h1⟩⟩
      simp [Instr.findAsking, h1, heq, Result.andThen, hv e (.head _)]
    · obtain ⟨r, hr, hc⟩ := ptr_asking w hk he hs hx es l (i + 1) h2 (fun z hz => hl z (.tail _ hz)) (fun z hz => hv z (.tail _ hz))
      refine ⟨r, ?_, ?_⟩
      · simp [Instr.findAsking, h1, heq, hxy, Result.andThen, hr]
      · rcases hc with ⟨h3, h4⟩ | ⟨h3, q, h4⟩
        · exact .inl ⟨by simp [hxy, h3], h4⟩
        · obtain ⟨e', h4, h5, h6⟩ := h4
          exact .inr ⟨by simp [h3], q + 1, e', by rw [h4]; simp; omega, by simpa using h5, h6⟩
theorem ptr_find (w : World) (hk : P.underlying kt = some (.pointer el)) (he : P.info? el = some j) (hs : j.size ≠ 0) {x : Nat} (hx : CellB w x) (es : List MapEntry) (l : List Nat) (h : es.map (·.key) = l.map ptrB) (hl : ∀ y ∈ l, CellB w y) (hv : ∀ e ∈ es, e.val = .bool true) :
    ∃ r, (Instr.findKey kt (ptrB x) es).run P w = .ok r w ∧ ((x ∉ l ∧ r = none) ∨ (x ∈ l ∧ ∃ q e, r = some (q, .bool true) ∧ es[q]? = some e ∧ e.key = ptrB x)) := by
  cases es with
  | nil =>
    cases l with
    | nil => exact ⟨none, by simp [Instr.findKey, run_underlying hk, Instr.findNow, Result.andThen], .inl ⟨by simp, rfl⟩⟩
    | cons y l => simp at h
  | cons e es =>
    obtain ⟨r, hr, hc⟩ := ptr_asking w hk he hs hx (e :: es) l 0 h hl hv
    refine ⟨r, ?_, ?_⟩
    · have : Instr.findNow (.pointer el) (ptrB x) (e :: es) 0 = none := by simp [Instr.findNow, Instr.sameNow]
      simp [Instr.findKey, run_underlying hk, this, Result.andThen, hr]
    · rcases hc with h1 | ⟨h3, q, e', h4, h5, h6⟩
      · exact .inl h1
      · exact .inr ⟨h3, q, e', by rw [h4]; simp, h5, h6⟩
/-- block b is a map of these pointers, each true -/
structure PSet (w : World) (b : Nat) (l : List Nat) : Prop where
  map : ∃ es clock, w.heap[b]? = some (.map es clock) ∧ es.toList.map (·.key) = l.map ptrB ∧ ∀ e ∈ es.toList, e.val = .bool true
theorem PSet.lt {w : World} {b : Nat} {l : List Nat} (h : PSet w b l) : b < w.heap.size := by
  obtain ⟨es, clock, hb, _⟩ := h.map
  exact (Array.getElem?_eq_some_iff.1 hb).1
theorem PSet.made (w : World) : PSet (w.alloc (.map #[] 0)) w.heap.size [] := ⟨#[], 0, (MapKept.heap_alloc w _).1, rfl, by simp⟩
theorem PSet.of_block {w w' : World} {b : Nat} {l : List Nat} (h : PSet w b l) (hb : w'.heap[b]? = w.heap[b]?) : PSet w' b l := by
  obtain ⟨es, clock, h1, h2⟩ := h.map
  exact ⟨es, clock, hb.trans h1, h2⟩
theorem check_ptr (w : World) (hk : P.underlying kt = some (.pointer el)) (v : Value) (e : Bool) (n : Nat) : (Instr.checkKey e (n + 1) kt v).run P w = .ok () w := by
  unfold Instr.checkKey
  simp only [Sem.run_bind, run_underlying hk, Result.andThen]
  cases v <;> simp
theorem PSet.look {mt bt : TypeId} (w : World) (hm : P.underlying mt = some (.map kt bt)) (hk : P.underlying kt = some (.pointer el)) (he : P.info? el = some j) (hs : j.size ≠ 0) (hz : (zeroValue bt).run P w = .ok (.bool false) w) {b : Nat} {l : List Nat} (h : PSet w b l) (hl : ∀ y ∈ l, CellB w y) {x : Nat} (hx : CellB w x) :
    (Instr.lookup mt (.map (some b)) (ptrB x) false).run P w = .ok (.bool (decide (x ∈ l))) w := by
  obtain ⟨es, clock, hb, h2, h3⟩ := h.map
  obtain ⟨r, hr, hc⟩ := ptr_find w hk he hs hx es.toList l h2 hl h3
  have hck := check_ptr (P := P) w hk (ptrB x) es.isEmpty 9999
  rcases hc with ⟨h4, rfl⟩ | ⟨h4, q, e', rfl, _, _⟩
  · simp [Instr.lookup, run_underlying hm, MapKept.run_getObj_map hb, Result.andThen, hck, hr, hz, h4]
  · simp [Instr.lookup, run_underlying hm, MapKept.run_getObj_map hb, Result.andThen, hck, hr, h4]
theorem PSet.put {mt bt : TypeId} (w : World) (hm : P.underlying mt = some (.map kt bt)) (hk : P.underlying kt = some (.pointer el)) (he : P.info? el = some j) (hs : j.size ≠ 0) {b : Nat} {l : List Nat} (h : PSet w b l) (hl : ∀ y ∈ l, CellB w y) {x : Nat} (hx : CellB w x) :
    ∃ w', (Instr.mapUpdate mt (.map (some b)) (ptrB x) (.bool true)).run P w = .ok () w' ∧ PSet w' b (if x ∈ l then l else l ++ [x]) ∧ w.grownBy w' (some b) := by
  obtain ⟨es, clock, hb, h2, h3⟩ := h.map
  obtain ⟨r, hr, hc⟩ := ptr_find w hk he hs hx es.toList l h2 hl h3
  have hck := check_ptr (P := P) w hk (ptrB x) false 9999
  have hgrow : ∀ o, w.grownBy { w with heap := w.heap.setIfInBounds b o } (some b) := fun o => ⟨rfl, rfl, rfl, by simp, fun i _ hi => by
    have hne : b ≠ i := fun e => hi (by rw [e])
    show (w.heap.setIfInBounds b o)[i]? = _
    simp [hne]⟩
  rcases hc with ⟨h4, rfl⟩ | ⟨h4, q, e', rfl, hq, hk'⟩
  · refine ⟨_, by simp [Instr.mapUpdate, run_underlying hm, MapKept.run_getObj_map hb, Result.andThen, hck, hr, MapKept.run_setObj_map _ hb]; rfl, ⟨_, _, (heap_set hb).1, ?_, ?_⟩, hgrow _⟩
    · simp [h2, h4]
    · intro e he2
      simp at he2
      rcases he2 with he2 | rfl
      · exact h3 e (by simpa using he2)
      · rfl
  · have hq2 : es[q]? = some e' := by simpa using hq
    have hsb : Instr.sameBits 10000 (ptrB x) (ptrB x) = true := by
      show ((some (⟨x, 0, none⟩ : Addr)) == some ⟨x, 0, none⟩) = true
      simp
    refine ⟨_, by simp [Instr.mapUpdate, run_underlying hm, MapKept.run_getObj_map hb, Result.andThen, hck, hr, hq2, hk', Instr.keyThatStays, hsb, MapKept.run_setObj_map _ hb]; rfl, ⟨_, _, (heap_set hb).1, ?_, ?_⟩, hgrow _⟩
    · rw [if_pos h4, ← h2]
      exact modify_keys _ _ fun e he2 => by rw [hq2] at he2; cases he2; exact hk'.symm
    · intro e he2
      obtain ⟨k, hk2, e3⟩ := List.getElem_of_mem he2
      have h5 : (es.modify q fun e => { e with key := ptrB x, val := .bool true })[k]? = some e := by
        rw [← Array.getElem?_toList, List.getElem?_eq_getElem hk2, e3]
      rw [Array.getElem?_modify] at h5
      split at h5
      · cases h6 : es[k]? with
        | none => rw [h6] at h5; cases h5
        | some e4 => rw [h6] at h5; simp at h5; rw [← h5]
      · exact h3 e (Array.mem_toList_iff.2 (Array.mem_of_getElem? h5))
theorem ptr_asking_nil (w : World) (hk : P.underlying kt = some (.pointer el)) : ∀ (es : List MapEntry) (l : List Nat) (i : Nat), es.map (·.key) = l.map ptrB → (Instr.findAsking kt (.pointer none) es i).run P w = .ok none w
  | [], _, i, _ => by simp [Instr.findAsking]
  | e :: es, [], i, h => by simp at h
  | e :: es, y :: l, i, h => by
    simp only [List.map_cons, List.cons.injEq] at h
    obtain ⟨h1, h2⟩ := h
    have heq : ∀ d : Nat, (Op.equalIn (d + 1) kt (.pointer none) (ptrB y)).run P w = .ok false w := fun d => by
      simp [Op.equalIn, run_underlying hk, samePointer]
    simp [Instr.findAsking, h1, Op.equal, Op.maxDepth, heq 9999, Result.andThen, ptr_asking_nil w hk es l (i + 1) h2]
theorem PSet.look_nil {mt bt : TypeId} (w : World) (hm : P.underlying mt = some (.map kt bt)) (hk : P.underlying kt = some (.pointer el)) (hz : (zeroValue bt).run P w = .ok (.bool false) w) {b : Nat} {l : List Nat} (h : PSet w b l) :
    (Instr.lookup mt (.map (some b)) (.pointer none) false).run P w = .ok (.bool false) w := by
  obtain ⟨es, clock, hb, h2, h3⟩ := h.map
  have hck := check_ptr (P := P) w hk (.pointer none) es.isEmpty 9999
  have hf : (Instr.findKey kt (.pointer none) es.toList).run P w = .ok none w := by
    have ha := ptr_asking_nil w hk es.toList l 0 h2
    cases he : es.toList with
    | nil => simp [Instr.findKey, run_underlying hk, Instr.findNow, Result.andThen]
    | cons e rest =>
      rw [he] at ha
      have : Instr.findNow (.pointer el) (.pointer none) (e :: rest) 0 = none := by simp [Instr.findNow, Instr.sameNow]
      simp [Instr.findKey, run_underlying hk, this, Result.andThen, ha]
  simp [Instr.lookup, run_underlying hm, MapKept.run_getObj_map hb, Result.andThen, hck, hf, hz]
end
end Go.Proofs.Ytelndbjjkhlacaa
