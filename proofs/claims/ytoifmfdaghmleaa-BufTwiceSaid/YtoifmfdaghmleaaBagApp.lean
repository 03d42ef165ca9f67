/-
  append(x, y...) as one step of a region that draws; what is cut off a row ahead.
-/
import Derived.Test.YtoifmfdaghmleaaBagTail
import Derived.Deep.RegionLaw
namespace Go.Proofs.Ytoifmfdaghmleaa
open Go.RowKit Go.Lib

theorem step_append_row {P : Program} {ops : Array Oper} {o : Oper} {a : Act} {w : World} {K : Act → World → Prop} {Q : Exit → Act → World → Prop} {E : Prop}
    (hg : o.guard = none) (s x : Operand) (t : TypeId) (hop : o.op = Op.call { callee := Callee.builtin Builtin.append, args := #[s, x], argTypes := #[t, t] })
    (w0 : World) (e : TypeId) (i : TypeInfo) (z : Value) (bytes : Nat) (ht : P.underlying t = some (.slice e)) (hi : P.info? e = some i) (hz : i.zero = some z) (hsize : i.size = 1) (hby : i.bytes = bytes) (hzs : z.cells.size = 1)
    (v : Value) (n : Nat) (xs : List Value) (hs : a.eval s = v) (hown : w.ownsRow w0.heap.size e 1 v n xs) (A : Option Addr) (m c : Nat) (f : Nat → Value) (hx : a.eval x = .slice A m c) (hr : Row w A m f) (h1 : ∀ k, k < m → (f k).oneCell' = true)
    (h63 : n + m ≤ maxLen) (hbytes : (n + m) * bytes ≤ 140737488355328) (hb0 : Below w0.heap.size w0 w)
    (hK : ∀ v' w', w'.ownsRow w0.heap.size e 1 v' (n + m) (xs ++ (List.range m).map f) → w.grownBy w' v.ownBlock → Below w0.heap.size w0 w' → K (a.put o.dst v') w') :
    if Region.wanted o (yielded ops a.tmps) = true then Oper.wp P o a w K Q else E := by
  have hw : Region.wanted o (yielded ops a.tmps) = true := by simp [Region.wanted, hg]
  rw [if_pos hw]
  obtain ⟨v', w', hrun, h2, h3, h4⟩ := run_append_row (P := P) w w0.heap.size t o.type e i z bytes ht hi hz hsize hby hzs v n xs hown A m c f hr h1 h63 hbytes hb0.size
  unfold Oper.wp
  simp [execOp, hop, resolve, invoke, builtin, hs, hx, hrun, Result.andThen]
  exact hK v' w' h2 h3 (hb0.grown h3 hb0.size (fun k hk => (hown.lt k hk).1))
theorem row_one_new (W : World) (v : Value) (t : TypeId) : Row (W.alloc (.cells #[v] t)) (some ⟨W.heap.size, 0, none⟩) 1 (fun _ => v) :=
  ⟨.inr rfl, fun k hk => by
    obtain rfl : k = 0 := by omega
    exact cell_of_row _ _ _ _ _ _ (World.alloc_heap_new W _)⟩
def tlk (o cap k : Nat) : Nat := if cap = k then o else o + k
theorem run_tailk {P : Program} (W : World) (t e : TypeId) (ht : P.underlying t = some (.slice e)) (hz : ∀ w, (Go.sizeOf e).run P w = .ok 1 w) (g o len cap k : Nat) (h : k ≤ len) (hc : len ≤ cap) :
    (Instr.slice t (.slice (some ⟨g, o, none⟩) len cap) (some (.int .i64 (k : Int))) none none).run P W = .ok (.slice (some ⟨g, tlk o cap k, none⟩) (len - k) (cap - k)) W := by
  have ht' : P.underlying t = some (.slice (P.elem t)) := by simp [Program.elem, ht]
  have he : P.elem t = e := by simp [Program.elem, ht]
  rw [run_slice_l W t _ _ _ ht' .i64 _ (by omega) (by omega), he, hz]
  unfold tlk
  by_cases h0 : cap = k
  · simp [Result.andThen, sliced, h0]
  · by_cases h1 : k = 0
    · subst h1; simp [Result.andThen, sliced, Addr.add, h0]
    · simp [Result.andThen, sliced, Addr.add, h0, h1]
theorem row_tailk {w : World} {g o n cap k : Nat} {f : Nat → Value} (h : Row w (some ⟨g, o, none⟩) n f) (hk : k ≤ n) (hn : n ≤ cap) : Row w (some ⟨g, tlk o cap k, none⟩) (n - k) (fun j => f (k + j)) :=
  ⟨.inr rfl, fun j hj => by
    have := h.cell (k + j) (by omega)
    simp only [bOf, oOf, Option.map_some, Option.getD_some] at this ⊢
    have e : tlk o cap k = o + k := by unfold tlk; rw [if_neg (by omega)]
    rw [e, Nat.add_assoc]; exact this⟩
/-- a slice that is read: nil, or at an address -/
structure SRow (w : World) (a : Option Addr) (n cap : Nat) (f : Nat → Value) : Prop where
  at_ : (a = none ∧ n = 0 ∧ cap = 0) ∨ ∃ g o, a = some ⟨g, o, none⟩
  le : n ≤ cap
  row : Row w a n f
theorem SRow.kept {w w' : World} {a : Option Addr} {n cap : Nat} {f : Nat → Value} (h : SRow w a n cap f) (hb : Below w.heap.size w w') : SRow w' a n cap f := ⟨h.at_, h.le, h.row.kept hb⟩
theorem SRow.drewN {w : World} {a : Option Addr} {n cap : Nat} {f : Nat → Value} (h : SRow w a n cap f) (q : Nat) : SRow (w.drewN q) a n cap f := ⟨h.at_, h.le, h.row.drewN q⟩
theorem SRow.nil (w : World) (f : Nat → Value) : SRow w none 0 0 f := ⟨.inl ⟨rfl, rfl, rfl⟩, Nat.le_refl _, Row.nil _ _ _⟩
theorem SRow.of_owns {w : World} {base : Nat} {e : TypeId} {v : Value} {n : Nat} {xs : List Value} (h : w.ownsRow base e 1 v n xs) : ∃ a cap, v = .slice a n cap ∧ SRow w a n cap (fun k => xs.getD k undef) := by
  obtain ⟨a, cap, rfl, hc, hr, _⟩ := Row.of_owns h
  refine ⟨a, cap, rfl, ?_, hc, hr⟩
  rcases owns_cases h with ⟨e, h0⟩ | ⟨g, c, e, _⟩
  · injection e with e1 e2 e3; exact .inl ⟨e1, e2, e3⟩
  · injection e with e1 e2 e3; exact .inr ⟨g, 0, e1⟩
section
variable (w : World) (fx : Value) (e : TypeId)
theorem ownA : ((((w.alloc (.cells #[fx] e)).alloc (.cells #[] e)).drew)).ownsRow w.heap.size e 1 (.slice (some ⟨w.heap.size + 1, 0, none⟩) 0 0) 0 [] := by
  have := owns_empty (w.alloc (.cells #[fx] e)) w.heap.size e (by simp)
  rw [World.size_alloc] at this; exact this
theorem ownB : ((((w.alloc (.cells #[] e)).alloc (.cells #[fx] e)).drew)).ownsRow w.heap.size e 1 (.slice (some ⟨w.heap.size, 0, none⟩) 0 0) 0 [] := World.ownsRow.alloc (owns_empty w w.heap.size e (Nat.le_refl _)) _
theorem ownC : ((w.alloc (.cells #[] e)).drew).ownsRow w.heap.size e 1 (.slice (some ⟨w.heap.size, 0, none⟩) 0 0) 0 [] := owns_empty w w.heap.size e (Nat.le_refl _)
theorem belA (o1 o2 : Obj) : Below w.heap.size w (((w.alloc o1).alloc o2).drew) := (((Below.refl _ w).alloc (Nat.le_refl _) _).alloc (by simp) _).drew
theorem belC (o1 : Obj) : Below w.heap.size w ((w.alloc o1).drew) := ((Below.refl _ w).alloc (Nat.le_refl _) _).drew
theorem rowA : Row (((w.alloc (.cells #[fx] e)).alloc (.cells #[] e)).drew) (some ⟨w.heap.size, 0, none⟩) 1 (fun _ => fx) := ((row_one_new w fx e).kept ((Below.refl _ _).alloc (Nat.le_refl _) _)).drew
theorem rowB : Row (((w.alloc (.cells #[] e)).alloc (.cells #[fx] e)).drew) (some ⟨w.heap.size + 1, 0, none⟩) 1 (fun _ => fx) := by
  have := (row_one_new (w.alloc (.cells #[] e)) fx e).drew
  rw [World.size_alloc] at this; exact this
end
def cutA1 (a : Option Addr) (cap k : Nat) : Option Addr := if cap = k then a else a.map (fun p => p.add k)
theorem run_cuth {P : Program} (W : World) (t e : TypeId) (ht : P.underlying t = some (.slice e)) (hz : ∀ w, (Go.sizeOf e).run P w = .ok 1 w) (a : Option Addr) (n cap k : Nat) (hk : k ≤ cap) (ha : (a = none ∧ n = 0 ∧ cap = 0) ∨ ∃ g o, a = some ⟨g, o, none⟩) :
    (Instr.slice t (.slice a n cap) none (some (.int .i64 (k : Int))) none).run P W = .ok (.slice a k cap) W := by
  have ht' : P.underlying t = some (.slice (P.elem t)) := by simp [Program.elem, ht]
  have he : P.elem t = e := by simp [Program.elem, ht]
  rw [run_slice_h W t _ _ _ ht' .i64 _ (by omega) (by omega), he, hz]
  rcases ha with ⟨rfl, rfl, rfl⟩ | ⟨g, o, rfl⟩
  · obtain rfl : k = 0 := by omega
    simp [Result.andThen, sliced]
  · by_cases h0 : cap = 0
    · simp [Result.andThen, sliced, h0]
    · simp [Result.andThen, sliced, Addr.add, h0]
theorem run_cutl {P : Program} (W : World) (t e : TypeId) (ht : P.underlying t = some (.slice e)) (hz : ∀ w, (Go.sizeOf e).run P w = .ok 1 w) (a : Option Addr) (n cap k : Nat) (hk : k ≤ n) :
    (Instr.slice t (.slice a n cap) (some (.int .i64 (k : Int))) none none).run P W = .ok (.slice (cutA1 a cap k) (n - k) (cap - k)) W := by
  have ht' : P.underlying t = some (.slice (P.elem t)) := by simp [Program.elem, ht]
  have he : P.elem t = e := by simp [Program.elem, ht]
  rw [run_slice_l W t _ _ _ ht' .i64 _ (by omega) (by omega), he, hz]
  unfold cutA1
  simp [Result.andThen, sliced]
theorem SRow.cutl {w : World} {a : Option Addr} {n cap : Nat} {f : Nat → Value} (h : SRow w a n cap f) {k : Nat} (hk : k ≤ n) : Row w (cutA1 a cap k) (n - k) (fun j => f (k + j)) := by
  rcases h.at_ with ⟨rfl, rfl, rfl⟩ | ⟨g, o, rfl⟩
  · simp; exact Row.nil _ _ _
  · have hle := h.le
    have := row_tailk h.row hk hle
    have e : cutA1 (some ⟨g, o, none⟩) cap k = some ⟨g, tlk o cap k, none⟩ := by
      unfold cutA1 tlk
      by_cases hc : cap = k
      · rw [if_pos hc, if_pos hc]
      · rw [if_neg hc, if_neg hc]; simp [Addr.add]
    rw [e]; exact this
end Go.Proofs.Ytoifmfdaghmleaa
