/-
  append onto a row of the call's own, from whatever source; as an equation on the operation's run.
-/
import Derived.Test.YtoifmfdaghmleaaCommon
namespace Go.Proofs.Ytoifmfdaghmleaa
open Go.RowKit

section
variable {P : Program} (w : World)

theorem run_append_nilsrc (base : Nat) (t ty e : TypeId) (i : TypeInfo) (ht : P.underlying t = some (.slice e)) (hi : P.info? e = some i)
    (v : Value) (n : Nat) (xs : List Value) (hown : w.ownsRow base e 1 v n xs) (c : Nat) : (Builtin.append_ #[t, t] ty #[v, .slice none 0 c]).run P w = .ok v w := by
  rcases hown.2 with ⟨rfl, rfl⟩ | ⟨g, cap, cur, rfl, _, _, hnc, _⟩
  · simp [Builtin.append_, run_underlying ht, sizeOf, typeInfo, hi, Builtin.lenOf, Builtin.firstCells]
  · simp [Builtin.append_, run_underlying ht, sizeOf, typeInfo, hi, Builtin.lenOf, Builtin.firstCells, hnc, storeCells]

/-- append(v, x...): v a row of the call's own, x whatever row is read -/
theorem run_append_row (base : Nat) (t ty e : TypeId) (i : TypeInfo) (z : Value) (bytes : Nat) (ht : P.underlying t = some (.slice e)) (hi : P.info? e = some i) (hz : i.zero = some z)
    (hsize : i.size = 1) (hby : i.bytes = bytes) (hzs : z.cells.size = 1)
    (v : Value) (n : Nat) (xs : List Value) (hown : w.ownsRow base e 1 v n xs)
    (A : Option Addr) (m c : Nat) (f : Nat → Value) (hr : Row w A m f) (h1 : ∀ k, k < m → (f k).oneCell' = true)
    (h63 : n + m ≤ maxLen) (hbytes : (n + m) * bytes ≤ 140737488355328) (hbase : base ≤ w.heap.size) :
    ∃ v' w', (Builtin.append_ #[t, t] ty #[v, .slice A m c]).run P w = .ok v' w' ∧ w'.ownsRow base e 1 v' (n + m) (xs ++ (List.range m).map f) ∧ w.grownBy w' v.ownBlock ∧
      (v'.ownBlock = v.ownBlock ∨ v'.ownBlock = some w.heap.size) := by
  cases A with
  | none =>
    have hm : m = 0 := by rcases hr.at_ with h | h; · exact h
                          · cases h
    subst hm
    refine ⟨v, w, run_append_nilsrc w base t ty e i ht hi v n xs hown c, by simpa using hown, gb_refl _ _, .inl rfl⟩
  | some ad =>
    obtain ⟨v', w', hrun, h2, h3, _, h5⟩ := run_append_own_at (P := P) w base t ty e i z 1 bytes ht hi hz hsize hby hzs (by omega) v n xs hown ad m c ((List.range m).map f) (by simp)
      (fun j u hu => by
        have hj : j < m := by
          rcases Nat.lt_or_ge j m with h | h
          · exact h
          · rw [List.getElem?_eq_none (by simpa using h)] at hu; cases hu
        rcases hr.at_ with h | h
        · omega
        · have hc := hr.cell j hj
          simp only [List.getElem?_map, List.getElem?_range hj, Option.map_some, Option.some.injEq] at hu
          subst hu
          have h' : ad = ⟨bOf (some ad), oOf (some ad), none⟩ := by injection h
          have e : ad.add j = ⟨bOf (some ad), oOf (some ad) + j, none⟩ := by
            conv => lhs; rw [h']
            exact Addr.add_lit _ _ _
          rw [e]
          exact hc)
      (fun u hu => by
        obtain ⟨k, hk, rfl⟩ := List.mem_map.1 hu
        exact h1 k (List.mem_range.1 hk)) h63 hbytes hbase
    exact ⟨v', w', hrun, h2, h3, h5⟩
end

/-- an append whose run is known, in a walk; the operation may be guarded -/
theorem wpList_append_run {P : Program} {w : World} {ops : Array Oper} {rest : List Oper} {o : Oper} {a : Act} {Q : Exit → Act → World → Prop} (hw : Region.wanted o (yielded ops a.tmps) = true) (s x : Operand) (t : TypeId)
    (ho : o.op = .call { callee := .builtin .append, args := #[s, x], argTypes := #[t, t] }) {v xv v' : Value} {w' : World} (hrun : (Builtin.append_ #[t, t] o.type #[v, xv]).run P w = .ok v' w')
    (hs : a.eval s = v) (hx : a.eval x = xv) (h : wpList P ops Q rest (a.put o.dst v') w') : wpList P ops Q (o :: rest) a w := by
  unfold wpList
  rw [if_pos hw]
  refine .inl ?_
  unfold Oper.wp execOp
  simp only [ho, resolve, invoke, builtin, Sem.run_bind, Sem.run_pure, Result.andThen_ok, List.map_toArray, List.map_cons, List.map_nil, hs, hx, hrun]
  exact h

theorem owns_below {w w' : World} {base n : Nat} {e : TypeId} {v : Value} {xs : List Value} (h : w.ownsRow base e 1 v n xs) (hb : Below w.heap.size w w') : w'.ownsRow base e 1 v n xs :=
  h.kept (gb_below hb none) (by cases hv : v.ownBlock <;> simp)
theorem owns_drewN {w : World} {base n : Nat} {e : TypeId} {v : Value} {xs : List Value} (h : w.ownsRow base e 1 v n xs) (k : Nat) : (w.drewN k).ownsRow base e 1 v n xs := h
theorem owns_lower {w : World} {base base' n : Nat} {e : TypeId} {v : Value} {xs : List Value} (h : w.ownsRow base e 1 v n xs) (hb : base' ≤ base) : w.ownsRow base' e 1 v n xs := by
  refine ⟨h.1, ?_⟩
  rcases h.2 with h2 | ⟨g, cap, cur, hv, hg, r⟩
  · exact .inl h2
  · exact .inr ⟨g, cap, cur, hv, Nat.le_trans hb hg, r⟩
theorem owns_row {w : World} {base n cap : Nat} {e : TypeId} {A : Option Addr} {xs : List Value} (h : w.ownsRow base e 1 (.slice A n cap) n xs) : Row w A n (fun k => xs.getD k undef) ∧ (n = 0 ∨ base ≤ bOf A) := by
  obtain ⟨a, cap', hv, _, hr, hlow, hA⟩ := Row.of_owns h
  cases hv
  exact ⟨hr, hlow⟩
/-- a store into a row of the call's own, by its slice -/
theorem owns_store {w : World} {base n cap : Nat} {e : TypeId} {A : Option Addr} {xs : List Value} (h : w.ownsRow base e 1 (.slice A n cap) n xs) (j : Nat) (hj : j < n) :
    w.cell? ⟨bOf A, oOf A + j, none⟩ = xs[j]? ∧ w.frozen? ⟨bOf A, oOf A + j, none⟩ = false ∧ (n = 0 ∨ A = some ⟨bOf A, oOf A, none⟩) ∧ base ≤ bOf A ∧
    ∀ u, (w.setCell ⟨bOf A, oOf A + j, none⟩ u).ownsRow base e 1 (.slice A n cap) n (xs.set j u) ∧ w.grownBy (w.setCell ⟨bOf A, oOf A + j, none⟩ u) (some (bOf A)) := by
  obtain ⟨a, cap', hv, _, hr, hlow, hA⟩ := Row.of_owns h
  injection hv with h1 h2 h3
  subst h1
  have hA' := hA (by omega)
  have ho : oOf A = 0 := by rw [hA']; rfl
  have hg := bOf A
  rw [ho, Nat.zero_add]
  generalize hgg : bOf A = g at *
  subst hA'
  exact ⟨h.cellAt j (by omega), h.frozenAt j, .inr rfl, by omega, fun u => h.stored j u⟩

/-- two slices of the call's own share no array -/
def Apart (u v : Value) : Prop := u.ownBlock = none ∨ v.ownBlock = none ∨ u.ownBlock ≠ v.ownBlock
theorem Apart.symm {u v : Value} (h : Apart u v) : Apart v u := by
  rcases h with h | h | h
  · exact .inr (.inl h)
  · exact .inl h
  · exact .inr (.inr (Ne.symm h))
theorem owns_two {W w1 : World} {base n : Nat} {e : TypeId} {u v v' : Value} {xs : List Value} {tmp : Obj} (hu : W.ownsRow base e 1 u n xs) (hap : Apart u v)
    (hgrow : (W.alloc tmp).grownBy w1 v.ownBlock) (hat : v'.ownBlock = v.ownBlock ∨ v'.ownBlock = some (W.alloc tmp).heap.size) : w1.ownsRow base e 1 u n xs ∧ Apart u v' := by
  refine ⟨(hu.alloc tmp).kept hgrow ?_, ?_⟩
  · rcases hap with h | h | h
    · exact .inl h
    · by_cases hn : u.ownBlock = none
      · exact .inl hn
      · exact .inr (by rw [h]; exact hn)
    · exact .inr h
  · rcases hat with h | h
    · unfold Apart; rw [h]; exact hap
    · cases hb : u.ownBlock with
      | none => exact .inl hb
      | some k =>
        have := (hu.lt k hb).2
        refine .inr (.inr ?_)
        rw [hb, h]
        simp
        omega

/-- a fresh empty row -/
theorem owns_empty (w : World) (base : Nat) (e : TypeId) (hb : base ≤ w.heap.size) : (w.alloc (.cells #[] e)).ownsRow base e 1 (.slice (some ⟨w.heap.size, 0, none⟩) 0 0) 0 [] :=
  World.ownsRow_made w #[] 0 hb (by simp [maxLen]) (by simp)
end Go.Proofs.Ytoifmfdaghmleaa
