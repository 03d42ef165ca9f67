/-
  The map of the samples: rows to places.
-/
import Derived.Test.YtjpoebmjfedecaaCommon
import Derived.Test.YtjpoebmjfedecaaProg
import Derived.Maps.OwnSet
import Derived.Maps.OwnOps
namespace Go.Proofs.Ytjpoebmjfedecaa
open Go.RowKit Go.Maps

def plL : List Value → Option (DataW Unit × List MemPlace)
  | [.int .i64 a, .int .i64 b] => some (.agg [.lit (.int .i64 a), .lit (.int .i64 b)], [])
  | _ => none
def plR : Value → Option (DataW Unit × List MemPlace)
  | .agg cs => plL cs.toList
  | _ => none
def plD (p : Nat × Nat) : DataW Unit := .agg [.lit (.int .i64 (p.1 : Int)), .lit (.int .i64 (p.2 : Int))]
theorem plR_some {v : Value} {z : DataW Unit × List MemPlace} (h : plR v = some z) : ∃ a b : Int, v = .agg #[.int .i64 a, .int .i64 b] ∧ z = (.agg [.lit (.int .i64 a), .lit (.int .i64 b)], []) := by
  unfold plR at h
  split at h
  · rename_i cs
    unfold plL at h
    split at h
    · rename_i a b hc
      refine ⟨a, b, ?_, (Option.some.inj h).symm⟩
      have : cs = #[.int .i64 a, .int .i64 b] := by rw [← Array.toArray_toList (xs := cs), hc]
      rw [this]
    · cases h
  · cases h
theorem keyI : Keyed Try.prog 3 := int_keyed Try.underlying3
theorem keyLitI (r : Int) : WideAt.IsKeyLit (.int .i64 r) := by first | trivial | simp [WideAt.IsKeyLit] | exact .inl ⟨_, _, rfl⟩
theorem plZero (w : World) : (zeroValue 84).run Try.prog w = .ok (.agg #[.int .i64 0, .int .i64 0]) w := by kernel_rfl
/-- block b is a map of at most n entries: f's -/
def PMap (W : World) (b n : Nat) (f : Int → Option (Nat × Nat)) : Prop := ∃ D : DataW Unit, W.ownsMap Try.prog 3 plR b n D ∧ IsMap D ∧
  ∀ r : Int, (Lit.int .i64 r).wf = true → match f r with
    | some p => Maps.has D (.int .i64 r) = true ∧ ∀ z, D.atKey (.int .i64 r) z = plD p
    | none => Maps.has D (.int .i64 r) = false
theorem PMap.made (w : World) : PMap (w.alloc (.map #[] 0)) w.heap.size 0 (fun _ => none) :=
  ⟨.map [], World.ownsMap_made w _ _ _, ⟨_, rfl⟩, fun r _ => rfl⟩
def updI (f : Int → Option (Nat × Nat)) (r : Int) (p : Nat × Nat) : Int → Option (Nat × Nat) := fun s => if s = r then some p else f s
theorem PMap.put {W : World} {b n : Nat} {f : Int → Option (Nat × Nat)} (h : PMap W b n f) (hn : n ≤ 1000000) (r : Int) (hr : (Lit.int .i64 r).wf = true) (p : Nat × Nat) :
    ∃ w', (Instr.mapUpdate 76 (.map (some b)) (.int .i64 r) (.agg #[.int .i64 (p.1 : Int), .int .i64 (p.2 : Int)])).run Try.prog W = .ok () w' ∧ PMap w' b (n + 1) (updI f r p) ∧ W.grownBy w' (some b) := by
  obtain ⟨D, hD, hm, hf⟩ := h
  obtain ⟨w', hrun, hown, hg⟩ := hD.update (t := 76) (e := 84) keyI Try.underlying76 (by unfold maxLen; omega) (key := .int .i64 r) (val := .agg #[.int .i64 (p.1 : Int), .int .i64 (p.2 : Int)]) (d := plD p) (ps := []) (keyOf_int_mk Try.underlying3 hr) rfl
  refine ⟨w', hrun, ⟨_, hown, ?_, fun s hs => ?_⟩, hg⟩
  · exact hm.put _ _
  · unfold updI
    by_cases e : s = r
    · subst e
      rw [if_pos rfl]
      exact ⟨has_put_same hm (keyLitI _) _, fun z => atKey_put_same hm (keyLitI _) _ z⟩
    · rw [if_neg e]
      have hne : (Lit.int .i64 s) ≠ (Lit.int .i64 r) := fun h => e (by injection h)
      have := hf s hs
      cases hfs : f s with
      | none => rw [hfs] at this; simpa [has_put_other hne] using this
      | some q =>
        rw [hfs] at this
        refine ⟨by rw [has_put_other hne]; exact this.1, fun z => by rw [atKey_put_other hne]; exact this.2 z⟩
theorem PMap.look {W : World} {b n : Nat} {f : Int → Option (Nat × Nat)} (h : PMap W b n f) (r : Int) (hr : (Lit.int .i64 r).wf = true) :
    ∃ x y : Int, (Instr.lookup 76 (.map (some b)) (.int .i64 r) true).run Try.prog W = .ok (.tuple #[.agg #[.int .i64 x, .int .i64 y], .bool (f r).isSome]) W ∧ ∀ p, f r = some p → x = (p.1 : Int) ∧ y = (p.2 : Int) := by
  obtain ⟨D, hD, hm, hf⟩ := h
  obtain ⟨v, ps, hrun, hv⟩ := hD.look_ok (t := 76) (e := 84) keyI Try.underlying76 (plZero W) (zd := plD (0, 0)) (zp := []) rfl (key := .int .i64 r) (keyOf_int_mk Try.underlying3 hr)
  obtain ⟨x, y, rfl, hz⟩ := plR_some hv
  have := hf r hr
  cases hfr : f r with
  | none =>
    rw [hfr] at this
    refine ⟨x, y, ?_, fun p hp => by cases hp⟩
    rw [hrun, this]; rfl
  | some p =>
    rw [hfr] at this
    rw [this.2] at hz
    have e : ((p.1 : Int) = x) ∧ ((p.2 : Int) = y) := by unfold plD at hz; simp at hz; exact hz.1
    refine ⟨x, y, ?_, fun q hq => by cases hq; exact ⟨e.1.symm, e.2.symm⟩⟩
    rw [hrun, this.1]; rfl
theorem PMap.kept {W W' : World} {b n : Nat} {f : Int → Option (Nat × Nat)} (h : PMap W b n f) (hb : W'.heap[b]? = W.heap[b]?) : PMap W' b n f := by
  obtain ⟨D, ⟨es, clock, h1, h2⟩, h3⟩ := h
  exact ⟨D, ⟨es, clock, hb.trans h1, h2⟩, h3⟩
end Go.Proofs.Ytjpoebmjfedecaa
