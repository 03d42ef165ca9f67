/-
  Maps from names to files: what a map's datum tells; look-up, store, delete.
-/
import Derived.Test.YtelndbjjkhlacaaCommon
import Derived.Test.YtelndbjjkhlacaaProg
import Derived.Maps.OwnSet
import Derived.Maps.Ext
import Derived.Maps.RangeWalk
import Derived.StringKeys
namespace Go.Proofs.Ytelndbjjkhlacaa
open Go.RowKit Go.Maps Go.WideMaps

abbrev DT := DataW Unit
abbrev kl (s : ByteArray) : Lit := .string s.data.toList
abbrev enc (f : Nat) : DT := .lit (.int .i64 (f : Int))
/-- how a pointer to a file reads -/
def fileR : Value → Option (DT × List MemPlace)
  | .pointer none => some (.nil, [])
  | .pointer (some ⟨b, 0, none⟩) => some (enc b, [])
  | _ => none
theorem fileR_mk (f : Nat) : fileR (.pointer (some ⟨f, 0, none⟩)) = some (enc f, []) := rfl
def pF : Option Nat → Value
  | none => .pointer none
  | some f => .pointer (some ⟨f, 0, none⟩)
def decF : DT → Option Nat
  | .lit (.int .i64 n) => some n.toNat
  | _ => none
theorem decF_enc (f : Nat) : decF (enc f) = some f := by simp [decF]
/-- which file a name leads to -/
def fileOf (D : DT) (s : ByteArray) : Option Nat := decF (D.atKey (kl s) .nil)
theorem fileR_inv {v : Value} {d : DT} {ps : List MemPlace} (h : fileR v = some (d, ps)) : v = pF (decF d) ∧ ps = [] ∧ (d = .nil ∨ ∃ f, d = enc f) := by
  unfold fileR at h
  split at h
  · cases h; exact ⟨rfl, rfl, .inl rfl⟩
  · cases h; exact ⟨by simp [decF, pF], rfl, .inr ⟨_, rfl⟩⟩
  · cases h
theorem kl_ne {s t : ByteArray} (h : s ≠ t) : kl s ≠ kl t := fun e => by
  injection e with e
  apply h
  obtain ⟨a⟩ := s
  obtain ⟨b⟩ := t
  simp at e
  exact congrArg ByteArray.mk e
theorem keyS (s : ByteArray) : WideAt.IsKeyLit (kl s) := trivial
theorem fileOf_put_same {D : DT} (hD : IsMap D) (s : ByteArray) (f : Nat) : fileOf (D.put (kl s) (enc f)) s = some f := by
  unfold fileOf; rw [atKey_put_same hD (keyS s)]; exact decF_enc f
theorem fileOf_put_other {D : DT} {s t : ByteArray} (h : t ≠ s) (f : Nat) : fileOf (D.put (kl s) (enc f)) t = fileOf D t := by
  unfold fileOf; rw [atKey_put_other (kl_ne h)]
theorem fileOf_del_same {D : DT} (s : ByteArray) : fileOf (D.del (kl s)) s = none := by
  unfold fileOf; rw [atKey_del_same]; rfl
theorem fileOf_del_other {D : DT} {s t : ByteArray} (h : t ≠ s) : fileOf (D.del (kl s)) t = fileOf D t := by
  unfold fileOf; rw [atKey_del_other (kl_ne h)]
/-- block b is a map of names that reads as D -/
def NmAt (w : World) (b : Nat) (D : DT) : Prop := w.ownsMap Try.prog 9 fileR b (size D) D
theorem nm_of {w : World} {b n : Nat} {D : DT} (h : w.ownsMap Try.prog 9 fileR b n D) : NmAt w b D := by
  obtain ⟨es, clock, hb, F, hs, hD⟩ := h
  refine ⟨es, clock, hb, F, ?_, hD⟩
  rw [hD]
  show _ ≤ List.length _
  rw [length_sorted]
  simp
theorem NmAt.lt {w : World} {b : Nat} {D : DT} (h : NmAt w b D) : b < w.heap.size := World.ownsMap.lt h
theorem NmAt.of_block {w w' : World} {b : Nat} {D : DT} (h : NmAt w b D) (hb : w'.heap[b]? = w.heap[b]?) : NmAt w' b D := by
  obtain ⟨es, clock, h1, h2⟩ := h
  exact ⟨es, clock, hb.trans h1, h2⟩
theorem law_str : Keyed Try.prog 9 := string_keyed Try.underlying9
theorem NmAt.tidy {w : World} {b : Nat} {D : DT} (h : NmAt w b D) : Tidy D := World.ownsMap.tidy h law_str
theorem NmAt.isMap {w : World} {b : Nat} {D : DT} (h : NmAt w b D) : IsMap D := h.tidy.isMap
theorem zeroF (w : World) : (zeroValue 62).run Try.prog w = .ok (.pointer none) w := by kernel_rfl
theorem NmAt.look {w : World} {b : Nat} {D : DT} (h : NmAt w b D) (s : ByteArray) (hs : s.size ≤ maxLen) :
    (Instr.lookup 56 (.map (some b)) (.string s) false).run Try.prog w = .ok (pF (fileOf D s)) w := by
  obtain ⟨v, ps, hr, hv⟩ := World.ownsMap.lookup h law_str Try.underlying56 (zeroF w) (zd := .nil) (zp := []) rfl (keyOf_string_mk Try.underlying9 hs)
  obtain ⟨rfl, _⟩ := fileR_inv hv
  exact hr
theorem NmAt.put {w : World} {b : Nat} {D : DT} (h : NmAt w b D) (hn : size D < maxLen) (s : ByteArray) (hs : s.size ≤ maxLen) (f : Nat) :
    ∃ w', (Instr.mapUpdate 56 (.map (some b)) (.string s) (.pointer (some ⟨f, 0, none⟩))).run Try.prog w = .ok () w' ∧ NmAt w' b (D.put (kl s) (enc f)) ∧ w.grownBy w' (some b) := by
  obtain ⟨w', hr, h1, h2⟩ := World.ownsMap.update h law_str Try.underlying56 hn (keyOf_string_mk Try.underlying9 hs) (fileR_mk f)
  exact ⟨w', hr, nm_of h1, h2⟩
theorem NmAt.drop {w : World} {b : Nat} {D : DT} (h : NmAt w b D) (s : ByteArray) (hs : s.size ≤ maxLen) (ty : TypeId) :
    ∃ w', (Builtin.delete_ #[56, 9] ty #[.map (some b), .string s]).run Try.prog w = .ok (.tuple #[]) w' ∧ NmAt w' b (D.del (kl s)) ∧ w.grownBy w' (some b) := by
  obtain ⟨w', hr, h1, h2⟩ := World.ownsMap.drop h law_str Try.underlying56 (keyOf_string_mk Try.underlying9 hs) ty
  exact ⟨w', hr, nm_of h1, h2.grown⟩
/-- every name leads to one of these files -/
def NamesOk (D : DT) (F : List Nat) : Prop := ∀ k, has D k = true → ∃ f ∈ F, ∀ z, D.atKey k z = enc f
theorem namesOk_nil (F : List Nat) : NamesOk (.map []) F := fun k h => by cases h
theorem NamesOk.file {D : DT} {F : List Nat} (h : NamesOk D F) {s : ByteArray} {f : Nat} (hf : fileOf D s = some f) : f ∈ F := by
  cases hh : has D (kl s) with
  | false =>
    unfold fileOf at hf
    rw [atKey_of_not_has hh] at hf
    simp [decF] at hf
  | true =>
    obtain ⟨g, hg, ha⟩ := h _ hh
    unfold fileOf at hf
    rw [ha, decF_enc] at hf
    cases hf
    exact hg
theorem NamesOk.mono {D : DT} {F F' : List Nat} (h : NamesOk D F) (hs : ∀ f ∈ F, f ∈ F') : NamesOk D F' := fun k hk => by
  obtain ⟨f, hf, ha⟩ := h k hk
  exact ⟨f, hs f hf, ha⟩
theorem NamesOk.put {D : DT} {F : List Nat} (h : NamesOk D F) (hD : IsMap D) (s : ByteArray) {f : Nat} (hf : f ∈ F) : NamesOk (D.put (kl s) (enc f)) F := fun k hk => by
  by_cases e : k = kl s
  · subst e
    exact ⟨f, hf, fun z => atKey_put_same hD (keyS s) _ z⟩
  · rw [has_put_other e] at hk
    obtain ⟨g, hg, ha⟩ := h k hk
    exact ⟨g, hg, fun z => (atKey_put_other e _ z).trans (ha z)⟩
theorem NamesOk.del {D : DT} {F : List Nat} (h : NamesOk D F) (s : ByteArray) : NamesOk (D.del (kl s)) F := fun k hk => by
  by_cases e : k = kl s
  · subst e
    rw [has_del_same] at hk
    cases hk
  · rw [has_del_other e] at hk
    obtain ⟨g, hg, ha⟩ := h k hk
    exact ⟨g, hg, fun z => (atKey_del_other e z).trans (ha z)⟩
end Go.Proofs.Ytelndbjjkhlacaa
