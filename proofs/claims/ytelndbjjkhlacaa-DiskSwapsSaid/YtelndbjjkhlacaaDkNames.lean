/-
  Names turned, names that last, files that may be come to: plain laws; the state behind a loss of power.
-/
import Derived.Test.YtelndbjjkhlacaaDkState
import Derived.Test.YtelndbjjkhlacaaDkMath
namespace Go.Proofs.Ytelndbjjkhlacaa
open Go.RowKit Go.Maps

/-- what is done to names, done -/
def leadD (D : DT) (t : Turn) : DT :=
  if t.k = 0 then D.put (kl t.a) (match t.f with | some f => enc f | none => .nil)
  else if t.k = 1 then (match fileOf D t.a with | some f => (D.del (kl t.a)).put (kl t.b) (enc f) | none => D)
  else if t.k = 2 then D.del (kl t.a) else D
def nowD (D : DT) : List Turn → List Bool → DT
  | [], _ => D
  | t :: ts, [] => nowD (leadD D t) ts []
  | t :: ts, b :: bs => nowD (if b then leadD D t else D) ts bs
theorem nowD_nil (D : DT) (bs : List Bool) : nowD D [] bs = D := by cases bs <;> rfl
theorem nowD_snoc : ∀ (ts : List Turn) (t : Turn) (bs : List Bool) (D : DT), nowD D (ts ++ [t]) bs = if bs.getD ts.length true then leadD (nowD D ts bs) t else nowD D ts bs
  | [], t, [], D => by simp [nowD]
  | [], t, b :: bs, D => by cases b <;> simp [nowD]
  | u :: ts, t, [], D => by
    show nowD (leadD D u) (ts ++ [t]) [] = _
    rw [nowD_snoc ts t [] _]
    simp [nowD]
  | u :: ts, t, b :: bs, D => by
    show nowD (if b then leadD D u else D) (ts ++ [t]) bs = _
    rw [nowD_snoc ts t bs _]
    simp [nowD]
/-- does a name lead to a file? -/
def inD : DT → Nat → Bool
  | .map es, f => es.any fun p => decF p.2 == some f
  | _, _ => false
theorem inD_iff {D : DT} (hT : Tidy D) (hK : ∀ es, D = .map es → ∀ p ∈ es, WideAt.IsKeyLit p.1) (f : Nat) : inD D f = true ↔ ∃ k, has D k = true ∧ decF (D.atKey k .nil) = some f := by
  obtain ⟨es, rfl, hp⟩ := hT
  have hk := hK es rfl
  constructor
  · intro h
    obtain ⟨p, hp1, hp2⟩ := List.any_eq_true.1 h
    refine ⟨p.1, List.any_eq_true.2 ⟨p, hp1, WideAt.sameKey_self (hk p hp1)⟩, ?_⟩
    rw [WideAt.atKey_mem .nil (hk p hp1) hp hp1]
    simpa using hp2
  · rintro ⟨k, h1, h2⟩
    obtain ⟨p, hp1, hp2⟩ := List.any_eq_true.1 h1
    have e : p.1 = k := WideAt.sameKey_eq hp2
    subst e
    rw [WideAt.atKey_mem .nil (hk p hp1) hp hp1] at h2
    exact List.any_eq_true.2 ⟨p, hp1, by simp [h2]⟩
/-- may a file still be come to? -/
def comeB (S : DSt) (f : Nat) : Bool := inD S.names f || inD S.last f || S.turns.any fun t => t.f == some f
def openB (S : DSt) (f : Nat) : Bool := comeB S f && decide (S.fl f < (S.fb f).length)
def crashS (S : DSt) (fs : List Int) (bs : List Bool) : DSt :=
  { S with
    fb := truncL S.fl (S.files.filter (openB S)) fs S.fb
    fl := fun f => if inD (nowD S.last S.turns bs) f then (truncL S.fl (S.files.filter (openB S)) fs S.fb f).length else S.fl f
    names := nowD S.last S.turns bs
    last := nowD S.last S.turns bs
    turns := []
    dead := false
    stop := -1
    fail := 0
    files := S.files.filter (inD (nowD S.last S.turns bs)) }
end Go.Proofs.Ytelndbjjkhlacaa
