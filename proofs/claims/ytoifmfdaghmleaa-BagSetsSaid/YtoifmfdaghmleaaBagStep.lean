/-
  The laws' steps: each call of the sets' package, as a step from state to state.
-/
import Derived.Test.YtoifmfdaghmleaaBagLawA
set_option linter.unusedVariables false
namespace Go.Proofs.Ytoifmfdaghmleaa
open Go.RowKit Go.Lib Go.Sort Go.Shelf
/-- the walk's state between two calls: the sets, the rows, the iterators that are at hand -/
structure LwI (w0 W : World) (Ss : List (Nat × Value × List Int)) (Rs : List (Option Addr × List Int)) (Is : List (Value × (Nat → Prop) × List Int)) : Prop where
  bel : Below w0.heap.size w0 W
  sets : ∀ s ∈ Ss, SetI W s.1 s.2.1 s.2.2
  rows : ∀ r ∈ Rs, Row W r.1 r.2.length (fun j => (Value.int .i64 (r.2.getD j (0 : Int)) : Value))
  its : ∀ i ∈ Is, Iter1 (fun x : Int => (Value.int .i64 x : Value)) i.2.1 i.1 i.2.2 W
theorem LwI.kept {w0 W W' : World} {Ss : List (Nat × Value × List Int)} {Rs : List (Option Addr × List Int)} {Is : List (Value × (Nat → Prop) × List Int)} (h : LwI w0 W Ss Rs Is) (hb : Below W.heap.size W W') : LwI w0 W' Ss Rs Is :=
  ⟨below_next h.bel hb h.bel.size, fun s hs => (h.sets s hs).kept hb, fun r hr => (h.rows r hr).kept hb, fun i hi => (h.its i hi).kept hb⟩
theorem LwI.addR {w0 W : World} {Ss : List (Nat × Value × List Int)} {Rs : List (Option Addr × List Int)} {Is : List (Value × (Nat → Prop) × List Int)} (h : LwI w0 W Ss Rs Is) {a : Option Addr} {l : List Int} (hr : Row W a l.length (fun j => (Value.int .i64 (l.getD j (0 : Int)) : Value))) : LwI w0 W Ss ((a, l) :: Rs) Is :=
  ⟨h.bel, h.sets, fun r hr' => by rcases List.mem_cons.1 hr' with rfl | h'; exact hr; exact h.rows r h', h.its⟩
theorem LwI.addS {w0 W : World} {Ss : List (Nat × Value × List Int)} {Rs : List (Option Addr × List Int)} {Is : List (Value × (Nat → Prop) × List Int)} (h : LwI w0 W Ss Rs Is) {p : Nat} {v : Value} {l : List Int} (hr : SetI W p v l) : LwI w0 W ((p, v, l) :: Ss) Rs Is :=
  ⟨h.bel, fun s hs => by rcases List.mem_cons.1 hs with rfl | h'; exact hr; exact h.sets s h', h.rows, h.its⟩
theorem LwI.setI {w0 W : World} {Ss : List (Nat × Value × List Int)} {Rs : List (Option Addr × List Int)} {Is : List (Value × (Nat → Prop) × List Int)} (h : LwI w0 W Ss Rs Is) {Is' : List (Value × (Nat → Prop) × List Int)} (hi : ∀ i ∈ Is', Iter1 (fun x : Int => (Value.int .i64 x : Value)) i.2.1 i.1 i.2.2 W) : LwI w0 W Ss Rs Is' := ⟨h.bel, h.sets, h.rows, hi⟩
theorem LwI.addI {w0 W : World} {Ss : List (Nat × Value × List Int)} {Rs : List (Option Addr × List Int)} {Is : List (Value × (Nat → Prop) × List Int)} (h : LwI w0 W Ss Rs Is) {fv : Value} {D : Nat → Prop} {l : List Int} (hi : Iter1 (fun x : Int => (Value.int .i64 x : Value)) D fv l W) : LwI w0 W Ss Rs ((fv, D, l) :: Is) :=
  ⟨h.bel, h.sets, h.rows, fun i hi' => by rcases List.mem_cons.1 hi' with rfl | h'; exact hi; exact h.its i h'⟩
section
variable {w0 W : World} {Ss : List (Nat × Value × List Int)} {Rs : List (Option Addr × List Int)} {Is : List (Value × (Nat → Prop) × List Int)}
theorem stNewI (h : LwI w0 W Ss Rs Is) (a : Option Addr) (cap : Nat) (l : List Int) (hr : (a, l) ∈ Rs) (hl : l.length ≤ 1000000) :
    Calls Try.prog 24 #[.slice a l.length cap] W fun e w' => ∃ p v, e = .returned (.pointer (some ⟨p, 0, none⟩)) ∧ LwI w0 w' ((p, v, setL ltI l) :: Ss) Rs Is := by
  refine (newSetI W a l.length cap l rfl hl (h.rows _ hr)).mono ?_
  rintro e w' ⟨p, v, rfl, hs, hb, _⟩
  exact ⟨p, v, rfl, (h.kept hb).addS hs⟩
theorem stAllI (h : LwI w0 W Ss Rs Is) (p : Nat) (v : Value) (l : List Int) (hs : (p, v, l) ∈ Ss) (hl : l.length ≤ 1000000) :
    Calls Try.prog 28 #[.pointer (some ⟨p, 0, none⟩)] W fun e w' => ∃ fv, e = .returned fv ∧ LwI w0 w' Ss Rs ((fv, noB, l) :: Is) := by
  refine (allI W p v l (h.sets _ hs) hl).mono ?_
  rintro e w' ⟨fv, rfl, _, hi, hb⟩
  exact ⟨fv, rfl, (h.kept hb).addI hi⟩
theorem stUnionI (h : LwI w0 W Ss Rs Is) (fa fb : Value) (Da Db : Nat → Prop) (la lb : List Int) (ha : (fa, Da, la) ∈ Is) (hb : (fb, Db, lb) ∈ Is) (hla : la.length ≤ 100000) (hlb : lb.length ≤ 100000) :
    Calls Try.prog 26 #[fa, fb] W fun e w' => ∃ fv D, e = .returned fv ∧ LwI w0 w' Ss Rs ((fv, D, unL ltI la lb) :: Is) := by
  refine (UnionI Da Db W fa fb la lb (h.its _ ha) (h.its _ hb) hla hlb).mono ?_
  rintro e w' ⟨fv, rfl, _, hi, hb⟩
  exact ⟨fv, _, rfl, (h.kept hb).addI hi⟩
theorem stBothI (h : LwI w0 W Ss Rs Is) (fa fb : Value) (Da Db : Nat → Prop) (la lb : List Int) (ha : (fa, Da, la) ∈ Is) (hb : (fb, Db, lb) ∈ Is) (hla : la.length ≤ 100000) (hlb : lb.length ≤ 100000) :
    Calls Try.prog 27 #[fa, fb] W fun e w' => ∃ fv D, e = .returned fv ∧ LwI w0 w' Ss Rs ((fv, D, boL ltI la lb) :: Is) := by
  refine (BothI Da Db W fa fb la lb (h.its _ ha) (h.its _ hb) hla hlb).mono ?_
  rintro e w' ⟨fv, rfl, _, hi, hb⟩
  exact ⟨fv, _, rfl, (h.kept hb).addI hi⟩
theorem stLessI (h : LwI w0 W Ss Rs Is) (fa fb : Value) (Da Db : Nat → Prop) (la lb : List Int) (ha : (fa, Da, la) ∈ Is) (hb : (fb, Db, lb) ∈ Is) (hla : la.length ≤ 100000) (hlb : lb.length ≤ 100000) :
    Calls Try.prog 29 #[fa, fb] W fun e w' => ∃ fv D, e = .returned fv ∧ LwI w0 w' Ss Rs ((fv, D, leL ltI la lb) :: Is) := by
  refine (LessI Da Db W fa fb la lb (h.its _ ha) (h.its _ hb) hla hlb).mono ?_
  rintro e w' ⟨fv, rfl, _, hi, hb⟩
  exact ⟨fv, _, rfl, (h.kept hb).addI hi⟩
theorem stFirstI (h : LwI w0 W Ss Rs Is) (fv : Value) (D : Nat → Prop) (l l' : List Int) (hi : (fv, D, l) ∈ Is) (most : Nat) (e0 : l.take most = l') (hl : l.length ≤ 1000000) (hmo : most ≤ 2000000) :
    Calls Try.prog 25 #[fv, .int .i64 (most : Int)] W fun e w' => ∃ a cap, e = .returned (.slice a l'.length cap) ∧ LwI w0 w' Ss ((a, l') :: Rs) Is := by
  subst e0
  refine (firstI D W fv l (h.its _ hi) hl most hmo).mono ?_
  rintro e w' ⟨v, rfl, ho, hb⟩
  obtain ⟨a, cap, rfl, -⟩ := Row.of_owns ho
  exact ⟨a, cap, rfl, (h.kept hb).addR (row_ofI ho)⟩
end
section
variable {w0 W : World} {Ss : List (Nat × Value × List Int)} {Rs : List (Option Addr × List Int)} {Is : List (Value × (Nat → Prop) × List Int)}
theorem stList (h : LwI w0 W Ss Rs Is) (fv : Value) (D : Nat → Prop) (l l' : List Int) (hi : (fv, D, l) ∈ Is) (most : Int) (e0 : l.take most.toNat = l') (hl : l.length ≤ 1000000) :
    Calls Try.prog 32 #[fv, .int .i64 most] W fun e w' => ∃ a cap, e = .returned (.slice a l'.length cap) ∧ LwI w0 w' Ss ((a, l') :: Rs) Is := by
  subst e0
  refine (listI D W fv l (h.its _ hi) hl most).mono ?_
  rintro e w' ⟨a, cap, rfl, hr, hb⟩
  exact ⟨a, cap, rfl, (h.kept hb).addR hr⟩
theorem stSet (h : LwI w0 W Ss Rs Is) (a : Option Addr) (cap : Nat) (l : List Int) (hr : (a, l) ∈ Rs) (hl : l.length ≤ 10000) :
    Calls Try.prog 30 #[.slice a l.length cap] W fun e w' => ∃ a' cap', e = .returned (.slice a' (setL ltI l).length cap') ∧ (setL ltI l).length ≤ cap' ∧ SRow w' a' (setL ltI l).length cap' (intsF (setL ltI l)) ∧ LwI w0 w' Ss ((a', setL ltI l) :: Rs) Is := by
  refine (set_any W a l.length cap l rfl (h.rows _ hr) hl).mono ?_
  rintro e w' ⟨a', cap', rfl, hs, hb⟩
  exact ⟨a', cap', rfl, hs.le, hs, (h.kept hb).addR hs.row⟩
theorem stSame (h : LwI w0 W Ss Rs Is) (a b : Option Addr) (ca cb : Nat) (l : List Int) (ha : (a, l) ∈ Rs) (hb : (b, l) ∈ Rs) (hl : l.length ≤ 1000000) :
    Calls Try.prog 17 #[.slice a l.length ca, .slice b l.length cb] W fun e w' => e = .returned (.bool true) ∧ LwI w0 w' Ss Rs Is := by
  refine (same_yes W a b l.length ca cb (fun j => l.getD j 0) (by omega) (h.rows _ ha) (h.rows _ hb)).mono ?_
  rintro e w' ⟨rfl, k, rfl⟩
  exact ⟨rfl, h.kept (below_drewN (Below.refl _ _) k)⟩
theorem stAwake (h : LwI w0 W Ss Rs Is) : Calls Try.prog 23 #[] W fun e w' => e = .returned (.bool true) ∧ LwI w0 w' Ss Rs Is := by
  refine (awake5_any W).mono ?_
  rintro e w' ⟨rfl, hb⟩
  exact ⟨rfl, h.kept hb⟩
end
end Go.Proofs.Ytoifmfdaghmleaa
