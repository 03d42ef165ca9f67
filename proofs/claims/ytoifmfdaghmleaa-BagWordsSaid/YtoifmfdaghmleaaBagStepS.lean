/-
  The laws' steps: each call of the sets' package, as a step from state to state; sets of texts.
-/
import Derived.Test.YtoifmfdaghmleaaBagLawA
import Derived.Test.YtoifmfdaghmleaaBagJnS
set_option linter.unusedVariables false
namespace Go.Proofs.Ytoifmfdaghmleaa
open Go.RowKit Go.Lib Go.Sort Go.Shelf
/-- the walk's state between two calls: the sets, the rows, the iterators that are at hand -/
structure LwS (w0 W : World) (Ss : List (Nat × Value × List ByteArray)) (Rs : List (Option Addr × List ByteArray)) (Is : List (Value × (Nat → Prop) × List ByteArray)) : Prop where
  bel : Below w0.heap.size w0 W
  sets : ∀ s ∈ Ss, SetS W s.1 s.2.1 s.2.2
  rows : ∀ r ∈ Rs, Row W r.1 r.2.length (fun j => (Value.string (r.2.getD j (⟨#[]⟩ : ByteArray)) : Value))
  its : ∀ i ∈ Is, Iter1 (fun x : ByteArray => (Value.string x : Value)) i.2.1 i.1 i.2.2 W
theorem LwS.kept {w0 W W' : World} {Ss : List (Nat × Value × List ByteArray)} {Rs : List (Option Addr × List ByteArray)} {Is : List (Value × (Nat → Prop) × List ByteArray)} (h : LwS w0 W Ss Rs Is) (hb : Below W.heap.size W W') : LwS w0 W' Ss Rs Is :=
  ⟨below_next h.bel hb h.bel.size, fun s hs => (h.sets s hs).kept hb, fun r hr => (h.rows r hr).kept hb, fun i hi => (h.its i hi).kept hb⟩
theorem LwS.addR {w0 W : World} {Ss : List (Nat × Value × List ByteArray)} {Rs : List (Option Addr × List ByteArray)} {Is : List (Value × (Nat → Prop) × List ByteArray)} (h : LwS w0 W Ss Rs Is) {a : Option Addr} {l : List ByteArray} (hr : Row W a l.length (fun j => (Value.string (l.getD j (⟨#[]⟩ : ByteArray)) : Value))) : LwS w0 W Ss ((a, l) :: Rs) Is :=
  ⟨h.bel, h.sets, fun r hr' => by rcases List.mem_cons.1 hr' with rfl | h'; exact hr; exact h.rows r h', h.its⟩
theorem LwS.addS {w0 W : World} {Ss : List (Nat × Value × List ByteArray)} {Rs : List (Option Addr × List ByteArray)} {Is : List (Value × (Nat → Prop) × List ByteArray)} (h : LwS w0 W Ss Rs Is) {p : Nat} {v : Value} {l : List ByteArray} (hr : SetS W p v l) : LwS w0 W ((p, v, l) :: Ss) Rs Is :=
  ⟨h.bel, fun s hs => by rcases List.mem_cons.1 hs with rfl | h'; exact hr; exact h.sets s h', h.rows, h.its⟩
theorem LwS.setI {w0 W : World} {Ss : List (Nat × Value × List ByteArray)} {Rs : List (Option Addr × List ByteArray)} {Is : List (Value × (Nat → Prop) × List ByteArray)} (h : LwS w0 W Ss Rs Is) {Is' : List (Value × (Nat → Prop) × List ByteArray)} (hi : ∀ i ∈ Is', Iter1 (fun x : ByteArray => (Value.string x : Value)) i.2.1 i.1 i.2.2 W) : LwS w0 W Ss Rs Is' := ⟨h.bel, h.sets, h.rows, hi⟩
theorem LwS.addI {w0 W : World} {Ss : List (Nat × Value × List ByteArray)} {Rs : List (Option Addr × List ByteArray)} {Is : List (Value × (Nat → Prop) × List ByteArray)} (h : LwS w0 W Ss Rs Is) {fv : Value} {D : Nat → Prop} {l : List ByteArray} (hi : Iter1 (fun x : ByteArray => (Value.string x : Value)) D fv l W) : LwS w0 W Ss Rs ((fv, D, l) :: Is) :=
  ⟨h.bel, h.sets, h.rows, fun i hi' => by rcases List.mem_cons.1 hi' with rfl | h'; exact hi; exact h.its i h'⟩
section
variable {w0 W : World} {Ss : List (Nat × Value × List ByteArray)} {Rs : List (Option Addr × List ByteArray)} {Is : List (Value × (Nat → Prop) × List ByteArray)}
theorem stNewS (h : LwS w0 W Ss Rs Is) (a : Option Addr) (cap : Nat) (l : List ByteArray) (hr : (a, l) ∈ Rs) (hl : l.length ≤ 1000000) :
    Calls Try.prog 33 #[.slice a l.length cap] W fun e w' => ∃ p v, e = .returned (.pointer (some ⟨p, 0, none⟩)) ∧ LwS w0 w' ((p, v, setL ltT l) :: Ss) Rs Is := by
  refine (newSetS W a l.length cap l rfl hl (h.rows _ hr)).mono ?_
  rintro e w' ⟨p, v, rfl, hs, hb, _⟩
  exact ⟨p, v, rfl, (h.kept hb).addS hs⟩
theorem stAllS (h : LwS w0 W Ss Rs Is) (p : Nat) (v : Value) (l : List ByteArray) (hs : (p, v, l) ∈ Ss) (hl : l.length ≤ 1000000) :
    Calls Try.prog 36 #[.pointer (some ⟨p, 0, none⟩)] W fun e w' => ∃ fv, e = .returned fv ∧ LwS w0 w' Ss Rs ((fv, noB, l) :: Is) := by
  refine (allS W p v l (h.sets _ hs) hl).mono ?_
  rintro e w' ⟨fv, rfl, _, hi, hb⟩
  exact ⟨fv, rfl, (h.kept hb).addI hi⟩
theorem stUnionS (h : LwS w0 W Ss Rs Is) (fa fb : Value) (Da Db : Nat → Prop) (la lb : List ByteArray) (ha : (fa, Da, la) ∈ Is) (hb : (fb, Db, lb) ∈ Is) (hla : la.length ≤ 100000) (hlb : lb.length ≤ 100000) :
    Calls Try.prog 35 #[fa, fb] W fun e w' => ∃ fv D, e = .returned fv ∧ LwS w0 w' Ss Rs ((fv, D, unL ltT la lb) :: Is) := by
  refine (UnionS Da Db W fa fb la lb (h.its _ ha) (h.its _ hb) hla hlb).mono ?_
  rintro e w' ⟨fv, rfl, _, hi, hb⟩
  exact ⟨fv, _, rfl, (h.kept hb).addI hi⟩
theorem stBothS (h : LwS w0 W Ss Rs Is) (fa fb : Value) (Da Db : Nat → Prop) (la lb : List ByteArray) (ha : (fa, Da, la) ∈ Is) (hb : (fb, Db, lb) ∈ Is) (hla : la.length ≤ 100000) (hlb : lb.length ≤ 100000) :
    Calls Try.prog 37 #[fa, fb] W fun e w' => ∃ fv D, e = .returned fv ∧ LwS w0 w' Ss Rs ((fv, D, boL ltT la lb) :: Is) := by
  refine (BothS Da Db W fa fb la lb (h.its _ ha) (h.its _ hb) hla hlb).mono ?_
  rintro e w' ⟨fv, rfl, _, hi, hb⟩
  exact ⟨fv, _, rfl, (h.kept hb).addI hi⟩
theorem stLessS (h : LwS w0 W Ss Rs Is) (fa fb : Value) (Da Db : Nat → Prop) (la lb : List ByteArray) (ha : (fa, Da, la) ∈ Is) (hb : (fb, Db, lb) ∈ Is) (hla : la.length ≤ 100000) (hlb : lb.length ≤ 100000) :
    Calls Try.prog 38 #[fa, fb] W fun e w' => ∃ fv D, e = .returned fv ∧ LwS w0 w' Ss Rs ((fv, D, leL ltT la lb) :: Is) := by
  refine (LessS Da Db W fa fb la lb (h.its _ ha) (h.its _ hb) hla hlb).mono ?_
  rintro e w' ⟨fv, rfl, _, hi, hb⟩
  exact ⟨fv, _, rfl, (h.kept hb).addI hi⟩
theorem stFirstS (h : LwS w0 W Ss Rs Is) (fv : Value) (D : Nat → Prop) (l l' : List ByteArray) (hi : (fv, D, l) ∈ Is) (most : Nat) (e0 : l.take most = l') (hl : l.length ≤ 1000000) (hmo : most ≤ 2000000) :
    Calls Try.prog 34 #[fv, .int .i64 (most : Int)] W fun e w' => ∃ a cap, e = .returned (.slice a l'.length cap) ∧ LwS w0 w' Ss ((a, l') :: Rs) Is := by
  subst e0
  refine (firstS D W fv l (h.its _ hi) hl most hmo).mono ?_
  rintro e w' ⟨v, rfl, ho, hb⟩
  obtain ⟨a, cap, rfl, -⟩ := Row.of_owns ho
  exact ⟨a, cap, rfl, (h.kept hb).addR (row_ofS ho)⟩
end
end Go.Proofs.Ytoifmfdaghmleaa
