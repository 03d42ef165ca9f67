/-
  The statements' helpers on the order of places: made, awake; suffix.Sort.
-/
import Derived.Test.YtelndbjjkhlacaaSufArray
import Derived.Test.YtelndbjjkhlacaaTextOrd
import Derived.Test.YtelndbjjkhlacaaDocsOpen
import Derived.Lib.SmallJoins
namespace Go.Proofs.Ytelndbjjkhlacaa
open Go.RowKit

theorem len_filter_lt (l : List Nat) (n m : Nat) (hn : l.Nodup) (hm : ∀ x, x ∈ l ↔ x < m) (h : n ≤ m) : (l.filter fun x => decide (x < n)).length = n :=
  len_of_mem _ n (hn.filter _) (fun x => by
    rw [List.mem_filter, hm, decide_eq_true_eq]
    exact ⟨fun h => h.2, fun h' => ⟨by omega, h'⟩⟩)
theorem nodup_ltS {s : Nat → Int} {sa : List Nat} (hp : sa.Pairwise (ltS s)) : sa.Nodup := hp.imp (fun h e => by subst e; exact ltS_asymm h h)
/-- bytes that came in, as a list -/
theorem bytes_list {w : World} {a1 : Option Addr} {len : Nat} {f : Nat → Int} (hr : Row w a1 len (fun k => .int .u8 (f k)) ∧ ∀ k, k < len → (Lit.int .u8 (f k)).wf = true) :
    ∃ d : List Nat, len = d.length ∧ Row w a1 d.length (byteV d) ∧ ∀ c ∈ d, c < 256 := by
  obtain ⟨hr, hwf⟩ := hr
  refine ⟨(List.range len).map fun k => (f k).toNat, by simp, ?_, fun c hc => ?_⟩
  · simp only [List.length_map, List.length_range]
    refine hr.congr fun k hk => ?_
    have := bounds_u8 (hwf k hk)
    simp [byteV, List.getD_eq_getElem?_getD, hk]; omega
  · obtain ⟨k, hk, rfl⟩ := List.mem_map.1 hc
    have := bounds_u8 (hwf k (List.mem_range.1 hk))
    omega
abbrev ordS (ds : List (List Nat)) : Nat → Int := symS (rowOf ds) ds.length
def MadePost (w : World) (ds : List (List Nat)) (e : Ending) (w' : World) : Prop :=
  ∃ bt x, e = .returned (.pointer (some ⟨bt, 0, none⟩)) ∧ TextAt w' bt x ds ∧ Below w.heap.size w w'
def SortPost (w : World) (ds : List (List Nat)) (e : Ending) (w' : World) : Prop :=
  ∃ a cap sa, e = .returned (.tuple #[.slice a (rowOf ds).length cap, .int .i64 0]) ∧ Row w' a (rowOf ds).length (natV sa) ∧ IsSA (ordS ds) (rowOf ds).length sa ∧ Below w.heap.size w w'
/-- the documents that awake asks -/
def baA : List (List Nat) := [[98, 97], [97]]
theorem baA_row : rowOf baA = [99, 98, 0, 98, 0] := rfl
theorem baA_sa : IsSA (ordS baA) 5 [2, 4, 1, 3, 0] := by
  have h1 : ltS (ordS baA) 2 4 := ⟨0, by decide +kernel, fun i hi => by omega⟩
  have h2 : ltS (ordS baA) 4 1 := ⟨0, by decide +kernel, fun i hi => by omega⟩
  have h3 : ltS (ordS baA) 1 3 := ⟨1, by decide +kernel, fun i hi => by obtain rfl : i = 0 := by omega
                                                                        decide +kernel⟩
  have h4 : ltS (ordS baA) 3 0 := ⟨0, by decide +kernel, fun i hi => by omega⟩
  refine ⟨rfl, fun x => ?_, ?_⟩
  · simp; omega
  · simp only [List.pairwise_cons, List.mem_cons, List.not_mem_nil, or_false, forall_eq_or_imp, forall_eq, List.Pairwise.nil, and_true, false_implies, implies_true]
    exact ⟨⟨h1, ltS_trans h1 h2, ltS_trans (ltS_trans h1 h2) h3, ltS_trans (ltS_trans (ltS_trans h1 h2) h3) h4⟩, ⟨h2, ltS_trans h2 h3, ltS_trans (ltS_trans h2 h3) h4⟩, ⟨h3, ltS_trans h3 h4⟩, h4⟩
theorem baA_ok : NewOk baA := ⟨by decide, by decide, by decide, by decide⟩
theorem row_marked (w : World) (C : Array Value) (e : TypeId) (fr : Nat × Nat) (f : Nat → Value) (h : ∀ i, i < C.size → C[i]? = some (f i)) : Row (w.alloc (.cells C e fr)) (some ⟨w.heap.size, 0, none⟩) C.size f :=
  ⟨.inr rfl, fun k hk => by
    show (w.alloc (.cells C e fr)).cell? ⟨w.heap.size, 0 + k, none⟩ = _
    rw [Nat.zero_add, World.cell?_alloc_mark, h k hk]⟩
theorem row_alloc {w : World} {a : Option Addr} {n : Nat} {f : Nat → Value} (h : Row w a n f) (o : Obj) : Row (w.alloc o) a n f := h.kept ((Below.refl _ w).alloc (Nat.le_refl _) o)
def baW (w : World) : World := ((w.alloc (.cells #[.int .u8 98, .int .u8 97] 5 (2, 3))).alloc (.cells #[.int .u8 97] 5 (1, 2))).alloc (.cells #[.slice (some ⟨w.heap.size, 0, none⟩) 2 2, .slice (some ⟨w.heap.size + 1, 0, none⟩) 1 1] 28)
theorem baA_at (w : World) : DocsAt (baW w) (some ⟨w.heap.size + 1 + 1, 0, none⟩)
    (fun r => if r = 0 then some ⟨w.heap.size, 0, none⟩ else some ⟨w.heap.size + 1, 0, none⟩) (fun r => if r = 0 then 2 else 1) baA := by
  have r1 := row_marked w #[.int .u8 98, .int .u8 97] 5 (2, 3) (byteV [98, 97]) (by
    intro i hi
    match i, hi with
    | 0, _ => rfl
    | 1, _ => rfl)
  have r2 := row_marked (w.alloc (.cells #[.int .u8 98, .int .u8 97] 5 (2, 3))) #[.int .u8 97] 5 (1, 2) (byteV [97]) (by
    intro i hi
    match i, hi with
    | 0, _ => rfl)
  have r3 := row_marked ((w.alloc (.cells #[.int .u8 98, .int .u8 97] 5 (2, 3))).alloc (.cells #[.int .u8 97] 5 (1, 2))) #[.slice (some ⟨w.heap.size, 0, none⟩) 2 2, .slice (some ⟨w.heap.size + 1, 0, none⟩) 1 1] 28 (0, 0)
    (fun r => .slice (if r = 0 then some ⟨w.heap.size, 0, none⟩ else some ⟨w.heap.size + 1, 0, none⟩) (baA.getD r []).length (if r = 0 then 2 else 1)) (by
    intro i hi
    match i, hi with
    | 0, _ => rfl
    | 1, _ => rfl)
  simp only [World.size_alloc] at r2 r3
  refine ⟨r3, fun r hr => ?_⟩
  match r, hr with
  | 0, _ => exact row_alloc (row_alloc r1 _) _
  | 1, _ => exact row_alloc r2 _
theorem baW_below (w : World) : Below w.heap.size w (baW w) := (((Below.refl _ w).alloc (Nat.le_refl _) _).alloc (by simp) _).alloc (by simp; omega) _
end Go.Proofs.Ytelndbjjkhlacaa
