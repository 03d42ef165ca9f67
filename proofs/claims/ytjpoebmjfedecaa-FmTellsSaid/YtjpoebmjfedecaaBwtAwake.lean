/-
  What the statements on ends ask at every input: concordancelaw11.awake.
-/
import Derived.Test.YtjpoebmjfedecaaBwtDocsPut
namespace Go.Proofs.Ytjpoebmjfedecaa
open Go.RowKit

def baB : List (List Nat) := [[98, 97]]
theorem baB_ok : NewOk baB := ⟨by decide, by decide, by decide, by decide⟩
theorem baB_sa : IsSA (ordS baB) (rowOf baB).length [2, 1, 0] := by
  have h1 : ltS (ordS baB) 2 1 := ⟨0, by decide +kernel, fun i hi => by omega⟩
  have h2 : ltS (ordS baB) 1 0 := ⟨0, by decide +kernel, fun i hi => by omega⟩
  have e : (rowOf baB).length = 3 := rfl
  rw [e]
  refine ⟨rfl, fun x => ?_, ?_⟩
  · simp; omega
  · simp only [List.pairwise_cons, List.mem_cons, List.not_mem_nil, or_false, forall_eq_or_imp, forall_eq, List.Pairwise.nil, and_true, false_implies, implies_true]
    exact ⟨⟨h1, ltS_trans h1 h2⟩, h2⟩
theorem baB_bwt : bwtOf baB = [98, 99, 0] := by
  have e : saOf baB = [2, 1, 0] := (saOf_sa baB).one baB_sa
  unfold bwtOf
  rw [e]; rfl
theorem docs_one : ∀ ds, ¬ DocsL [98] ds := fun ds h => by
  have h1 := h.1.many
  have h2 := h.1.all
  have e : stC [98] 1 = 0 := by unfold stC below; rfl
  rw [e] at h1
  have : ds = [] := List.eq_nil_of_length_eq_zero h1
  subst this
  simp [rowOf_nil] at h2
def baX (w : World) : World := (w.alloc (.cells #[.int .u8 98, .int .u8 97] 5 (2, 3))).alloc (.cells #[.slice (some ⟨w.heap.size, 0, none⟩) 2 2] 22)
theorem baX_at (w : World) : DocsAt (baX w) (some ⟨w.heap.size + 1, 0, none⟩) (fun _ => some ⟨w.heap.size, 0, none⟩) (fun _ => 2) baB := by
  have r1 := row_marked w #[.int .u8 98, .int .u8 97] 5 (2, 3) (byteV [98, 97]) (by
    intro i hi
    match i, hi with
    | 0, _ => rfl
    | 1, _ => rfl)
  have r3 := row_marked (w.alloc (.cells #[.int .u8 98, .int .u8 97] 5 (2, 3))) #[.slice (some ⟨w.heap.size, 0, none⟩) 2 2] 22 (0, 0)
    (fun r => .slice (some ⟨w.heap.size, 0, none⟩) (baB.getD r []).length 2) (by
    intro i hi
    match i, hi with
    | 0, _ => rfl)
  simp only [World.size_alloc] at r3
  refine ⟨r3, fun r hr => ?_⟩
  match r, hr with
  | 0, _ => exact row_alloc r1 _
theorem baX_below (w : World) : Below w.heap.size w (baX w) := ((Below.refl _ w).alloc (Nat.le_refl _) _).alloc (by simp) _
theorem syms3 (w : World) : Row (w.alloc (.cells #[.int .u16 98, .int .u16 99, .int .u16 0] 110)) (some ⟨w.heap.size, 0, none⟩) [98, 99, 0].length (symV [98, 99, 0]) :=
  row_marked w #[.int .u16 98, .int .u16 99, .int .u16 0] 110 (0, 0) (symV [98, 99, 0]) (by
    intro i hi
    match i, hi with
    | 0, _ => rfl
    | 1, _ => rfl
    | 2, _ => rfl)
theorem syms1 (w : World) : Row (w.alloc (.cells #[.int .u16 98] 110)) (some ⟨w.heap.size, 0, none⟩) [98].length (symV [98]) :=
  row_marked w #[.int .u16 98] 110 (0, 0) (symV [98]) (by
    intro i hi
    match i, hi with
    | 0, _ => rfl)
theorem great3 : anyGreat [98, 99, 0] = false := by unfold anyGreat; rfl
theorem great1 : anyGreat [98] = false := by unfold anyGreat; rfl
end Go.Proofs.Ytjpoebmjfedecaa
