/-
  The document's own order: Rows, Array.
-/
import Derived.Test.YtehgpggkicoddaaRefSort
import Derived.Deep.RegionLaw
namespace Go.Proofs.Ytehgpggkicoddaa
open Go.RowKit

def RowsPost (w : World) (ds : List (List Nat)) (e : Ending) (w' : World) : Prop :=
  ∃ a cap, e = .returned (.slice a (rowsR ds).length cap) ∧ (rowsR ds).length ≤ cap ∧ HRow w' a (rowsR ds) ∧ Below w.heap.size w w'
def arrR (ds : List (List Nat)) (i : Nat) : List Nat := ((rowsR ds).take i).map (placeOf ds)
theorem arrR_zero (ds : List (List Nat)) : arrR ds 0 = [] := rfl
theorem arrR_succ (ds : List (List Nat)) (i : Nat) (hi : i < (rowsR ds).length) : arrR ds (i + 1) = arrR ds i ++ [placeOf ds ((rowsR ds).getD i (0, 0))] := by
  unfold arrR
  rw [List.take_add_one, List.map_append, List.getD_eq_getElem?_getD, List.getElem?_eq_getElem hi]; rfl
theorem arrR_len (ds : List (List Nat)) (i : Nat) (hi : i ≤ (rowsR ds).length) : (arrR ds i).length = i := by unfold arrR; rw [List.length_map, List.length_take]; omega
theorem arrR_all (ds : List (List Nat)) : arrR ds (rowsR ds).length = (rowsR ds).map (placeOf ds) := by unfold arrR; rw [List.take_length]
attribute [irreducible] arrR
theorem arrR_sa (ds : List (List Nat)) : IsSA (ordS ds) (rowOf ds).length ((rowsR ds).map (placeOf ds)) := by
  obtain ⟨h1, h2, h3⟩ := rowsR_spec ds
  refine ⟨by rw [List.length_map, h3], fun x => ?_, by rw [List.pairwise_map]; exact h1⟩
  rw [List.mem_map]
  constructor
  · rintro ⟨p, hp, rfl⟩; exact placeOf_lt ds p ((h2 p).1 hp)
  · intro hx
    rw [← startOf_all] at hx
    obtain ⟨r, k, g1, g2, g3⟩ := place_of ds ds.length (Nat.le_refl _) x hx
    exact ⟨(r, k), (h2 (r, k)).2 ⟨g1, g2⟩, g3.symm⟩
theorem rows_len (ds : List (List Nat)) : (rowsR ds).length = (rowOf ds).length := (rowsR_spec ds).2.2
theorem rows_at (ds : List (List Nat)) (i : Nat) (hi : i < (rowsR ds).length) : validH ds ((rowsR ds).getD i (0, 0)) := by
  refine ((rowsR_spec ds).2.1 _).1 ?_
  rw [List.getD_eq_getElem?_getD, List.getElem?_eq_getElem hi]; exact List.getElem_mem _
end Go.Proofs.Ytehgpggkicoddaa
