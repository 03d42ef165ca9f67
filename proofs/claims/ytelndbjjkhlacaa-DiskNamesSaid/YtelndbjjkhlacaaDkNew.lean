/-
  A new disk.
-/
import Derived.Test.YtelndbjjkhlacaaDkTurn
namespace Go.Proofs.Ytelndbjjkhlacaa
open Go.RowKit Go.Maps

def newS (q : Int) : DSt := ⟨q, 0, -1, 0, 0, false, [], fun _ => [], fun _ => 0, .map [], .map [], []⟩
def newW (w : World) (q : Int) : World := ((w.alloc (.map #[] 0)).alloc (.map #[] 0)).alloc (.cells #[.int .i64 q, .int .i64 0, .int .i64 (-1), .int .i64 0, .int .i64 0, .bool false, .slice none 0 0, .map (some w.heap.size), .map (some (w.heap.size + 1)), .slice none 0 0] 60)
theorem new_at (w : World) (q : Int) : DiskAt w.heap.size (newW w q) (w.heap.size + 2) (newS q) := by
  have h1 : NmAt (w.alloc (.map #[] 0)) w.heap.size (.map []) := nm_of (World.ownsMap_made w _ _ _)
  have h2 : NmAt ((w.alloc (.map #[] 0)).alloc (.map #[] 0)) (w.heap.size + 1) (.map []) := by
    have := nm_of (World.ownsMap_made (w.alloc (.map #[] 0)) Try.prog 9 fileR)
    rwa [World.size_alloc] at this
  have hb : ∀ (W : World) (o : Obj) (b : Nat), b < W.heap.size → (W.alloc o).heap[b]? = W.heap[b]? := fun W o b h => Below.heap_alloc W o b h
  have h3 := World.rowIs_alloc ((w.alloc (.map #[] 0)).alloc (.map #[] 0)) #[.int .i64 q, .int .i64 0, .int .i64 (-1), .int .i64 0, .int .i64 0, .bool false, .slice none 0 0, .map (some w.heap.size), .map (some (w.heap.size + 1)), .slice none 0 0] 60 (diskV (newS q) (.slice none 0 0) (.slice none 0 0) w.heap.size (w.heap.size + 1)) (by
    intro i hi
    match i, hi with
    | 0, _ => rfl
    | 1, _ => rfl
    | 2, _ => rfl
    | 3, _ => rfl
    | 4, _ => rfl
    | 5, _ => rfl
    | 6, _ => rfl
    | 7, _ => rfl
    | 8, _ => rfl
    | 9, _ => rfl)
  rw [World.size_alloc, World.size_alloc] at h3
  refine ⟨fun b => if b = w.heap.size + 2 then .disk else if b = w.heap.size then .names else if b = w.heap.size + 1 then .last else .other, .slice none 0 0, .slice none 0 0, w.heap.size, w.heap.size + 1, fun _ => .slice none 0 0, ?_⟩
  refine ⟨h3, (h1.of_block ((hb _ _ _ (by simp; omega)).trans (hb _ _ _ (by simp)))), h2.of_block (hb _ _ _ (by simp)), World.ownsRow_nil _ _ _ _, World.ownsRow_nil _ _ _ _, fun f hf => (by cases hf), fun f hf => (by cases hf), if_pos rfl, ?_, ?_, fun g hg => by simp [Value.ownBlock] at hg, fun g hg => by simp [Value.ownBlock] at hg, fun f hf => (by cases hf), fun f hf => (by cases hf), fun b hb => ?_⟩
  · show (if w.heap.size = w.heap.size + 2 then Role.disk else if w.heap.size = w.heap.size then .names else _) = _
    rw [if_neg (by omega), if_pos rfl]
  · show (if w.heap.size + 1 = w.heap.size + 2 then Role.disk else if w.heap.size + 1 = w.heap.size then .names else if w.heap.size + 1 = w.heap.size + 1 then .last else .other) = _
    rw [if_neg (by omega), if_neg (by omega), if_pos rfl]
  · show _ ∧ b < (((w.alloc (.map #[] 0)).alloc (.map #[] 0)).alloc _).heap.size
    simp only [World.size_alloc]
    by_cases e1 : b = w.heap.size + 2
    · omega
    by_cases e2 : b = w.heap.size
    · omega
    by_cases e3 : b = w.heap.size + 1
    · omega
    · simp [e1, e2, e3] at hb
theorem newW_below (w : World) (q : Int) : Below w.heap.size w (newW w q) := (((Below.refl _ w).alloc (Nat.le_refl _) _).alloc (by simp) _).alloc (by simp; omega) _
theorem new_ok (q : Int) (h : 0 ≤ q ∧ q ≤ 2000000) : DOk (newS q) where
  nodup := List.nodup_nil
  names := namesOk_nil _
  last := namesOk_nil _
  turns t h := (by cases h)
  long f h := (by cases h)
  lasts f h := (by cases h)
  byte f h := (by cases h)
  tkind t h := (by cases h)
  tnames t h := (by cases h)
  few := ⟨Int.le_refl 0, Int.le_refl 0, Int.le_refl 0⟩
  nums := ⟨h.1, h.2, Int.le_refl 0, (by omega : (0 : Int) ≤ 100000), Int.le_refl (-1), (by omega : (-1 : Int) ≤ 1000000), Int.le_refl 0, (by omega : (0 : Int) ≤ 1000000)⟩
set_option maxRecDepth 100000 in
set_option maxHeartbeats 400000 in
theorem dnew_any (w : World) (q : Int) (h : 0 ≤ q) :
    Calls Try.prog 12 #[.int .i64 q] w fun e w' => e = .returned (.pointer (some ⟨w.heap.size + 2, 0, none⟩)) ∧ w' = newW w q := by
  have em : max q 0 = q := by omega
  have hmm := @run_makeMap Try.prog
  go_enter Try.func12, Try.ntmps12
  go_wp2
  go_ret
  exact ⟨rfl, rfl⟩
end Go.Proofs.Ytelndbjjkhlacaa
