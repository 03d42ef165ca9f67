/-
  concordanceref9.Starts, May, Len.
-/
import Derived.Test.YtjpoebmjfedecaaRefSame
namespace Go.Proofs.Ytjpoebmjfedecaa
open Go.RowKit

theorem st_take (L : List Nat) (i q : Nat) (hi : i < L.length) : stC (L.take (i + 1)) q = stC (L.take i) q + if L.getD i 0 < q then 1 else 0 := by
  unfold stC below
  rw [take_succ_getD L i hi, List.filter_append, List.length_append]
  congr 1
  generalize L.getD i 0 = x
  by_cases e : x < q <;> simp [e]
theorem st_take_zero (L : List Nat) (q : Nat) : stC (L.take 0) q = 0 := by unfold stC below; rfl
theorem st_take_le (L : List Nat) (i q : Nat) : stC (L.take i) q ≤ i := Nat.le_trans (stC_le _ _) (by rw [List.length_take]; omega)
def RStPost (w : World) (L : List Nat) (e : Ending) (w' : World) : Prop :=
  ∃ b, e = .returned (.slice (some ⟨b, 0, none⟩) 257 257) ∧ w'.rowIs b 3 257 (fun c => .int .i64 ((stC L c : Nat) : Int)) ∧ w.heap.size ≤ b ∧ Below w.heap.size w w'
theorem str_len (es : List (List Nat)) : es.length + ((es.map List.length).sum) = (rowOf es).length := by
  induction es with
  | nil => rfl
  | cons d es ih =>
    rw [show rowOf (d :: es) = (d.map (· + 1) ++ [0]) ++ rowOf es from rfl]
    simp only [List.length_cons, List.map_cons, List.sum_cons, List.length_append, List.length_map, List.length_nil]
    omega
/-- the sum of so many, and as many as there are -/
def lenTo (es : List (List Nat)) (i : Nat) : Nat := startOf es i + (es.length - i)
theorem lenTo_zero (es : List (List Nat)) : lenTo es 0 = es.length := by unfold lenTo; rw [startOf_zero]; omega
theorem lenTo_succ (es : List (List Nat)) (i : Nat) (h : i < es.length) : lenTo es (i + 1) = lenTo es i + (es.getD i []).length := by unfold lenTo; rw [startOf_succ es i h]; omega
theorem lenTo_all (es : List (List Nat)) : lenTo es es.length = (rowOf es).length := by unfold lenTo; rw [startOf_all]; omega
theorem lenTo_le (es : List (List Nat)) (i : Nat) (h : i ≤ es.length) : lenTo es i ≤ (rowOf es).length + es.length := by
  unfold lenTo
  have := startOf_mono es h (Nat.le_refl _)
  rw [startOf_all] at this
  omega
attribute [irreducible] lenTo
set_option maxRecDepth 100000 in
set_option maxHeartbeats 1000000 in
theorem reflen_any (w : World) (a : Option Addr) (cap : Nat) (es : List (List Nat)) (hr : Row w a es.length (strV es)) (hl : (rowOf es).length ≤ 100000000) :
    Calls Try.prog 32 #[.slice a es.length cap] w fun e w' => e = .returned (.int .i64 (((rowOf es).length : Nat) : Int)) ∧ w = w' := by
  have hix := run_ix (P := Try.prog) 40 (by kernel_rfl) size_str a es.length cap hr.at_ .i64
  have HR := Lib.hid hr
  have hll := len_le_row es
  have HALL := Lib.hid (lenTo_all es)
  clear hr
  go_enter Try.func32, Try.ntmps32
  go_wp2
  go_loop [3, 4] (fun nn ii => ∃ i : Nat, i ≤ es.length ∧ ii = .int .i64 i ∧ nn = .int .i64 ((lenTo es i : Nat) : Int)) (fun _ ii => es.length - (intOf ii).toNat)
  case atStart => exact ⟨0, Nat.zero_le _, rfl, by rw [lenTo_zero]⟩
  case round =>
    obtain ⟨i, hi, rfl, rfl⟩ := hrel
    by_cases hlt : i < es.length
    · have d0 : w.cell? ⟨bOf a, oOf a + i, none⟩ = some (.string (sB (es.getD i []))) := HR.out.cell i hlt
      have hsz := sB_size (es.getD i [])
      have hnx := lenTo_succ es i hlt
      have hm := lenTo_le es (i + 1) (by omega)
      rw [hnx] at hm
      have HNX := Lib.hid hnx
      generalize sB (es.getD i []) = s at *
      generalize (es.getD i []).length = n at *
      generalize lenTo es i = q at *
      clear hnx
      go_wp2
      go_round
      case rel => exact ⟨i + 1, by omega, by go_num, by (rw [HNX.out]) <;> go_num⟩
      case measure => simp [intOf]; omega
    · obtain rfl : i = es.length := by omega
      have hd : decide ((es.length : Int) < es.length) = false := by simp
      rw [HALL.out]
      go_wp2
      go_ret
      exact ⟨rfl, rfl⟩
/-- texts that the document takes -/
def mayB (es : List (List Nat)) : Bool := decide ((∀ d ∈ es, d.length ≤ 2000) ∧ (rowOf es).length ≤ 60000)
end Go.Proofs.Ytjpoebmjfedecaa
