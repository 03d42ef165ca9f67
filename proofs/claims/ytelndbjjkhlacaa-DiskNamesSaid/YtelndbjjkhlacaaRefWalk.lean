/-
  The document's own functions on texts: Strings, Place, less, sorted, Rows, Array.
-/
import Derived.Test.YtelndbjjkhlacaaSufLaw
import Derived.Test.YtelndbjjkhlacaaRefMath
namespace Go.Proofs.Ytelndbjjkhlacaa
open Go.RowKit

/-- bytes as a string -/
def sB (d : List Nat) : ByteArray := ⟨(d.map UInt8.ofNat).toArray⟩
theorem sB_size (d : List Nat) : (sB d).size = d.length := by simp [sB, ByteArray.size]
theorem sB_list (d : List Nat) : (sB d).toList = d.map UInt8.ofNat := by unfold sB; exact ByteArray.toList_mk _
theorem sB_drop (d : List Nat) (k : Nat) : (sB d).extract k (sB d).size = sB (d.drop k) := by
  rw [sB_size]
  unfold sB
  apply ByteArray.ext
  rw [ByteArray.data_extract]
  apply Array.ext'
  simp [List.map_drop]
  exact List.take_of_length_le (by simp)
theorem ofNat_inj {a b : Nat} (ha : a < 256) (hb : b < 256) : UInt8.ofNat a = UInt8.ofNat b ↔ a = b := by
  constructor
  · intro h
    have := congrArg UInt8.toNat h
    simp at this; omega
  · intro h; rw [h]
theorem map_inj {x y : List Nat} (hx : ∀ c ∈ x, c < 256) (hy : ∀ c ∈ y, c < 256) : x.map UInt8.ofNat = y.map UInt8.ofNat ↔ x = y := by
  induction x generalizing y with
  | nil => cases y <;> simp
  | cons a x ih =>
    cases y with
    | nil => simp
    | cons b y =>
      simp only [List.map_cons, List.cons.injEq]
      rw [ofNat_inj (hx a (by simp)) (hy b (by simp)), ih (fun c hc => hx c (by simp [hc])) (fun c hc => hy c (by simp [hc]))]
theorem sB_eq (x y : List Nat) (hx : ∀ c ∈ x, c < 256) (hy : ∀ c ∈ y, c < 256) : ((sB x).toList == (sB y).toList) = decide (x = y) := by
  rw [sB_list, sB_list]
  by_cases h : x = y
  · subst h; simp
  · have : ¬ x.map UInt8.ofNat = y.map UInt8.ofNat := fun e => h ((map_inj hx hy).1 e)
    simp [h, this]
theorem sB_lt : ∀ (x y : List Nat), (∀ c ∈ x, c < 256) → (∀ c ∈ y, c < 256) → Op.bytesLess (x.map UInt8.ofNat) (y.map UInt8.ofNat) = lexB x y
  | [], [], _, _ => rfl
  | _ :: _, [], _, _ => rfl
  | [], _ :: _, _, _ => rfl
  | a :: x, b :: y, hx, hy => by
    have h1 := hx a (by simp)
    have h2 := hy b (by simp)
    simp only [List.map_cons, Op.bytesLess, lexB]
    rw [sB_lt x y (fun c hc => hx c (by simp [hc])) (fun c hc => hy c (by simp [hc]))]
    congr 1
    · rw [decide_eq_decide, UInt8.lt_iff_toNat_lt]; simp; omega
    · congr 1
      by_cases e : a = b
      · simp [e]
      · have : ¬ UInt8.ofNat a = UInt8.ofNat b := fun h => e ((ofNat_inj h1 h2).1 h)
        simp [e, this]
theorem sB_less (x y : List Nat) (hx : ∀ c ∈ x, c < 256) (hy : ∀ c ∈ y, c < 256) : Op.bytesLess (sB x).toList (sB y).toList = lexB x y := by rw [sB_list, sB_list, sB_lt x y hx hy]
attribute [irreducible] sB

theorem size_str (w : World) : (sizeOf (Try.prog.elem 45)).run Try.prog w = .ok 1 w := by kernel_rfl
theorem info_str : (Try.prog.info? 9).map (fun i => (i.zero, i.size, i.bytes)) = some (some (.string ByteArray.empty), 1, 16) := by kernel_rfl
abbrev strV (ds : List (List Nat)) : Nat → Value := fun r => .string (sB (ds.getD r []))
/-- bytes turned to a string -/
theorem conv_str (W : World) (a : Option Addr) (d : List Nat) (cap : Nat) (h : Row W a d.length (byteV d)) : (convert 28 9 (.slice a d.length cap)).run Try.prog W = .ok (.string (sB d)) W := by
  cases a with
  | none =>
    have : d.length = 0 := by rcases h.at_ with h | h; · exact h
                              · cases h
    have : d = [] := List.eq_nil_of_length_eq_zero this
    subst this
    rw [run_convert_bytes_nil W 28 5 Try.underlying28 Try.underlying5 _ _ 9 Try.underlying9]
    rw [show sB [] = ByteArray.empty by unfold sB; rfl]
  | some ad =>
    have e : strOfNums (d.map Int.ofNat) = sB d := by
      unfold strOfNums sB
      congr 2
      rw [List.map_map]
      exact List.map_congr_left fun c _ => rfl
    rcases h.at_ with h0 | h0
    · have : d = [] := List.eq_nil_of_length_eq_zero h0
      subst this
      rw [run_convert_bytes_string W 28 9 5 _ _ cap Try.underlying28 Try.underlying5 Try.underlying9]
      have := run_bytesToString (P := Try.prog) W ad 0 cap [] (by simp [loadCells, loadCellsFrom])
      simp only [List.length_nil]
      rw [this, ← e]; rfl
    · obtain ⟨b, o, sp⟩ := ad
      obtain rfl : sp = none := by injection h0 with h0; injection h0
      have := run_convert_bytes_arg (P := Try.prog) W 28 5 Try.underlying28 Try.underlying5 b o d.length cap (d.map Int.ofNat) (by simp) (fun i hi => by
        refine (h.cell i hi).trans ?_
        simp [List.getD_eq_getElem?_getD, hi]) 9 Try.underlying9
      rw [this, e]

def StrsPost (w : World) (ds : List (List Nat)) (e : Ending) (w' : World) : Prop :=
  ∃ a cap, e = .returned (.slice a ds.length cap) ∧ Row w' a ds.length (strV ds) ∧ Below w.heap.size w w'
end Go.Proofs.Ytelndbjjkhlacaa
