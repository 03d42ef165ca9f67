/-
  slices.Reverse on bytes of the call's own.
-/
import Derived.Test.YtjpoebmjfedecaaDocsOwn
namespace Go.Proofs.Ytjpoebmjfedecaa
open Go.RowKit

def byteVs (d : List Nat) : List Value := d.map fun c : Nat => .int .u8 (c : Int)
theorem byteVs_len (d : List Nat) : (byteVs d).length = d.length := by simp [byteVs]
theorem byteVs_at (d : List Nat) (k : Nat) (h : k < d.length) : (byteVs d)[k]? = some (.int .u8 ((d.getD k 0 : Nat) : Int)) := by
  unfold byteVs
  rw [List.getElem?_map, List.getD_eq_getElem?_getD, List.getElem?_eq_getElem h]; rfl
theorem byteVs_set (d : List Nat) (k c : Nat) : (byteVs d).set k (.int .u8 (c : Int)) = byteVs (d.set k c) := by
  unfold byteVs
  rw [List.map_set]
theorem byteVs_snoc (d : List Nat) (c : Nat) : byteVs (d ++ [c]) = byteVs d ++ [.int .u8 (c : Int)] := by simp [byteVs]
theorem byteVs_row {w : World} {a : Option Addr} {d : List Nat} (h : Row w a d.length (fun k => (byteVs d).getD k undef)) : Row w a d.length (byteV d) :=
  h.congr fun k hk => by rw [List.getD_eq_getElem?_getD, byteVs_at d k hk]; rfl
attribute [irreducible] byteVs
/-- half turned -/
def revI (d : List Nat) (i : Nat) : List Nat := (List.range d.length).map fun k => if k < i ∨ d.length - 1 - k < i then d.getD (d.length - 1 - k) 0 else d.getD k 0
theorem revI_len (d : List Nat) (i : Nat) : (revI d i).length = d.length := by simp [revI]
theorem revI_at (d : List Nat) (i k : Nat) (h : k < d.length) : (revI d i).getD k 0 = if k < i ∨ d.length - 1 - k < i then d.getD (d.length - 1 - k) 0 else d.getD k 0 := by
  unfold revI; rw [List.getD_eq_getElem?_getD, List.getElem?_map, List.getElem?_range h]; rfl
theorem revI_zero (d : List Nat) : revI d 0 = d := by
  refine syms_eq (revI_len d 0) (fun k hk => ?_)
  rw [revI_len] at hk
  rw [revI_at d 0 k hk, if_neg (by omega)]
theorem set_at (l : List Nat) (i c k : Nat) (hi : i < l.length) : (l.set i c).getD k 0 = if k = i then c else l.getD k 0 := by
  rw [List.getD_eq_getElem?_getD, List.getElem?_set]
  by_cases e : i = k
  · subst e; simp [hi]
  · rw [if_neg e, if_neg (Ne.symm e), List.getD_eq_getElem?_getD]
theorem revI_succ (d : List Nat) (i : Nat) (h : i + 1 < d.length - i) : revI d (i + 1) = ((revI d i).set i ((revI d i).getD (d.length - 1 - i) 0)).set (d.length - 1 - i) ((revI d i).getD i 0) := by
  refine syms_eq (by simp [revI_len]) (fun k hk => ?_)
  rw [revI_len] at hk
  rw [set_at _ _ _ _ (by simp [revI_len]; omega), set_at _ _ _ _ (by simp [revI_len]; omega)]
  rw [revI_at d (i + 1) k hk, revI_at d i k hk, revI_at d i i (by omega), revI_at d i (d.length - 1 - i) (by omega)]
  by_cases e1 : k = d.length - 1 - i
  · subst e1
    rw [if_pos (by omega), if_pos rfl, if_neg (by omega), show d.length - 1 - (d.length - 1 - i) = i by omega]
  · rw [if_neg e1]
    by_cases e2 : k = i
    · subst e2
      rw [if_pos rfl, if_pos (by omega), if_neg (by omega)]
    · rw [if_neg e2]
      by_cases c : k < i ∨ d.length - 1 - k < i
      · rw [if_pos c, if_pos (by omega)]
      · rw [if_neg c, if_neg (by omega)]
theorem revI_all (d : List Nat) (i : Nat) (h : d.length - i ≤ i + 1) : revI d i = d.reverse := by
  refine syms_eq (by simp [revI_len]) (fun k hk => ?_)
  rw [revI_len] at hk
  rw [revI_at d i k hk]
  have e : d.reverse.getD k 0 = d.getD (d.length - 1 - k) 0 := by
    rw [List.getD_eq_getElem?_getD, List.getElem?_reverse hk, List.getD_eq_getElem?_getD]
  rw [e]
  by_cases c : k < i ∨ d.length - 1 - k < i
  · rw [if_pos c]
  · rw [if_neg c, show d.length - 1 - k = k by omega]
attribute [irreducible] revI
def RevPost (w : World) (base : Nat) (v : Value) (d : List Nat) (e : Ending) (w' : World) : Prop :=
  e = .returned (.tuple #[]) ∧ w'.ownsRow base 5 1 v d.length (byteVs d.reverse) ∧ Below base w w' ∧ w.heap.size ≤ w'.heap.size
set_option maxRecDepth 100000 in
set_option maxHeartbeats 1000000 in
theorem reverse_any (w : World) (base : Nat) (a : Option Addr) (cap : Nat) (d : List Nat) (hn : d.length ≤ 1000000) (h : w.ownsRow base 5 1 (.slice a d.length cap) d.length (byteVs d)) :
    Calls Try.prog 59 #[.slice a d.length cap] w (RevPost w base (.slice a d.length cap) d) := by
  have hix := run_ix (P := Try.prog) 22 (by kernel_rfl) size_u8 a d.length cap (owns_row h).1.at_ .i64
  have HO := Lib.hid h
  clear h
  have e0 : IntKind.i64.wrap ((d.length : Int) - 1) = (d.length : Int) - 1 := IntWalk.i64_in _ (by omega)
  go_enter Try.func59, Try.ntmps59
  go_wp2
  go_loopw [2, 3] (fun ii jj wr => ∃ i : Nat, i ≤ d.length ∧ ii = .int .i64 i ∧ jj = .int .i64 ((d.length : Int) - 1 - i) ∧ wr.ownsRow base 5 1 (.slice a d.length cap) d.length (byteVs (revI d i)) ∧ Below base w wr ∧ w.heap.size ≤ wr.heap.size) (fun ii _ _ => d.length - (intOf ii).toNat)
  case atStart => exact ⟨0, Nat.zero_le _, rfl, by simp, by rw [revI_zero]; exact HO.out, Below.refl _ _, Nat.le_refl _⟩
  case round =>
    obtain ⟨i, hi, rfl, rfl, hown, hbel, hsz⟩ := hrel
    by_cases hlt : i + 1 < d.length - i
    · obtain ⟨j, hj⟩ : ∃ j, j = d.length - 1 - i := ⟨_, rfl⟩
      have hjz : (d.length : Int) - 1 - (i : Int) = (j : Int) := by omega
      rw [hjz]
      have hij : (i : Int) < (j : Int) := by omega
      have hil : i < d.length := by omega
      have hjl : j < d.length := by omega
      obtain ⟨c1, f1, k1, b1, s1⟩ := owns_store hown i hil
      obtain ⟨c2, f2, k2, b2, s2⟩ := owns_store hown j hjl
      rw [byteVs_at _ _ (by rw [revI_len]; exact hil)] at c1
      rw [byteVs_at _ _ (by rw [revI_len]; exact hjl)] at c2
      have hnx := revI_succ d i hlt
      rw [← hj] at hnx
      generalize hx : (revI d i).getD i 0 = x at *
      generalize hy : (revI d i).getD j 0 = y at *
      obtain ⟨o1, g1⟩ := s1 (.int .u8 (y : Int))
      obtain ⟨c3, f3, k3, b3, s3⟩ := owns_store o1 j hjl
      obtain ⟨o2, g2⟩ := s3 (.int .u8 (x : Int))
      rw [byteVs_set, byteVs_set, ← hnx] at o2
      rw [byteVs_set, byteVs_at _ _ (by rw [List.length_set, revI_len]; exact hjl), set_at _ _ _ _ (by rw [revI_len]; exact hil), if_neg (by omega), hy] at c3
      have HO2 := Lib.hid o2
      have HG1 := Lib.hid g1
      have HG2 := Lib.hid g2
      have HB := Lib.hid hbel
      have HS1 := Lib.hid g1.size
      have HS2 := Lib.hid g2.size
      have hgl : base ≤ wr.heap.size := Nat.le_trans b1 (Nat.le_of_lt (World.block_lt_of_cell? wr _ c1))
      clear hown hbel s1 s2 s3 hnx o1 o2 g1 g2 hx hy hj k1 k2 k3 b2 b3 e0
      go_wp2_with fail
      go_region
      clear c1 c2 c3 f1 f2 f3
      go_wp2
      go_roundw
      case rel => exact ⟨i + 1, by omega, by go_num, by (refine congrArg (Value.int .i64) ?_) <;> omega, HO2.out, ((HB.out.grown HG1.out hgl (fun k hk => by cases hk; exact b1)).grown HG2.out (Nat.le_trans hgl HS1.out) (fun k hk => by cases hk; exact b1)).drew, by have := HS1.out; have := HS2.out; exact Nat.le_trans hsz (Nat.le_trans HS1.out HS2.out)⟩
      case measure => simp [intOf]; omega
    · have hij : decide ((i : Int) < (d.length : Int) - 1 - (i : Int)) = false := by simp; omega
      rw [revI_all d i (by omega)] at hown
      have HO2 := Lib.hid hown
      have HB := Lib.hid hbel
      clear hown hbel e0
      generalize (d.length : Int) - 1 - (i : Int) = jz at *
      go_wp2
      go_end0
      exact ⟨rfl, HO2.out, HB.out, hsz⟩
end Go.Proofs.Ytjpoebmjfedecaa
