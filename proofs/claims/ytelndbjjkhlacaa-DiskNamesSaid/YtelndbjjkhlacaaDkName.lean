/-
  Is a text a name?
-/
import Derived.Test.YtelndbjjkhlacaaDkTurn
namespace Go.Proofs.Ytelndbjjkhlacaa
open Go.RowKit Go.Maps

def okC (c : Nat) : Bool := decide (97 ≤ c ∧ c ≤ 122) || decide (48 ≤ c ∧ c ≤ 57) || decide (c = 46)
def okN (s : ByteArray) : Bool := decide (1 ≤ s.size ∧ s.size ≤ 20) && (List.range s.size).all fun i => okC (s.data.getD i 0).toNat
set_option maxRecDepth 100000 in
set_option maxHeartbeats 1000000 in
theorem name_any (w : World) (s : ByteArray) (hs : s.size ≤ maxLen) :
    Calls Try.prog 32 #[.string s] w fun e w' => e = .returned (.bool (okN s)) ∧ ∃ k, w' = w.drewN k := by
  unfold maxLen at hs
  by_cases h1 : s.size < 1
  · have e : okN s = false := by unfold okN; rw [decide_eq_false (by omega)]; rfl
    rw [e]
    clear e
    go_enter Try.func32, Try.ntmps32
    go_wp2
    go_ret
    exact ⟨rfl, 0, rfl⟩
  by_cases h2 : 20 < s.size
  · have e : okN s = false := by unfold okN; rw [decide_eq_false (by omega)]; rfl
    rw [e]
    have t1 : decide ((s.size : Int) < 1) = false := by simp; omega
    have t2 : (20 : Int) < (s.size : Int) := by omega
    clear e h1 h2
    go_enter Try.func32, Try.ntmps32
    go_wp2
    go_ret
    exact ⟨rfl, 0, rfl⟩
  have t1 : decide ((s.size : Int) < 1) = false := by simp; omega
  have t2 : decide ((20 : Int) < (s.size : Int)) = false := by simp; omega
  have e : okN s = (List.range s.size).all fun i => okC (s.data.getD i 0).toNat := by unfold okN; rw [decide_eq_true ⟨by omega, by omega⟩]; rfl
  rw [e]
  clear e h1 h2
  generalize hbb : ((List.range s.size).all fun i => okC (s.data.getD i 0).toNat) = bb
  have HBB := Lib.hid hbb
  clear hbb
  go_enter Try.func32, Try.ntmps32
  go_wp2
  have hl : s.size ≤ 20 := by simp at t2; omega
  clear t1 t2 hs
  go_loopw [3, 4, 15] (fun _ _ v15 wr => ∃ i : Nat, i ≤ s.size ∧ v15 = .int .i64 (i : Int) ∧ (∀ q, q < i → okC (s.data.getD q 0).toNat = true) ∧ ∃ j, wr = w.drewN j) (fun _ _ v15 _ => s.size - (intOf v15).toNat)
  case atStart => exact ⟨0, Nat.zero_le _, rfl, fun q hq => by omega, 0, rfl⟩
  case round =>
    obtain ⟨i, hi, rfl, hok, j, rfl⟩ := hrel
    have HOK := Lib.hid hok
    clear hok
    by_cases hlt : i < s.size
    · have hcd : (s.data.getD i 0).toNat = s[i].toNat := by
        have : s.data.getD i 0 = s[i] := by
          rw [Array.getD, dif_pos (show i < s.data.size from hlt)]; rfl
        rw [this]
      have HNO : Hid (okC s[i].toNat = false → bb = false) := fun h => by
        rw [← HBB.out, List.all_eq_false]
        exact ⟨i, List.mem_range.2 hlt, by rw [hcd, h]; simp⟩
      have HST : Hid (okC s[i].toNat = true → ∀ q, q < i + 1 → okC (s.data.getD q 0).toNat = true) := fun h q hq => by
        rcases Nat.lt_or_ge q i with h9 | h9
        · exact HOK.out q h9
        · obtain rfl : q = i := by omega
          rw [hcd]; exact h
      clear hcd HOK HBB
      go_wp2_with fail
      all_goals
        generalize s[i].toNat = c at *
        first
          | (refine ⟨⟨i + 1, by omega, by go_num, HST.out ?_, j, rfl⟩, by simp [intOf]; omega⟩
             unfold okC
             simp only [Bool.or_eq_true, decide_eq_true_eq]
             try simp only [bne_eq_false_iff_eq] at *
             omega)
          | (obtain rfl : bb = false := HNO.out (by
               unfold okC
               simp only [Bool.or_eq_false_iff, decide_eq_false_iff_not]
               try simp only [bne_iff_ne, ne_eq] at *
               omega)
             go_ret
             exact ⟨rfl, _, rfl⟩)
    · obtain rfl : i = s.size := by omega
      have t1 : decide ((s.size : Int) < (s.size : Int)) = false := by simp
      obtain rfl : bb = true := by rw [← HBB.out]; exact List.all_eq_true.2 fun q hq => HOK.out q (List.mem_range.1 hq)
      go_wp2
      go_ret
      exact ⟨rfl, _, rfl⟩
end Go.Proofs.Ytelndbjjkhlacaa
