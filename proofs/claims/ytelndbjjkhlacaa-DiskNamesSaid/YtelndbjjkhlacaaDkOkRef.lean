/-
  The document's answer: is a text a name?
-/
import Derived.Test.YtelndbjjkhlacaaDkOne
namespace Go.Proofs.Ytelndbjjkhlacaa
open Go.RowKit Go.Maps

set_option maxRecDepth 100000 in
set_option maxHeartbeats 1000000 in
theorem ok4_any (w : World) (s : ByteArray) (hs : s.size ≤ 100) :
    Calls Try.prog 31 #[.string s] w fun e w' => e = .returned (.bool (okN s)) ∧ ∃ k, w' = w.drewN k := by
  generalize hbb : ((List.range s.size).all fun i => okC (s.data.getD i 0).toNat) = bb
  have HBB := Lib.hid hbb
  have HON : Hid (okN s = (decide (1 ≤ s.size ∧ s.size ≤ 20) && bb)) := by show _ = _; rw [← hbb]; rfl
  clear hbb
  go_enter Try.func31, Try.ntmps31
  go_wp2
  go_loopw [3, 4] (fun v3 _ wr => ∃ i : Nat, i ≤ s.size ∧ v3 = .int .i64 (i : Int) ∧ (∀ q, q < i → okC (s.data.getD q 0).toNat = true) ∧ ∃ j, wr = w.drewN j) (fun v3 _ _ => s.size - (intOf v3).toNat)
  case atStart => exact ⟨0, Nat.zero_le _, rfl, fun q hq => by omega, 0, rfl⟩
  case round =>
    obtain ⟨i, hi, rfl, hok, j, rfl⟩ := hrel
    have HOK := Lib.hid hok
    clear hok
    by_cases hlt : i < s.size
    · have hcd : (s.data.getD i 0).toNat = s[i].toNat := by
        have : s.data.getD i 0 = s[i] := by
          rw [Array.getD, dif_pos (show i < s.data.size from hlt)]; rfl
        rw [this]
      have HNO : Hid (okC s[i].toNat = false → okN s = false) := fun h => by
        have : bb = false := by
          rw [← HBB.out, List.all_eq_false]
          exact ⟨i, List.mem_range.2 hlt, by rw [hcd, h]; simp⟩
        rw [HON.out, this, Bool.and_false]
      have HST : Hid (okC s[i].toNat = true → ∀ q, q < i + 1 → okC (s.data.getD q 0).toNat = true) := fun h q hq => by
        rcases Nat.lt_or_ge q i with h9 | h9
        · exact HOK.out q h9
        · obtain rfl : q = i := by omega
          rw [hcd]; exact h
      clear hcd HOK HBB
      go_wp2_with fail
      all_goals
        generalize s[i].toNat = c at *
        first
          | (refine ⟨⟨i + 1, by omega, by go_num, HST.out ?_, j, rfl⟩, by simp [intOf]; omega⟩
             clear HNO HST HON
             unfold okC
             try simp at *
             omega)
          | (have h0 : okC c = false := by
               clear HNO HST HON
               unfold okC
               try simp at *
               omega
             rw [HNO.out h0]
             go_ret
             exact ⟨rfl, _, rfl⟩)
    · obtain rfl : i = s.size := by omega
      have t1 : decide ((s.size : Int) < (s.size : Int)) = false := by simp
      obtain rfl : bb = true := by rw [← HBB.out]; exact List.all_eq_true.2 fun q hq => HOK.out q (List.mem_range.1 hq)
      clear HBB HOK hlt hi
      by_cases h1 : s.size < 1
      · have h3 : decide (1 ≤ s.size ∧ s.size ≤ 20) = false := decide_eq_false (by omega)
        rw [h3] at HON
        have t2 : decide ((1 : Int) ≤ (s.size : Int)) = false := decide_eq_false (by omega)
        have t3 : decide (1 ≤ s.size) = false := decide_eq_false (by omega)
        clear h1 h3
        go_wp2
        go_ret
        exact ⟨by rw [HON.out]; rfl, _, rfl⟩
      · by_cases h2 : s.size ≤ 20
        · have h3 : decide (1 ≤ s.size ∧ s.size ≤ 20) = true := decide_eq_true (by omega)
          rw [h3] at HON
          have t2 : (1 : Int) ≤ (s.size : Int) := by omega
          have t3 : (s.size : Int) ≤ 20 := by omega
          clear h1 h2 h3
          go_wp2
          go_ret
          exact ⟨by rw [HON.out]; rfl, _, rfl⟩
        · have h3 : decide (1 ≤ s.size ∧ s.size ≤ 20) = false := decide_eq_false (by omega)
          rw [h3] at HON
          have t2 : (1 : Int) ≤ (s.size : Int) := by omega
          have t3 : decide ((s.size : Int) ≤ 20) = false := decide_eq_false (by omega)
          have t4 : decide (s.size ≤ 20) = false := decide_eq_false (by omega)
          clear h1 h2 h3
          go_wp2
          go_ret
          exact ⟨by rw [HON.out]; rfl, _, rfl⟩
end Go.Proofs.Ytelndbjjkhlacaa
