/-
  The statement BitsTurned: its walk.
-/
import Derived.Test.YtamonbpgjhhdhaaBitsOnes
import Derived.Test.YtamonbpgjhhdhaaRowOpen
namespace Go.Proofs.Ytamonbpgjhhdhaa
open Go.RowKit

theorem cut_not (N : Nat) (f : Nat → Bool) : cut N (fun k => !f k) = neg N (cut N f) := by
  funext j; simp only [cut, neg]; cases decide (j < N) <;> simp
theorem neg_neg (N : Nat) (p : Nat → Bool) (h : ∀ j, N ≤ j → p j = false) : neg N (neg N p) = p := by
  funext j; simp only [neg]
  by_cases hj : j < N
  · simp [hj]
  · simp [hj, h j (by omega)]

/-- a call that only draws -/
theorem below_draw (w : World) (k : Nat) : Below w.heap.size w (w.drewN k) := below_drewN (Below.refl _ _) k

set_option maxRecDepth 100000 in
set_option maxHeartbeats 1000000 in
theorem turned_walk (w : World) (a : Option Addr) (len cap : Nat) (f : Nat → Bool) (hl : len ≤ maxLen) (hr : Row w a len (fun k => .bool (f k))) (n : Int) (_ : (Lit.int .i64 n).wf = true) (i : Int) (_ : (Lit.int .i64 i).wf = true) :
    Calls Try.prog 4 #[.slice a len cap, .int .i64 n, .int .i64 i] w fun e w' => e = .returned (.bool true) ∧ Below w.heap.size w w' := by
  have em : bits .and .i64 n 2047 = n % 2048 := i64_mask n 11 (by omega)
  obtain ⟨m, hm, hm2⟩ : ∃ m : Nat, n % 2048 = m ∧ m ≤ 2048 := ⟨(n % 2048).toNat, by omega, by omega⟩
  rw [hm] at em
  obtain ⟨i0, hi, hz0, hz1, hz2⟩ := info_parts info_bool
  have HL := Lib.hid (long_any w a len cap f m (by omega) hl hr)
  clear hr hm
  go_enter Try.func4, Try.ntmps4
  go_wp2_with (go_at_call 7; refine HL.out.mono ?_; rintro e w1 ⟨a1, N, cap1, rfl, hN, hNc, hr1, hb1⟩; have HN := Lib.hid hN; have HR1 := Lib.hid hr1; have HB1 := Lib.hid hb1; clear hN hr1 hb1)
  have hN3 : N ≤ 3000 := by have := HN.out; split at this <;> omega
  have hix := run_ix (P := Try.prog) 22 (by kernel_rfl) size_bool a1 N cap1 HR1.out.at_ .i64
  generalize hg : (fun k => lg f len k) = g at *
  have HR2 : Hid (Row w1 a1 N (fun k => .bool (g k))) := by rw [← hg]; exact HR1.out
  clear HL HN HR1 em hm2 hg
  go_loopw [8, 9] (fun v i wr => ∃ k : Nat, k ≤ N ∧ i = .int .i64 k ∧ wr.ownsRow w1.heap.size 4 1 v k ((List.range k).map fun k => .bool (!g k)) ∧ Below w1.heap.size w1 wr) (fun _ i _ => N - (intOf i).toNat)
  case atStart => exact ⟨0, Nat.zero_le _, rfl, World.ownsRow_nil _ _ _ _, Below.refl _ _⟩
  case round =>
    obtain ⟨k, hk, rfl, hown, hbel⟩ := hrel
    by_cases hlt : k < N
    · have d0 : wr.cell? ⟨bOf a1, oOf a1 + k, none⟩ = some (.bool (g k)) := (HR2.out.kept hbel).cell k hlt
      have hs := hbel.size
      have HB := Lib.hid hbel
      have HO := Lib.hid hown
      clear hbel hown
      go_wp2_with (at_builtin; refine wpList_append_own _ rfl _ _ 22 rfl w1.heap.size 4 i0 (.bool false) 1 1 Try.underlying22 hi hz0 hz1 hz2 rfl (by decide) _ _ _ rfl (HO.out.alloc _) ⟨wr.heap.size, 0, none⟩ 1 1 [.bool (!g k)] rfl rfl (cell_one_new _ _ _) (by simp [Value.oneCell']) (by simp only [maxLen]; omega) (by omega) (by simp; omega) ?_; intro v' w2 hown' hgrow _)
      have hlt' := HO.out.lt
      rw [snoc_range (fun k => Value.bool (!g k))] at hown'
      have HO1 := Lib.hid hown'
      have HB2 : Hid (Below w1.heap.size w1 w2) := (HB.out.alloc hs _).grown hgrow (by simp; omega) (fun g hg => (hlt' g hg).1)
      clear hown' hgrow hlt'
      go_wp2
      go_roundw
      case rel => exact ⟨k + 1, by omega, rfl, HO1.out, HB2.out⟩
      case measure => simp [intOf]; omega
    · obtain ⟨a2, cap2, rfl, hc2, hr2, _⟩ := Row.of_owns hown
      have hkN : k = N := by omega
      have hr2' : Row wr a2 k (fun k => .bool (!g k)) := hr2.congr fun j hj => by simp [List.getD_eq_getElem?_getD, hj]
      have HR3 := Lib.hid hr2'
      have HB := Lib.hid hbel
      have HK := Lib.hid hkN
      have hd : decide ((k : Int) < N) = false := by simp; omega
      clear hown hbel hr2 hr2' hkN
      go_wp2_with (first
        | (go_at_call 8; (with_reducible refine (new_any _ a1 N cap1 g (by omega) (HR2.out.kept HB.out)).mono ?_); rintro e w3 ⟨bv, bw, ba, rfl, hv, hb3⟩; have HV := Lib.hid hv; have HB3 := Lib.hid hb3; clear hv hb3)
        | (go_at_call 8; (with_reducible refine (new_any _ a2 k cap2 (fun k => !g k) (by omega) (HR3.out.kept HB3.out)).mono ?_); rintro e w4 ⟨bv2, bw2, ba2, rfl, hv, hb3⟩; have HV2 := Lib.hid hv; have HB4 := Lib.hid hb3; clear hv hb3)
        | fail)
      have HVa := Lib.hid (HV.out.kept HB4.out)
      have hV2 : VecAt w4 bv2 bw2 ba2 N (neg N (cut N g)) := by
        have h := HV2.out
        rw [HK.out, cut_not] at h
        exact h
      have HVb := Lib.hid hV2
      have HBw : Hid (Below w.heap.size w w4) := below_next (below_next (below_next HB1.out HB.out HB1.out.size) HB3.out (Nat.le_trans HB1.out.size HB.out.size)) HB4.out (Nat.le_trans (Nat.le_trans HB1.out.size HB.out.size) HB3.out.size)
      clear hV2 HV HV2 HR2 HR3 HB HB1 HB3 HB4 hd hk hlt hc2 hNc
      have hnn : neg N (neg N (cut N g)) = cut N g := neg_neg N (cut N g) HVa.out.past
      have hln := cnt_neg N (cut N g) HVa.out.past N
      rw [Nat.min_self] at hln
      rw [← onesL_len, ← onesL_len] at hln
      generalize cut N g = p at *
      have hl1 : (onesL p N).length ≤ 3000 := by omega
      have hl2 : (onesL (neg N p) N).length ≤ 3000 := by omega
      have HLN := Lib.hid hln
      clear hln
      go_wp2_with (first
        | (go_at_call 9; (with_reducible refine (rank_any _ bv bw ba N p _ (by first | exact HVa.out | exact HVa.out.drewN _)).mono ?_); rintro e w' ⟨rfl, k1, rfl⟩)
        | (go_at_call 9; (with_reducible refine (rank_any _ bv2 bw2 ba2 N (neg N p) _ (by first | exact HVb.out | exact HVb.out.drewN _)).mono ?_); rintro e w' ⟨rfl, k1, rfl⟩)
        | (go_at_call 10; (with_reducible refine (zeros_any _ bv bw ba N p _ (by first | exact HVa.out | exact HVa.out.drewN _)).mono ?_); rintro e w' ⟨rfl, k1, rfl⟩)
        | (go_at_call 10; (with_reducible refine (zeros_any _ bv2 bw2 ba2 N (neg N p) _ (by first | exact HVb.out | exact HVb.out.drewN _)).mono ?_); rintro e w' ⟨rfl, k1, rfl⟩)
        | (go_at_call 12; (with_reducible refine (select_any _ bv bw ba N p _ (by first | exact HVa.out | exact HVa.out.drewN _)).mono ?_); rintro e w' ⟨rfl, k1, rfl⟩)
        | (go_at_call 12; (with_reducible refine (select_any _ bv2 bw2 ba2 N (neg N p) _ (by first | exact HVb.out | exact HVb.out.drewN _)).mono ?_); rintro e w' ⟨rfl, k1, rfl⟩)
        | (go_at_call 13; (with_reducible refine (select0_any _ bv bw ba N p _ (by first | exact HVa.out | exact HVa.out.drewN _)).mono ?_); rintro e w' ⟨rfl, k1, rfl⟩)
        | (go_at_call 13; (with_reducible refine (select0_any _ bv2 bw2 ba2 N (neg N p) _ (by first | exact HVb.out | exact HVb.out.drewN _)).mono ?_); rintro e w' ⟨rfl, k1, rfl⟩))
      refine (ones_row _ bv bw ba N p _ (by omega) (by omega) (HVa.out.drewN _)).mono ?_
      rintro e w5 ⟨a3, m3, cap3, rfl, hm3, _, hb5, _⟩
      have hm3' : m3 = (onesL p N).length := by rw [hm3, List.take_of_length_le (by omega)]
      have HM3 := Lib.hid hm3'
      have HB5 := Lib.hid hb5
      clear hm3 hm3' hb5
      go_wp2_with fail
      refine (ones_row _ bv2 bw2 ba2 N (neg N p) _ (by omega) (by omega) ((HVb.out.drewN _).kept HB5.out)).mono ?_
      rintro e w6 ⟨a4, m4, cap4, rfl, hm4, _, hb6, _⟩
      have hm4' : m4 = (onesL (neg N p) N).length := by rw [hm4, List.take_of_length_le (by omega)]
      have hsum : ((m3 : Int) + (m4 : Int) == (N : Int)) = true := by have h1 := HLN.out; have h2 := HM3.out; rw [beq_iff_eq]; omega
      have hq3 : m3 ≤ 3000 := by have := HM3.out; omega
      have hq4 : m4 ≤ 3000 := by omega
      have HB6 := Lib.hid hb6
      clear hm4 hm4' hb6 HM3 HLN
      go_wp2_with (go_at_call 14; refine (awake_any _).mono ?_; rintro e w7 ⟨rfl, hb7⟩)
      go_ret
      refine ⟨rfl, ?_⟩
      have h4 := below_drewN HBw.out
      have h5 := below_next (h4 _) HB5.out (h4 0).size
      have h6 := below_next h5 HB6.out h5.size
      exact below_next h6 hb7 h6.size
end Go.Proofs.Ytamonbpgjhhdhaa
