/-
  The statement BitsRanks: its walk.
-/
import Derived.Test.YtamonbpgjhhdhaaBitsLaw
import Derived.Test.YtamonbpgjhhdhaaRowOpen
namespace Go.Proofs.Ytamonbpgjhhdhaa
open Go.RowKit

set_option maxRecDepth 100000 in
set_option maxHeartbeats 1000000 in
theorem ranks_walk (w : World) (a : Option Addr) (len cap : Nat) (f : Nat → Bool) (hl : len ≤ maxLen) (hr : Row w a len (fun k => .bool (f k))) (n : Int) (_ : (Lit.int .i64 n).wf = true) :
    Calls Try.prog 3 #[.slice a len cap, .int .i64 n] w fun e w' => e = .returned (.bool true) ∧ Below w.heap.size w w' := by
  have em : bits .and .i64 n 4095 = n % 4096 := i64_mask n 12 (by omega)
  obtain ⟨m, hm, hm2⟩ : ∃ m : Nat, (n % 4096) % 3000 = m ∧ m ≤ 3000 := ⟨((n % 4096) % 3000).toNat, by omega, by omega⟩
  have hmn : 0 ≤ n % 4096 := by omega
  have HL := Lib.hid (long_any w a len cap f m (by omega) hl hr)
  clear hr
  go_enter Try.func3, Try.ntmps3
  go_wp2_with (first
    | (go_at_call 7; refine HL.out.mono ?_; rintro e w1 ⟨a1, N, cap1, rfl, hN, hNc, hr1, hb1⟩; have HN := Lib.hid hN; have HR1 := Lib.hid hr1; have HB1 := Lib.hid hb1; clear hN hr1 hb1)
    | (go_at_call 8; refine (new_any _ a1 N cap1 _ (by have := HN.out; split at this <;> omega) HR1.out).mono ?_; rintro e w2 ⟨bv, bw, ba, rfl, hv, hb2⟩; have HV := Lib.hid hv; have HB2 := Lib.hid hb2; clear hv hb2))
  have hN3 : N ≤ 3000 := by have := HN.out; split at this <;> omega
  clear HL HN HR1 em hm hmn hm2
  generalize hp : cut N (fun k => lg f len k) = p at *
  clear hp
  go_loopw [8, 9] (fun last i wr => ∃ k : Nat, k ≤ N + 1 ∧ i = .int .i64 k ∧ last = .int .i64 (cnt p (k - 1)) ∧ ∃ j, wr = w2.drewN j) (fun _ i _ => N + 1 - (intOf i).toNat)
  case atStart => exact ⟨0, Nat.zero_le _, rfl, by rw [Nat.zero_sub, cnt_zero]; rfl, 0, rfl⟩
  case round =>
    obtain ⟨k, hk, rfl, rfl, j, rfl⟩ := hrel
    by_cases hlt : k ≤ N
    · have hsum : (cnt p k : Int) + (cnt (neg N p) k : Int) = k := by have := cnt_neg N p HV.out.past k; omega
      have hl1 := cnt_le p k
      have hl2 := cnt_le (neg N p) k
      rcases Nat.eq_zero_or_pos k with h0 | h0
      · subst h0
        have t0 : cnt p 0 = 0 := cnt_zero _
        have t1 : cnt (neg N p) 0 = 0 := cnt_zero _
        clear hsum hl1 hl2
        have t2 : cnt p (0 - 1) = 0 := cnt_zero _
        go_wp2_with (first
          | (go_at_call 9; refine (rank_any _ bv bw ba N p _ (HV.out.drewN _)).mono ?_; rintro e w' ⟨rfl, k1, rfl⟩)
          | (go_at_call 10; refine (zeros_any _ bv bw ba N p _ (HV.out.drewN _)).mono ?_; rintro e w' ⟨rfl, k2, rfl⟩))
        go_roundw
        case rel => exact ⟨1, by omega, rfl, by rw [Nat.sub_self, cnt_zero]; rfl, _, rfl⟩
        case measure => simp [intOf]
      · obtain ⟨d, hd⟩ : ∃ d, k = d + 1 := ⟨k - 1, by omega⟩
        have es : cnt p k = cnt p d + (p d).toNat := by rw [hd]; exact cnt_succ _ _
        have et : ((cnt p k : Int) == (cnt p d : Int) + 1) = p d := by rw [es]; cases p d <;> simp <;> omega
        have hm1 : cnt p d ≤ cnt p k := by omega
        have hm2 : cnt p k ≤ cnt p d + 1 := by have := Bool.toNat_le (p d); omega
        have e1 : k - 1 = d := by omega
        have e2 : ((k : Int) - 1).toNat = d := by omega
        have q2 : (((cnt p k : Int) + (cnt (neg N p) k : Int)) != (k : Int)) = false := by simp; omega
        have q3 : (1 : Int) ≤ k := by omega
        have q4 : decide ((0 : Int) ≤ (k : Int) - 1) = true := by simp; omega
        generalize hz : cnt (neg N p) k = z at *
        generalize hx : cnt p k = x at *
        have HX := Lib.hid hx
        clear hsum es hd
        go_wp2_with (first
          | (go_at_call 9; refine (rank_any _ bv bw ba N p _ (HV.out.drewN _)).mono ?_; rintro e w' ⟨rfl, k1, rfl⟩)
          | (go_at_call 10; refine (zeros_any _ bv bw ba N p _ (HV.out.drewN _)).mono ?_; rintro e w' ⟨rfl, k2, rfl⟩)
          | (go_at_call 11; refine (get_any _ bv bw ba N p _ (HV.out.drewN _)).mono ?_; rintro e w' ⟨rfl, k3, rfl⟩))
        go_roundw
        case rel => exact ⟨k + 1, by omega, by go_num, by rw [show k + 1 - 1 = k by omega, HX.out], _, rfl⟩
        case measure => simp [intOf]; omega
    · obtain ⟨x, hx⟩ : ∃ x, cnt p (k - 1) = x := ⟨_, rfl⟩
      have HX := Lib.hid (show cnt p N = x by rw [← hx, show k - 1 = N by omega])
      have hxl : x ≤ N := by rw [← HX.out]; exact cnt_le _ _
      have hd : decide ((k : Int) ≤ N) = false := by simp; omega
      have HZ := Lib.hid (show cnt (neg N p) N = N - x by have := cnt_neg N p HV.out.past N; rw [HX.out] at this; omega)
      rw [hx]
      clear hx
      go_wp2_with fail
      go_loopw [11] (fun i wr => ∃ t : Nat, t ≤ x ∧ i = .int .i64 t ∧ ∃ j, wr = w2.drewN j) (fun i _ => x - (intOf i).toNat)
      case atStart => exact ⟨0, Nat.zero_le _, rfl, _, rfl⟩
      case round =>
        obtain ⟨t, ht, rfl, j2, rfl⟩ := hrel
        by_cases htx : t < x
        · obtain ⟨q, hq1, hq2, hq3, hq4⟩ := sel_is p N t (by omega) (by rw [HX.out]; omega)
          go_wp2_with (first
            | (go_at_call 12; refine (select_any _ bv bw ba N p _ (HV.out.drewN _)).mono ?_; rintro e w' ⟨rfl, k1, rfl⟩)
            | (go_at_call 9; refine (rank_any _ bv bw ba N p _ (HV.out.drewN _)).mono ?_; rintro e w' ⟨rfl, k1, rfl⟩)
            | (go_at_call 11; refine (get_any _ bv bw ba N p _ (HV.out.drewN _)).mono ?_; rintro e w' ⟨rfl, k3, rfl⟩))
          go_roundw
          case rel => exact ⟨t + 1, by omega, by go_num, _, rfl⟩
          case measure => simp [intOf]; omega
        · have hd2 : decide ((t : Int) < x) = false := by simp; omega
          go_wp2_with fail
          go_loopw [13] (fun i wr => ∃ t : Nat, t ≤ N - x ∧ i = .int .i64 t ∧ ∃ j, wr = w2.drewN j) (fun i _ => N - x - (intOf i).toNat)
          case atStart => exact ⟨0, Nat.zero_le _, rfl, _, rfl⟩
          case round =>
            obtain ⟨s, hs, rfl, j3, rfl⟩ := hrel
            by_cases hsx : s < N - x
            · obtain ⟨q, hq1, hq2, hq3, hq4⟩ := sel_is (neg N p) N s (by omega) (by rw [HZ.out]; omega)
              have hq5 : p q = false := by simpa [neg, hq1] using hq2
              clear hq2
              go_wp2_with (first
                | (go_at_call 13; refine (select0_any _ bv bw ba N p _ (HV.out.drewN _)).mono ?_; rintro e w' ⟨rfl, k1, rfl⟩)
                | (go_at_call 10; refine (zeros_any _ bv bw ba N p _ (HV.out.drewN _)).mono ?_; rintro e w' ⟨rfl, k1, rfl⟩)
                | (go_at_call 11; refine (get_any _ bv bw ba N p _ (HV.out.drewN _)).mono ?_; rintro e w' ⟨rfl, k3, rfl⟩))
              go_roundw
              case rel => exact ⟨s + 1, by omega, by go_num, _, rfl⟩
              case measure => simp [intOf]; omega
            · have f1 : sel p N (x : Int) = -1 := sel_none p N _ (.inr (by rw [HX.out]; omega))
              have f2 : sel (neg N p) N ((N : Int) - (x : Int)) = -1 := sel_none _ N _ (.inr (by rw [HZ.out]; omega))
              have f3 : sel p N (-1) = -1 := sel_none p N _ (.inl (by omega))
              have hd3 : decide ((s : Int) < (N : Int) - x) = false := by simp; omega
              go_wp2_with (first
                | (go_at_call 12; refine (select_any _ bv bw ba N p _ (HV.out.drewN _)).mono ?_; rintro e w' ⟨rfl, k1, rfl⟩)
                | (go_at_call 13; refine (select0_any _ bv bw ba N p _ (HV.out.drewN _)).mono ?_; rintro e w' ⟨rfl, k1, rfl⟩)
                | (go_at_call 14; refine (awake_any _).mono ?_; rintro e w3 ⟨rfl, hb3⟩))
              go_ret
              refine ⟨rfl, ?_⟩
              have h2 : Below w.heap.size w w2 := below_next HB1.out HB2.out HB1.out.size
              exact below_next (below_drewN h2 _) hb3 h2.size
end Go.Proofs.Ytamonbpgjhhdhaa
