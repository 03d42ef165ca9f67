/-
  The statement BitsJoins: its walk.
-/
import Derived.Test.YtamonbpgjhhdhaaBitsTells
import Derived.Test.YtamonbpgjhhdhaaAppendRow
namespace Go.Proofs.Ytamonbpgjhhdhaa
open Go.RowKit

/-- two rows of bits, one behind the other -/
def joinB (n : Nat) (f g : Nat → Bool) : Nat → Bool := fun k => if k < n then f k else g (k - n)

theorem join_rows (n m : Nat) (f g : Nat → Bool) : (List.range n).map (fun k => Value.bool (f k)) ++ (List.range m).map (fun k => Value.bool (g k)) = (List.range (n + m)).map (fun k => Value.bool (joinB n f g k)) := by
  rw [List.range_add, List.map_append, List.map_map]
  congr 1
  · apply List.map_congr_left
    intro k hk
    simp [joinB, List.mem_range.1 hk]
  · apply List.map_congr_left
    intro k _
    simp [joinB, show ¬ n + k < n by omega]
theorem cnt_join_lo (n m : Nat) (f g : Nat → Bool) (i : Nat) (h : i ≤ n) : cnt (cut (n + m) (joinB n f g)) i = cnt (cut n f) i :=
  cnt_congr _ _ _ fun j hj => by simp [cut, joinB, show j < n by omega, show j < n + m by omega]
theorem cnt_join_hi (n m : Nat) (f g : Nat → Bool) (i : Nat) : cnt (cut (n + m) (joinB n f g)) (n + i) = cnt (cut n f) n + cnt (cut m g) i := by
  rw [cnt_add, cnt_join_lo n m f g n (Nat.le_refl _)]
  congr 1
  apply cnt_congr
  intro j _
  simp [cut, joinB, show ¬ n + j < n by omega]
theorem onesL_join (n m : Nat) (f g : Nat → Bool) : onesL (cut (n + m) (joinB n f g)) (n + m) = onesL (cut n f) n ++ (onesL (cut m g) m).map (· + n) := by
  unfold onesL
  rw [List.range_add, List.filter_append, List.filter_map]
  congr 1
  · apply List.filter_congr
    intro j hj
    have := List.mem_range.1 hj
    simp [cut, joinB, this, show j < n + m by omega]
  · have : (List.range m).filter ((cut (n + m) (joinB n f g)) ∘ (n + ·)) = (List.range m).filter (cut m g) := by
      apply List.filter_congr
      intro j hj
      simp [cut, joinB, show ¬ n + j < n by omega]
    rw [this]
    apply List.map_congr_left
    intro j _; omega

/-- the numbers of L, the first t of them raised by d -/
def raised (L : List Nat) (d t : Nat) : List Value := (List.range L.length).map fun j => Value.int .i64 ((L.getD j 0 + (if j < t then d else 0) : Nat) : Int)
theorem raised_zero (L : List Nat) (d : Nat) : raised L d 0 = L.map fun i : Nat => Value.int .i64 (i : Int) := by
  unfold raised
  apply List.ext_getElem
  · simp
  · intro k h1 h2
    simp at h1
    simp [List.getD_eq_getElem?_getD, h1]
theorem raised_set (L : List Nat) (d t : Nat) (ht : t < L.length) : (raised L d t).set t (Value.int .i64 ((L.getD t 0 + d : Nat) : Int)) = raised L d (t + 1) := by
  unfold raised
  apply List.ext_getElem
  · simp
  · intro k h1 h2
    simp at h1
    rw [List.getElem_set]
    by_cases e : t = k
    · subst e; simp
    · by_cases e2 : k < t
      · simp [e, e2, show k < t + 1 by omega]
      · simp [e, e2, show ¬ k < t + 1 by omega]
theorem raised_get (L : List Nat) (d t k : Nat) (hk : k < L.length) : (raised L d t)[k]? = some (Value.int .i64 ((L.getD k 0 + (if k < t then d else 0) : Nat) : Int)) := by
  simp [raised, hk]
theorem raised_all (L : List Nat) (d : Nat) : raised L d L.length = (L.map (· + d)).map fun i : Nat => Value.int .i64 (i : Int) := by
  unfold raised
  apply List.ext_getElem
  · simp
  · intro k h1 h2
    simp at h1
    simp [List.getD_eq_getElem?_getD, h1]

set_option maxRecDepth 100000 in
set_option maxHeartbeats 1000000 in
theorem joins_walk (w : World) (a : Option Addr) (len cap : Nat) (f : Nat → Bool) (hl : len ≤ maxLen) (hr : Row w a len (fun k => .bool (f k))) (a' : Option Addr) (len' cap' : Nat) (f' : Nat → Bool) (hl' : len' ≤ maxLen) (hr' : Row w a' len' (fun k => .bool (f' k)))
    (n : Int) (_ : (Lit.int .i64 n).wf = true) (i : Int) (_ : (Lit.int .i64 i).wf = true) :
    Calls Try.prog 5 #[.slice a len cap, .slice a' len' cap', .int .i64 n, .int .i64 i] w fun e w' => e = .returned (.bool true) ∧ Below w.heap.size w w' := by
  have em : bits .and .i64 n 511 = n % 512 := i64_mask n 9 (by omega)
  obtain ⟨m, hm, hm2⟩ : ∃ m : Nat, n % 512 = m ∧ m ≤ 512 := ⟨(n % 512).toNat, by omega, by omega⟩
  rw [hm] at em
  have em' : bits .and .i64 (n / 512) 511 = (n / 512) % 512 := i64_mask (n / 512) 9 (by omega)
  obtain ⟨m', hm', hm2'⟩ : ∃ m : Nat, (n / 512) % 512 = m ∧ m ≤ 512 := ⟨((n / 512) % 512).toNat, by omega, by omega⟩
  rw [hm'] at em'
  obtain ⟨i0, hi, hz0, hz1, hz2⟩ := info_parts info_bool
  have HL := Lib.hid (long_any w a len cap f m (by omega) hl hr)
  have HL' := fun W hW => Lib.hid (long_any W a' len' cap' f' m' (by omega) hl' hW)
  have HRa := Lib.hid hr'
  clear hr hr' hm hm'
  go_enter Try.func5, Try.ntmps5
  go_wp2_with fail
  refine HL.out.mono ?_
  rintro e w1 ⟨a1, N, cap1, rfl, hN, hNc, hr1, hb1⟩
  have HN : Hid (N ≤ 512) := by show N ≤ 512; rw [hN]; split <;> omega
  have HR1 := Lib.hid hr1
  have HB1 := Lib.hid hb1
  clear hN hr1 hb1
  go_wp2_with fail
  refine (HL' _ (HRa.out.kept HB1.out)).out.mono ?_
  rintro e w2 ⟨a2, M, cap2, rfl, hM, hMc, hr2, hb2⟩
  have HM : Hid (M ≤ 512) := by show M ≤ 512; rw [hM]; split <;> omega
  have HR2 := Lib.hid hr2
  have HB2 := Lib.hid hb2
  clear hM hr2 hb2 HL HL' em em' hm2 hm2'
  -- the two appends
  have hx0 := owns_empty w2 w2.heap.size 4 (Nat.le_refl _)
  have hR1 := (HR1.out.kept HB2.out).kept ((Below.refl _ w2).alloc (Nat.le_refl _) (.cells #[] 4))
  obtain ⟨v3, w3, hrun3, hown3, hg3, _⟩ := run_append_row (P := Try.prog) (w2.alloc (.cells #[] 4)) w2.heap.size 22 22 4 i0 _ 1 Try.underlying22 hi hz0 hz1 hz2 rfl _ 0 [] hx0 a1 N cap1 _ hR1 (fun _ _ => rfl) (by have := HN.out; simp only [maxLen]; omega) (by have := HN.out; omega) (by simp)
  have hB3 : Below w2.heap.size w2 w3 := ((Below.refl _ w2).alloc (Nat.le_refl _) _).grown hg3 (by simp) (fun k hk => by simp [Value.ownBlock] at hk; omega)
  obtain ⟨v4, w4, hrun4, hown4, hg4, _⟩ := run_append_row (P := Try.prog) w3 w2.heap.size 22 22 4 i0 _ 1 Try.underlying22 hi hz0 hz1 hz2 rfl _ _ _ hown3 a2 M cap2 _ (HR2.out.kept hB3) (fun _ _ => rfl) (by have := HN.out; have := HM.out; simp only [maxLen]; omega) (by have := HN.out; have := HM.out; omega) hB3.size
  have hB4 : Below w2.heap.size w2 w4 := hB3.grown hg4 hB3.size (fun k hk => (hown3.lt k hk).1)
  rw [Nat.zero_add, List.nil_append, join_rows] at hown4
  obtain ⟨a4, cap4, rfl, hc4, hr4, _⟩ := Row.of_owns hown4
  have hr4' : Row w4 a4 (N + M) (fun k => .bool (joinB N (lg f len) (lg f' len') k)) := hr4.congr fun k hk => by simp [List.getD_eq_getElem?_getD, hk]
  have HR4 := Lib.hid hr4'
  have HR1b := Lib.hid ((HR1.out.kept HB2.out).kept hB4)
  have HR2b := Lib.hid (HR2.out.kept hB4)
  have HBw : Hid (Below w.heap.size w w4) := below_next (below_next HB1.out HB2.out HB1.out.size) hB4 (Nat.le_trans HB1.out.size HB2.out.size)
  clear hx0 hR1 hown3 hg3 hB3 hown4 hg4 hB4 hr4 hr4' HR1 HR2 HB1 HB2 HRa
  have R3 := Lib.hid hrun3
  have R4 := Lib.hid hrun4
  clear hrun3 hrun4
  go_wp2_with (first
    | (at_builtin; (with_reducible refine wpList_append_run rfl _ _ _ rfl R3.out rfl rfl ?_); clear R3)
    | (at_builtin; (with_reducible refine wpList_append_run rfl _ _ _ rfl R4.out rfl rfl ?_); clear R4)
    | fail)
  generalize hg1 : lg f len = g1 at *
  generalize hg2 : lg f' len' = g2 at *
  clear hg1 hg2
  refine (new_any _ a1 N cap1 g1 (by have := HN.out; omega) HR1b.out).mono ?_
  rintro e w5 ⟨bv, bw, ba, rfl, hv5, hb5⟩
  have HR2c := Lib.hid (HR2b.out.kept hb5)
  have HR4c := Lib.hid (HR4.out.kept hb5)
  have HV5 := Lib.hid hv5
  have HB5 := Lib.hid hb5
  clear hv5 hb5
  go_wp2_with fail
  refine (new_any _ a2 M cap2 g2 (by have := HM.out; omega) HR2c.out).mono ?_
  rintro e w6 ⟨bv2, bw2, ba2, rfl, hv6, hb6⟩
  have HR4d := Lib.hid (HR4c.out.kept hb6)
  have HV6 := Lib.hid hv6
  have HB6 := Lib.hid hb6
  clear hv6 hb6
  go_wp2_with fail
  refine (new_any _ a4 (N + M) cap4 (joinB N g1 g2) (by have := HM.out; have := HN.out; omega) HR4d.out).mono ?_
  rintro e w7 ⟨bv3, bw3, ba3, rfl, hv7, hb7⟩
  have HVu := Lib.hid hv7
  have HVw := Lib.hid (HV6.out.kept hb7)
  have HVv := Lib.hid ((HV5.out.kept HB6.out).kept hb7)
  have HB7 : Hid (Below w.heap.size w w7) := below_next (below_next (below_next HBw.out HB5.out HBw.out.size) HB6.out (Nat.le_trans HBw.out.size HB5.out.size)) hb7 (Nat.le_trans (Nat.le_trans HBw.out.size HB5.out.size) HB6.out.size)
  clear hv7 hb7 HV5 HV6 HR4 HR4c HR4d HR2b HR2c HR1b HB5 HB6 HBw
  have em : bits .and .i64 i 4095 = i % 4096 := i64_mask i 12 (by omega)
  obtain ⟨J, hJ, hJ2⟩ : ∃ J : Nat, (i % 4096) % ((N : Int) + (M : Int) + 1) = J ∧ J ≤ N + M := ⟨((i % 4096) % ((N : Int) + (M : Int) + 1)).toNat, by
    have := Int.emod_nonneg (i % 4096) (show ((N : Int) + (M : Int) + 1) ≠ 0 by omega); omega, by
    have := Int.emod_lt_of_pos (i % 4096) (show (0 : Int) < ((N : Int) + (M : Int) + 1) by omega); omega⟩
  have hi4 : 0 ≤ i % 4096 := by omega
  have hN := HN.out
  have hM := HM.out
  -- the counts
  have hcu : cnt (cut (N + M) (joinB N g1 g2)) J = if J ≤ N then cnt (cut N g1) J else cnt (cut N g1) N + cnt (cut M g2) (J - N) := by
    split
    · exact cnt_join_lo N M g1 g2 J ‹_›
    · have := cnt_join_hi N M g1 g2 (J - N)
      rwa [show N + (J - N) = J by omega] at this
  have hones := onesL_join N M g1 g2
  have HO := Lib.hid hones
  have hlv : (onesL (cut N g1) N).length ≤ 512 := by rw [onesL_len]; exact Nat.le_trans (cnt_le _ _) hN
  have hlw : (onesL (cut M g2) M).length ≤ 512 := by rw [onesL_len]; exact Nat.le_trans (cnt_le _ _) hM
  have hb1 := Nat.le_trans (cnt_le (cut N g1) N) hN
  have hb2 := Nat.le_trans (cnt_le (cut M g2) (J - N)) (show J - N ≤ 512 by omega)
  generalize cut N g1 = p1 at *
  generalize cut M g2 = p2 at *
  generalize cut (N + M) (joinB N g1 g2) = p3 at *
  obtain ⟨c, hc⟩ : ∃ c, cnt p3 J = c := ⟨_, rfl⟩
  have HC := Lib.hid hc
  rw [hc] at hcu
  have HCU := Lib.hid hcu
  clear hcu hc hones
  by_cases hJN : J ≤ N
  · have hcu : cnt p1 J = c := by have := HCU.out; rw [if_pos hJN] at this; exact this.symm
    have hlt : ¬ ((N : Int) < (J : Int)) := by omega
    go_wp2_with (first
      | (go_at_call 9; (with_reducible refine (rank_any _ bv bw ba N p1 _ (by first | exact HVv.out | exact HVv.out.drewN _)).mono ?_); rintro e w' ⟨rfl, k1, rfl⟩)
      | fail)
    refine (ones_row _ bv bw ba N p1 _ (by omega) (by omega) (HVv.out.drewN _)).mono ?_
    rintro e w8 ⟨a8, m8, cap8, rfl, hm8, _, hb8, hown8⟩
    rw [List.take_of_length_le (by omega)] at hm8 hown8
    have HM8 := Lib.hid hm8
    have HO8 := Lib.hid (owns_lower (base' := w7.heap.size) hown8 (Nat.le_add_right _ 3))
    have hs8 : w7.heap.size ≤ w8.heap.size := hb8.size
    have HVu8 := Lib.hid ((HVu.out.drewN _).kept hb8)
    have HVw8 := Lib.hid ((HVw.out.drewN _).kept hb8)
    have HB8 : Hid (Below w.heap.size w w8) := below_next (below_drewN HB7.out _) hb8 HB7.out.size
    clear hm8 hown8 hb8
    go_wp2_with fail
    refine (ones_row _ bv2 bw2 ba2 M p2 _ (by omega) (by omega) HVw8.out).mono ?_
    rintro e w9 ⟨a9, m9, cap9, rfl, hm9, _, hb9, hown9⟩
    rw [List.take_of_length_le (by omega)] at hm9 hown9
    have HM9 := Lib.hid hm9
    have HO9 := Lib.hid hown9
    have hs9 := hb9.size
    have HB9 := Lib.hid hb9
    have hm9l : m9 ≤ 512 := by omega
    have hm8l : m8 ≤ 512 := by have := HM8.out; omega
    have hat9 : m9 = 0 ∨ a9 = some ⟨bOf a9, oOf a9, none⟩ := by
      rcases Nat.eq_zero_or_pos m9 with h | h
      · exact .inl h
      · exact (owns_store hown9 0 h).2.2.1
    have hix9 := run_ix (P := Try.prog) 32 (by kernel_rfl) size_int a9 m9 cap9 hat9 .i64
    have hlL : (onesL p2 M).length = m9 := hm9.symm
    have HLL := Lib.hid hlL
    have hLb : ∀ k, (onesL p2 M).getD k 0 ≤ 512 := fun k => by
      rcases Nat.lt_or_ge k (onesL p2 M).length with h | h
      · have := List.mem_range.1 (List.mem_filter.1 (show (onesL p2 M).getD k 0 ∈ (List.range M).filter p2 by rw [List.getD_eq_getElem?_getD, List.getElem?_eq_getElem h]; exact List.getElem_mem h)).1
        omega
      · simp [List.getD_eq_getElem?_getD, h]
    have HLb := Lib.hid hLb
    clear hm9 hown9 hb9 hat9 hlL hLb
    generalize onesL p2 M = L2 at *
    go_wp2_with fail
    go_loopw [21] (fun i' wr => ∃ t : Nat, t ≤ m9 ∧ i' = .int .i64 t ∧ wr.ownsRow (w8.heap.size + 3) 3 1 (.slice a9 m9 cap9) m9 (raised L2 N t) ∧ Below w8.heap.size w8 wr) (fun i' _ => m9 - (intOf i').toNat)
    case atStart => exact ⟨0, Nat.zero_le _, rfl, by rw [raised_zero]; exact HO9.out, HB9.out⟩
    case round =>
      obtain ⟨t, ht, rfl, hown, hbel⟩ := hrel
      by_cases hlt : t < m9
      · obtain ⟨s1, s2, _, s4, s5⟩ := owns_store hown t hlt
        rw [raised_get L2 N t t (by rw [HLL.out]; exact hlt), if_neg (by omega), Nat.add_zero] at s1
        have s6 := s5 (Value.int .i64 ((L2.getD t 0 + N : Nat) : Int))
        rw [raised_set L2 N t (by rw [HLL.out]; exact hlt)] at s6
        have hbd := HLb.out t
        generalize L2.getD t 0 = y at *
        have S6 := Lib.hid s6
        have HBl := Lib.hid hbel
        have ec : ((y + N : Nat) : Int) = (y : Int) + (N : Int) := by omega
        rw [ec] at S6
        clear s5 s6 hown hbel ec
        go_wp2
        go_roundw
        case rel => exact ⟨t + 1, by omega, by go_num, S6.out.1, HBl.out.setCell (p := ⟨bOf a9, oOf a9 + t, none⟩) (by show _ ≤ bOf a9; omega) _⟩
        case measure => simp [intOf]; omega
      · have htm : t = m9 := by omega
        rw [htm, ← HLL.out, raised_all, HLL.out] at hown
        have HP := Lib.hid hown
        have HVr := Lib.hid (HVu8.out.kept hbel)
        have HO8r := Lib.hid (owns_below HO8.out hbel)
        have HBr : Hid (Below w.heap.size w wr) := below_next HB8.out hbel HB8.out.size
        have hsr := hbel.size
        clear hown hbel htm
        have hcJ := HC.out
        go_wp2_with (first
          | (go_at_call 9; (with_reducible refine (rank_any _ bv3 bw3 ba3 (N + M) p3 _ (by first | exact HVr.out | exact HVr.out.drewN _)).mono ?_); rintro e w' ⟨rfl, k1, rfl⟩)
          | fail)
        clear hcJ
        refine (ones_row _ bv3 bw3 ba3 (N + M) p3 _ (by omega) (by omega) (HVr.out.drewN _)).mono ?_
        rintro e w10 ⟨a10, m10, cap10, rfl, hm10, hr10, hb10, hown10⟩
        rw [HO.out, List.take_of_length_le (by simp; omega), List.length_append, List.length_map, HLL.out, ← HM8.out] at hm10
        obtain rfl : m10 = m8 + m9 := hm10
        have hO8 := owns_below (owns_drewN HO8r.out k1) hb10
        have hP := owns_below (owns_drewN HP.out k1) hb10
        have hrp := (owns_row hP).1
        obtain ⟨i1, hi1, hy0, hy1, hy2⟩ := info_parts info_int
        obtain ⟨v11, w11, hrun11, hown11, hg11, _⟩ := run_append_row (P := Try.prog) w10 _ 32 32 3 i1 _ 8 Try.underlying32 hi1 hy0 hy1 hy2 rfl _ _ _ hO8 a9 m9 cap9 _ hrp (fun k hk => by
          rw [List.getD_eq_getElem?_getD, List.getElem?_map]
          rcases hq : (L2.map (· + N))[k]? with _ | q
          · exfalso
            rw [List.getElem?_eq_none_iff] at hq
            simp at hq
            have := HLL.out
            omega
          · rfl) (by simp only [maxLen]; omega) (by omega) (by have h10 : wr.heap.size ≤ w10.heap.size := hb10.size; omega)
        have hb11 : Below w.heap.size w w11 := (below_next (below_drewN HBr.out _) hb10 HBr.out.size).grown hg11 (Nat.le_trans HBr.out.size hb10.size) (fun k hk => Nat.le_trans HB7.out.size (hO8.lt k hk).1)
        have hmap : (List.map (fun i : Nat => Value.int .i64 (i : Int)) (onesL p1 N)) ++ (List.range m9).map (fun k => (List.map (fun i : Nat => Value.int .i64 (i : Int)) (L2.map (· + N))).getD k undef) = (onesL p3 (N + M)).map (fun i : Nat => Value.int .i64 (i : Int)) := by
          rw [HO.out, List.map_append]
          congr 1
          apply List.ext_getElem
          · simp [HLL.out]
          · intro k h1 h2
            simp at h1
            have h3 : k < L2.length := by have := HLL.out; omega
            simp [List.getD_eq_getElem?_getD, h3]
        rw [hmap] at hown11
        obtain ⟨a11, cap11, rfl, _, hr11, _⟩ := Row.of_owns hown11
        have hl3 : (onesL p3 (N + M)).length = m8 + m9 := by rw [HO.out, List.length_append, List.length_map, HLL.out, ← HM8.out]
        have hr11' : Row w11 a11 (m8 + m9) (fun k => .int .i64 (((onesL p3 (N + M)).getD k 0 : Nat) : Int)) := hr11.congr fun k hk => by
          have h3 : k < (onesL p3 (N + M)).length := by omega
          simp [List.getD_eq_getElem?_getD, h3]
        have hr10' : Row w11 a10 (m8 + m9) (fun k => .int .i64 (((onesL p3 (N + M)).getD k 0 : Nat) : Int)) := hr10.gb hg11 (by
          rcases (owns_row hown10).2 with h | h
          · exact .inl h
          · refine .inr fun he => ?_
            have h1 := (HO8r.out.lt _ he.symm).2
            have h2 : wr.heap.size + 3 ≤ bOf a10 := h
            omega)
        have R11 := Lib.hid hrun11
        have HR11 := Lib.hid hr11'
        have HR10 := Lib.hid hr10'
        have HB11 := Lib.hid hb11
        clear hrun11 hr11' hr10' hb11 hmap hown10 hown11 hr11 hl3 hO8 hP hrp hr10 hg11 hb10
        go_wp2_with ((with_reducible refine wpList_append_run rfl _ _ _ rfl R11.out rfl rfl ?_); clear R11)
        refine (same_yes _ a10 a11 (m8 + m9) _ _ _ (by omega) HR10.out HR11.out).mono ?_
        rintro e w' ⟨rfl, k6, rfl⟩
        go_wp2_with (go_at_call 14; refine (awake_any _).mono ?_; rintro e w12 ⟨rfl, hb12⟩)
        go_ret
        exact ⟨rfl, below_next (below_drewN HB11.out _) hb12 HB11.out.size⟩
  · have hcu : (cnt p1 N : Int) + (cnt p2 (J - N) : Int) = (c : Int) := by have := HCU.out; rw [if_neg hJN] at this; omega
    have hlt : ((N : Int) < (J : Int)) := by omega
    have eJ : ((J : Int) - (N : Int)).toNat = J - N := by omega
    go_wp2_with (first
      | (go_at_call 9; (with_reducible refine (rank_any _ bv bw ba N p1 _ (by first | exact HVv.out | exact HVv.out.drewN _)).mono ?_); rintro e w' ⟨rfl, k1, rfl⟩)
      | (go_at_call 9; (with_reducible refine (rank_any _ bv2 bw2 ba2 M p2 _ (by first | exact HVw.out | exact HVw.out.drewN _)).mono ?_); rintro e w' ⟨rfl, k1, rfl⟩)
      | fail)
    clear eJ
    refine (ones_row _ bv bw ba N p1 _ (by omega) (by omega) (HVv.out.drewN _)).mono ?_
    rintro e w8 ⟨a8, m8, cap8, rfl, hm8, _, hb8, hown8⟩
    rw [List.take_of_length_le (by omega)] at hm8 hown8
    have HM8 := Lib.hid hm8
    have HO8 := Lib.hid (owns_lower (base' := w7.heap.size) hown8 (Nat.le_add_right _ 3))
    have hs8 : w7.heap.size ≤ w8.heap.size := hb8.size
    have HVu8 := Lib.hid ((HVu.out.drewN _).kept hb8)
    have HVw8 := Lib.hid ((HVw.out.drewN _).kept hb8)
    have HB8 : Hid (Below w.heap.size w w8) := below_next (below_drewN HB7.out _) hb8 HB7.out.size
    clear hm8 hown8 hb8
    go_wp2_with fail
    refine (ones_row _ bv2 bw2 ba2 M p2 _ (by omega) (by omega) HVw8.out).mono ?_
    rintro e w9 ⟨a9, m9, cap9, rfl, hm9, _, hb9, hown9⟩
    rw [List.take_of_length_le (by omega)] at hm9 hown9
    have HM9 := Lib.hid hm9
    have HO9 := Lib.hid hown9
    have hs9 := hb9.size
    have HB9 := Lib.hid hb9
    have hm9l : m9 ≤ 512 := by omega
    have hm8l : m8 ≤ 512 := by have := HM8.out; omega
    have hat9 : m9 = 0 ∨ a9 = some ⟨bOf a9, oOf a9, none⟩ := by
      rcases Nat.eq_zero_or_pos m9 with h | h
      · exact .inl h
      · exact (owns_store hown9 0 h).2.2.1
    have hix9 := run_ix (P := Try.prog) 32 (by kernel_rfl) size_int a9 m9 cap9 hat9 .i64
    have hlL : (onesL p2 M).length = m9 := hm9.symm
    have HLL := Lib.hid hlL
    have hLb : ∀ k, (onesL p2 M).getD k 0 ≤ 512 := fun k => by
      rcases Nat.lt_or_ge k (onesL p2 M).length with h | h
      · have := List.mem_range.1 (List.mem_filter.1 (show (onesL p2 M).getD k 0 ∈ (List.range M).filter p2 by rw [List.getD_eq_getElem?_getD, List.getElem?_eq_getElem h]; exact List.getElem_mem h)).1
        omega
      · simp [List.getD_eq_getElem?_getD, h]
    have HLb := Lib.hid hLb
    clear hm9 hown9 hb9 hat9 hlL hLb
    generalize onesL p2 M = L2 at *
    go_wp2_with fail
    go_loopw [21] (fun i' wr => ∃ t : Nat, t ≤ m9 ∧ i' = .int .i64 t ∧ wr.ownsRow (w8.heap.size + 3) 3 1 (.slice a9 m9 cap9) m9 (raised L2 N t) ∧ Below w8.heap.size w8 wr) (fun i' _ => m9 - (intOf i').toNat)
    case atStart => exact ⟨0, Nat.zero_le _, rfl, by rw [raised_zero]; exact HO9.out, HB9.out⟩
    case round =>
      obtain ⟨t, ht, rfl, hown, hbel⟩ := hrel
      by_cases hlt : t < m9
      · obtain ⟨s1, s2, _, s4, s5⟩ := owns_store hown t hlt
        rw [raised_get L2 N t t (by rw [HLL.out]; exact hlt), if_neg (by omega), Nat.add_zero] at s1
        have s6 := s5 (Value.int .i64 ((L2.getD t 0 + N : Nat) : Int))
        rw [raised_set L2 N t (by rw [HLL.out]; exact hlt)] at s6
        have hbd := HLb.out t
        generalize L2.getD t 0 = y at *
        have S6 := Lib.hid s6
        have HBl := Lib.hid hbel
        have ec : ((y + N : Nat) : Int) = (y : Int) + (N : Int) := by omega
        rw [ec] at S6
        clear s5 s6 hown hbel ec
        go_wp2
        go_roundw
        case rel => exact ⟨t + 1, by omega, by go_num, S6.out.1, HBl.out.setCell (p := ⟨bOf a9, oOf a9 + t, none⟩) (by show _ ≤ bOf a9; omega) _⟩
        case measure => simp [intOf]; omega
      · have htm : t = m9 := by omega
        rw [htm, ← HLL.out, raised_all, HLL.out] at hown
        have HP := Lib.hid hown
        have HVr := Lib.hid (HVu8.out.kept hbel)
        have HO8r := Lib.hid (owns_below HO8.out hbel)
        have HBr : Hid (Below w.heap.size w wr) := below_next HB8.out hbel HB8.out.size
        have hsr := hbel.size
        clear hown hbel htm
        have hcJ := HC.out
        go_wp2_with (first
          | (go_at_call 9; (with_reducible refine (rank_any _ bv3 bw3 ba3 (N + M) p3 _ (by first | exact HVr.out | exact HVr.out.drewN _)).mono ?_); rintro e w' ⟨rfl, k1, rfl⟩)
          | fail)
        clear hcJ
        refine (ones_row _ bv3 bw3 ba3 (N + M) p3 _ (by omega) (by omega) (HVr.out.drewN _)).mono ?_
        rintro e w10 ⟨a10, m10, cap10, rfl, hm10, hr10, hb10, hown10⟩
        rw [HO.out, List.take_of_length_le (by simp; omega), List.length_append, List.length_map, HLL.out, ← HM8.out] at hm10
        obtain rfl : m10 = m8 + m9 := hm10
        have hO8 := owns_below (owns_drewN HO8r.out k1) hb10
        have hP := owns_below (owns_drewN HP.out k1) hb10
        have hrp := (owns_row hP).1
        obtain ⟨i1, hi1, hy0, hy1, hy2⟩ := info_parts info_int
        obtain ⟨v11, w11, hrun11, hown11, hg11, _⟩ := run_append_row (P := Try.prog) w10 _ 32 32 3 i1 _ 8 Try.underlying32 hi1 hy0 hy1 hy2 rfl _ _ _ hO8 a9 m9 cap9 _ hrp (fun k hk => by
          rw [List.getD_eq_getElem?_getD, List.getElem?_map]
          rcases hq : (L2.map (· + N))[k]? with _ | q
          · exfalso
            rw [List.getElem?_eq_none_iff] at hq
            simp at hq
            have := HLL.out
            omega
          · rfl) (by simp only [maxLen]; omega) (by omega) (by have h10 : wr.heap.size ≤ w10.heap.size := hb10.size; omega)
        have hb11 : Below w.heap.size w w11 := (below_next (below_drewN HBr.out _) hb10 HBr.out.size).grown hg11 (Nat.le_trans HBr.out.size hb10.size) (fun k hk => Nat.le_trans HB7.out.size (hO8.lt k hk).1)
        have hmap : (List.map (fun i : Nat => Value.int .i64 (i : Int)) (onesL p1 N)) ++ (List.range m9).map (fun k => (List.map (fun i : Nat => Value.int .i64 (i : Int)) (L2.map (· + N))).getD k undef) = (onesL p3 (N + M)).map (fun i : Nat => Value.int .i64 (i : Int)) := by
          rw [HO.out, List.map_append]
          congr 1
          apply List.ext_getElem
          · simp [HLL.out]
          · intro k h1 h2
            simp at h1
            have h3 : k < L2.length := by have := HLL.out; omega
            simp [List.getD_eq_getElem?_getD, h3]
        rw [hmap] at hown11
        obtain ⟨a11, cap11, rfl, _, hr11, _⟩ := Row.of_owns hown11
        have hl3 : (onesL p3 (N + M)).length = m8 + m9 := by rw [HO.out, List.length_append, List.length_map, HLL.out, ← HM8.out]
        have hr11' : Row w11 a11 (m8 + m9) (fun k => .int .i64 (((onesL p3 (N + M)).getD k 0 : Nat) : Int)) := hr11.congr fun k hk => by
          have h3 : k < (onesL p3 (N + M)).length := by omega
          simp [List.getD_eq_getElem?_getD, h3]
        have hr10' : Row w11 a10 (m8 + m9) (fun k => .int .i64 (((onesL p3 (N + M)).getD k 0 : Nat) : Int)) := hr10.gb hg11 (by
          rcases (owns_row hown10).2 with h | h
          · exact .inl h
          · refine .inr fun he => ?_
            have h1 := (HO8r.out.lt _ he.symm).2
            have h2 : wr.heap.size + 3 ≤ bOf a10 := h
            omega)
        have R11 := Lib.hid hrun11
        have HR11 := Lib.hid hr11'
        have HR10 := Lib.hid hr10'
        have HB11 := Lib.hid hb11
        clear hrun11 hr11' hr10' hb11 hmap hown10 hown11 hr11 hl3 hO8 hP hrp hr10 hg11 hb10
        go_wp2_with ((with_reducible refine wpList_append_run rfl _ _ _ rfl R11.out rfl rfl ?_); clear R11)
        refine (same_yes _ a10 a11 (m8 + m9) _ _ _ (by omega) HR10.out HR11.out).mono ?_
        rintro e w' ⟨rfl, k6, rfl⟩
        go_wp2_with (go_at_call 14; refine (awake_any _).mono ?_; rintro e w12 ⟨rfl, hb12⟩)
        go_ret
        exact ⟨rfl, below_next (below_drewN HB11.out _) hb12 HB11.out.size⟩
end Go.Proofs.Ytamonbpgjhhdhaa
