/-
  The contracts of package bits, one a function: what each call gives and what it leaves of memory.
-/
import Derived.Test.YtjpoebmjfedecaaGreatPlainFmOf
import Derived.Test.YtjpoebmjfedecaaGreatProg
import Derived.Test.YtjpoebmjfedecaaGreatPureFmOf
namespace Go.Proofs.YtjpoebmjfedecaaGreat.Wv
open Go.RowKit

/-- bits in memory: n of them, p's, at block bv; their words at bw, their counts at ba -/
structure VecAt (w : World) (bv bw ba n : Nat) (p : Nat → Bool) : Prop where
  cn : w.cell? ⟨bv, 0, none⟩ = some (.int .i64 n)
  cw : w.cell? ⟨bv, 1, none⟩ = some (.slice (some ⟨bw, 0, none⟩) (nw n) (nw n))
  ca : w.cell? ⟨bv, 2, none⟩ = some (.slice (some ⟨ba, 0, none⟩) (nw n + 1) (nw n + 1))
  ww : ∀ k, k < nw n → w.cell? ⟨bw, k, none⟩ = some (.int .u64 (wd p k))
  wa : ∀ k, k < nw n + 1 → w.cell? ⟨ba, k, none⟩ = some (.int .i64 (cnt p (64 * k)))
  lw : bw < w.heap.size
  past : ∀ j, n ≤ j → p j = false
  small : n ≤ 100000

theorem VecAt.drewN {w : World} {bv bw ba n : Nat} {p : Nat → Bool} (h : VecAt w bv bw ba n p) (k : Nat) : VecAt (w.drewN k) bv bw ba n p :=
  ⟨h.cn, h.cw, h.ca, h.ww, h.wa, h.lw, h.past, h.small⟩
theorem VecAt.kept {w w' : World} {bv bw ba n : Nat} {p : Nat → Bool} (h : VecAt w bv bw ba n p) (hb : Below w.heap.size w w') : VecAt w' bv bw ba n p := by
  have lv := World.block_lt_of_cell? w _ h.cn
  have la := World.block_lt_of_cell? w _ (h.wa 0 (by omega))
  exact ⟨(hb.cell lv).trans h.cn, (hb.cell (p := ⟨bv, 1, none⟩) lv).trans h.cw, (hb.cell (p := ⟨bv, 2, none⟩) lv).trans h.ca, fun k hk => (hb.cell (p := ⟨bw, k, none⟩) h.lw).trans (h.ww k hk), fun k hk => (hb.cell (p := ⟨ba, k, none⟩) la).trans (h.wa k hk), Nat.lt_of_lt_of_le h.lw hb.size, h.past, h.small⟩

theorem VecAt.of_blocks {w w' : World} {bv bw ba n : Nat} {p : Nat → Bool} (h : VecAt w bv bw ba n p) (hv : w'.heap[bv]? = w.heap[bv]?) (hw : w'.heap[bw]? = w.heap[bw]?) (ha : w'.heap[ba]? = w.heap[ba]?) : VecAt w' bv bw ba n p := by
  refine ⟨?_, ?_, ?_, fun k hk => ?_, fun k hk => ?_, ?_, h.past, h.small⟩
  · rw [World.cell?_of_block (w := w) hv, h.cn]
  · rw [World.cell?_of_block (w := w) hv, h.cw]
  · rw [World.cell?_of_block (w := w) hv, h.ca]
  · rw [World.cell?_of_block (w := w) (a := ⟨bw, k, none⟩) hw, h.ww k hk]
  · rw [World.cell?_of_block (w := w) (a := ⟨ba, k, none⟩) ha, h.wa k hk]
  · have : w.heap[bw]? = some (w.heap[bw]'h.lw) := Array.getElem?_eq_getElem h.lw
    rw [this] at hw
    exact (Array.getElem?_eq_some_iff.1 hw).1

theorem ones64_any (x : Int) (w : World) (h0 : 0 ≤ x) (h1 : x < 18446744073709551616) :
    Calls Tryz.prog 97 #[.int .u64 x] w fun e w' => e = .returned (.int .i64 (pc 64 x.toNat)) ∧ w' = w := by
  obtain ⟨n, rfl⟩ := Int.eq_ofNat_of_zero_le h0
  have hn : n < 18446744073709551616 := by omega
  obtain ⟨hs, hb⟩ := swar_eq n hn
  unfold swar at hs
  dsimp only at hs
  have l1 : ∀ a b : Nat, a &&& b ≤ b := fun a b => Nat.and_le_right
  have e1 : IntKind.u64.wrap (bits .and .u64 ((n : Int) / 2) 6148914691236517205 + bits .and .u64 (n : Int) 6148914691236517205) = ((st1 8 n : Nat) : Int) := by
    have a1 := u64_and_nat (n / 2) 6148914691236517205 (by omega) (by omega)
    have a2 := u64_and_nat n 6148914691236517205 (by omega) (by omega)
    have g1 := l1 (n / 2) 6148914691236517205
    have g2 := l1 n 6148914691236517205
    have a1' : bits .and .u64 ((n : Int) / 2) 6148914691236517205 = ((n / 2 &&& 6148914691236517205 : Nat) : Int) := a1
    have a2' : bits .and .u64 (n : Int) 6148914691236517205 = ((n &&& 6148914691236517205 : Nat) : Int) := a2
    rw [a1', a2', IntWalk.u64_in _ (by omega)]
    rfl
  have b1 : st1 8 n < 18446744073709551616 := by
    have g1 : st1 8 n ≤ 6148914691236517205 + 6148914691236517205 := Nat.add_le_add (l1 _ _) (l1 _ _)
    omega
  generalize st1 8 n = n1 at *
  have e2 : IntKind.u64.wrap (bits .and .u64 ((n1 : Int) / 4) 3689348814741910323 + bits .and .u64 (n1 : Int) 3689348814741910323) = ((st2 8 n1 : Nat) : Int) := by
    have g1 := l1 (n1 / 4) 3689348814741910323
    have g2 := l1 n1 3689348814741910323
    have a1' : bits .and .u64 ((n1 : Int) / 4) 3689348814741910323 = ((n1 / 4 &&& 3689348814741910323 : Nat) : Int) := u64_and_nat (n1 / 4) 3689348814741910323 (by omega) (by omega)
    have a2' : bits .and .u64 (n1 : Int) 3689348814741910323 = ((n1 &&& 3689348814741910323 : Nat) : Int) := u64_and_nat n1 3689348814741910323 (by omega) (by omega)
    rw [a1', a2', IntWalk.u64_in _ (by omega)]
    rfl
  have b2 : st2 8 n1 ≤ 7378697629483820646 := by
    have g1 : st2 8 n1 ≤ 3689348814741910323 + 3689348814741910323 := Nat.add_le_add (l1 _ _) (l1 _ _)
    omega
  generalize st2 8 n1 = n2 at *
  have e3 : bits .and .u64 (IntKind.u64.wrap ((n2 : Int) / 16 + (n2 : Int))) 1085102592571150095 = ((st3 8 n2 : Nat) : Int) := by
    rw [IntWalk.u64_in _ (by omega)]
    exact u64_and_nat (n2 / 16 + n2) 1085102592571150095 (by omega) (by omega)
  generalize st3 8 n2 = n3 at *
  have e4 : IntKind.u64.wrap ((n3 : Int) + (n3 : Int) / 256) = ((n3 + n3 / 256 : Nat) : Int) := by
    rw [IntWalk.u64_in _ (by omega)]; omega
  have b4 : n3 + n3 / 256 ≤ 2 * 578721382704613384 := by omega
  generalize n3 + n3 / 256 = n4 at *
  have e5 : IntKind.u64.wrap ((n4 : Int) + (n4 : Int) / 65536) = ((n4 + n4 / 65536 : Nat) : Int) := by
    rw [IntWalk.u64_in _ (by omega)]; omega
  have b5 : n4 + n4 / 65536 ≤ 4 * 578721382704613384 := by omega
  generalize n4 + n4 / 65536 = n5 at *
  have e6 : IntKind.u64.wrap ((n5 : Int) + (n5 : Int) / 4294967296) = ((n5 + n5 / 4294967296 : Nat) : Int) := by
    rw [IntWalk.u64_in _ (by omega)]; omega
  have b6 : n5 + n5 / 4294967296 ≤ 8 * 578721382704613384 := by omega
  generalize n5 + n5 / 4294967296 = n6 at *
  have e7 : bits .and .i64 (n6 : Int) 127 = ((n6 % 128 : Nat) : Int) := by
    have := bits_mask .i64 63 (by decide) (fun n h0 h1 => IntWalk.i64_in n (by omega)) 7 (by decide) (n6 : Int) (by omega) (by omega)
    simpa using this
  have HS := Lib.hid hs
  clear hs hb b1 b2 b4 b5 l1 hn h0 h1
  go_enter Tryz.func97, Tryz.ntmps97
  go_wp2
  go_ret
  rw [Int.toNat_natCast, ← HS.out]
  exact ⟨rfl, rfl⟩

/-- the words' ands and shifts, as numbers -/
theorem mask_wd (x m : Nat) (hx : x < 18446744073709551616) (hm : m < 64) : bits .and .u64 (x : Int) (IntKind.u64.wrap (IntKind.u64.wrap (2 ^ m) - 1)) = ((x &&& (2 ^ m - 1) : Nat) : Int) := by
  have h1 : 2 ^ m ≤ 2 ^ 63 := Nat.pow_le_pow_right (by omega) (by omega)
  have h2 : 0 < 2 ^ m := Nat.two_pow_pos m
  have e : ((2 : Int) ^ m) = ((2 ^ m : Nat) : Int) := by simp
  rw [e, IntWalk.u64_in ((2 ^ m : Nat) : Int) (by omega), IntWalk.u64_in _ (by omega), show ((2 ^ m : Nat) : Int) - 1 = ((2 ^ m - 1 : Nat) : Int) by omega]
  exact u64_and_nat x (2 ^ m - 1) hx (by omega)

set_option maxRecDepth 100000 in
set_option maxHeartbeats 400000 in
theorem rank_core (c q m : Nat) (w : World) (bv bw ba n : Nat) (p : Nat → Bool) (i : Int) (h : VecAt w bv bw ba n p) (hc : c = 64 * q + m) (hm : m < 64) (hcn : c ≤ n)
    (hi : (i < 0 ∧ c = 0) ∨ (i = c) ∨ ((n : Int) < i ∧ c = n)) :
    Calls Tryz.prog 98 #[.pointer (some ⟨bv, 0, none⟩), .int .i64 i] w fun e w' => e = .returned (.int .i64 (cnt p c)) ∧ ∃ k, w' = w.drewN k := by
  obtain ⟨cn, cw, ca, ww, wa, _, past, small⟩ := h
  have W1 : n ≤ 64 * nw n := by unfold nw; omega
  have hq1 : ((c:Int)/64).toNat = q := by omega
  have hq2 : ((c:Int) % 64) = m := by omega
  have hca := wa q (by omega)
  have hql : (q : Int) < nw n + 1 := by omega
  have hcnt := cnt_part p q m (by omega)
  rw [← hc] at hcnt
  have HC := Lib.hid hcnt
  have hcl := cnt_le p c
  generalize cnt p c = r at *
  generalize cnt p (64 * q) = r0 at *
  have hww := ww q
  have hwlt := wd_lt p q
  generalize wd p q = x at *
  generalize nw n = N at *
  clear wa ww hcnt past
  have Hc := Lib.hid hc
  clear hc
  by_cases hm0 : 0 < m
  · have hcw := hww (by omega)
    have hqW : (q:Int) < N := by omega
    clear hww W1
    have e1 : (c:Int).tdiv 64 = q := by rw [Int.tdiv_eq_ediv_of_nonneg (by omega)]; omega
    have e2 : (c:Int).tmod 64 = m := by rw [Int.tmod_eq_emod_of_nonneg (by omega)]; omega
    have e3 : IntKind.i64.wrap (q:Int) = q := IntWalk.i64_in _ (by omega)
    have e5 := mask_wd x m hwlt hm
    have hpl : x &&& (2 ^ m - 1) < 18446744073709551616 := Nat.lt_of_le_of_lt Nat.and_le_left hwlt
    generalize x &&& (2 ^ m - 1) = y at *
    have hpc := pc_le 64 y
    have e6 : IntKind.i64.wrap ((r0 : Int) + ((pc 64 y : Nat) : Int)) = (r : Int) := by rw [HC.out]; exact IntWalk.i64_in _ (by have := HC.out; omega)
    have e7 := ones64_any (y : Int) w (by omega) (by omega)
    rw [Int.toNat_natCast] at e7
    have HE := fun W : World => Lib.hid (ones64_any (y : Int) W (by omega) (by omega))
    clear e7 hpc hpl hwlt
    rcases hi with ⟨hi, rfl⟩ | rfl | ⟨hi, rfl⟩
    · have := Hc.out; omega
    · have hlt : ¬ ((n : Int) < c) := by omega
      go_enter Tryz.func98, Tryz.ntmps98
      go_wp2
      go_quiet ((go_at_call 97; exact Calls.quiet_of_same (HE _).out))
      rw [Int.toNat_natCast]
      go_wp2
      go_ret
      exact ⟨rfl, _, rfl⟩
    · have hlt : ¬ (i < 0) := by omega
      go_enter Tryz.func98, Tryz.ntmps98
      go_wp2
      go_quiet ((go_at_call 97; exact Calls.quiet_of_same (HE _).out))
      rw [Int.toNat_natCast]
      go_wp2
      go_ret
      exact ⟨rfl, _, rfl⟩
  · obtain rfl : m = 0 := by omega
    have hr : r0 = r := by have := HC.out; rw [pc_and _ _ _ (by omega)] at this; simp [pc_zero] at this; exact this.symm
    subst hr
    clear HC hww
    rcases hi with ⟨hi, rfl⟩ | rfl | ⟨hi, rfl⟩
    · have hlt : ¬ ((n : Int) < 0) := by omega
      obtain rfl : q = 0 := by have := Hc.out; omega
      clear hq1 hq2
      go_enter Tryz.func98, Tryz.ntmps98
      go_wp2
      go_ret
      exact ⟨rfl, 0, rfl⟩
    · have hlt : ¬ ((n : Int) < c) := by omega
      go_enter Tryz.func98, Tryz.ntmps98
      go_wp2
      go_ret
      exact ⟨rfl, 0, rfl⟩
    · have hlt : ¬ (i < 0) := by omega
      go_enter Tryz.func98, Tryz.ntmps98
      go_wp2
      go_ret
      exact ⟨rfl, 0, rfl⟩

theorem rank_any (w : World) (bv bw ba n : Nat) (p : Nat → Bool) (i : Int) (h : VecAt w bv bw ba n p) :
    Calls Tryz.prog 98 #[.pointer (some ⟨bv, 0, none⟩), .int .i64 i] w fun e w' => e = .returned (.int .i64 (cnt p i.toNat)) ∧ ∃ k, w' = w.drewN k := by
  by_cases h1 : i < 0
  · have e : i.toNat = 0 := by omega
    rw [e]
    exact rank_core 0 0 0 w bv bw ba n p i h (by omega) (by omega) (by omega) (.inl ⟨h1, rfl⟩)
  · by_cases h2 : i ≤ n
    · exact rank_core i.toNat (i.toNat / 64) (i.toNat % 64) w bv bw ba n p i h (by omega) (by omega) (by omega) (.inr (.inl (by omega)))
    · rw [← cnt_min p n h.past, Nat.min_eq_right (by omega)]
      exact rank_core n (n / 64) (n % 64) w bv bw ba n p i h (by omega) (by omega) (by omega) (.inr (.inr ⟨by omega, rfl⟩))

set_option maxRecDepth 100000 in
set_option maxHeartbeats 400000 in
theorem zeros_core (c : Nat) (w : World) (bv bw ba n : Nat) (p : Nat → Bool) (i : Int) (h : VecAt w bv bw ba n p) (hcn : c ≤ n)
    (hi : (i < 0 ∧ c = 0) ∨ (i = c) ∨ ((n : Int) < i ∧ c = n)) :
    Calls Tryz.prog 99 #[.pointer (some ⟨bv, 0, none⟩), .int .i64 i] w fun e w' => e = .returned (.int .i64 (cnt (neg n p) c)) ∧ ∃ k, w' = w.drewN k := by
  have cn := h.cn
  have hs := h.small
  have HR := fun W (hW : VecAt W bv bw ba n p) => Lib.hid (rank_any W bv bw ba n p (c : Int) hW)
  have HV := Lib.hid h
  have h1 := cnt_neg n p h.past c
  rw [Nat.min_eq_left hcn] at h1
  have HN := Lib.hid h1
  have hl := cnt_le p c
  clear h h1
  rcases hi with ⟨hi, rfl⟩ | rfl | ⟨hi, rfl⟩
  · have hlt : ¬ ((n : Int) < 0) := by omega
    go_enter Tryz.func99, Tryz.ntmps99
    go_wp2_with (go_at_call 98; refine (HR _ HV.out).out.mono ?_; rintro e w' ⟨rfl, k1, rfl⟩)
    go_ret
    refine ⟨ret_int ?_, _, rfl⟩
    have := HN.out
    omega
  · have hlt : ¬ ((n : Int) < c) := by omega
    go_enter Tryz.func99, Tryz.ntmps99
    go_wp2_with (go_at_call 98; refine (HR _ HV.out).out.mono ?_; rintro e w' ⟨rfl, k1, rfl⟩)
    go_ret
    refine ⟨ret_int ?_, _, rfl⟩
    have := HN.out
    omega
  · have hlt : ¬ (i < 0) := by omega
    go_enter Tryz.func99, Tryz.ntmps99
    go_wp2_with (go_at_call 98; refine (HR _ HV.out).out.mono ?_; rintro e w' ⟨rfl, k1, rfl⟩)
    go_ret
    refine ⟨ret_int ?_, _, rfl⟩
    have := HN.out
    omega
theorem zeros_any (w : World) (bv bw ba n : Nat) (p : Nat → Bool) (i : Int) (h : VecAt w bv bw ba n p) :
    Calls Tryz.prog 99 #[.pointer (some ⟨bv, 0, none⟩), .int .i64 i] w fun e w' => e = .returned (.int .i64 (cnt (neg n p) i.toNat)) ∧ ∃ k, w' = w.drewN k := by
  by_cases h1 : i < 0
  · have e : i.toNat = 0 := by omega
    rw [e]
    exact zeros_core 0 w bv bw ba n p i h (by omega) (.inl ⟨h1, rfl⟩)
  · by_cases h2 : i ≤ n
    · exact zeros_core i.toNat w bv bw ba n p i h (by omega) (.inr (.inl (by omega)))
    · rw [← cnt_min (neg n p) n (neg_past n p), Nat.min_eq_right (by omega)]
      exact zeros_core n w bv bw ba n p i h (by omega) (.inr (.inr ⟨by omega, rfl⟩))

end Go.Proofs.YtjpoebmjfedecaaGreat.Wv
