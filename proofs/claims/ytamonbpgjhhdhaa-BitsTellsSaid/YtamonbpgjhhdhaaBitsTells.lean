/-
  The statement BitsTells: its walk.
-/
import Derived.Test.YtamonbpgjhhdhaaBitsOnes
import Derived.Test.YtamonbpgjhhdhaaRowOpen
import Derived.Test.YtamonbpgjhhdhaaSameInts
namespace Go.Proofs.Ytamonbpgjhhdhaa
open Go.RowKit

/-- two slices of the call's own share no array -/
def Apart (u v : Value) : Prop := u.ownBlock = none ∨ v.ownBlock = none ∨ u.ownBlock ≠ v.ownBlock
theorem Apart.symm {u v : Value} (h : Apart u v) : Apart v u := by
  rcases h with h | h | h
  · exact .inr (.inl h)
  · exact .inl h
  · exact .inr (.inr (Ne.symm h))
theorem owns_two {W w1 : World} {base n : Nat} {e : TypeId} {u v v' : Value} {xs : List Value} {tmp : Obj} (hu : W.ownsRow base e 1 u n xs) (hap : Apart u v)
    (hgrow : (W.alloc tmp).grownBy w1 v.ownBlock) (hat : v'.ownBlock = v.ownBlock ∨ v'.ownBlock = some (W.alloc tmp).heap.size) : w1.ownsRow base e 1 u n xs ∧ Apart u v' := by
  refine ⟨(hu.alloc tmp).kept hgrow ?_, ?_⟩
  · rcases hap with h | h | h
    · exact .inl h
    · by_cases hn : u.ownBlock = none
      · exact .inl hn
      · exact .inr (by rw [h]; exact hn)
    · exact .inr h
  · rcases hat with h | h
    · unfold Apart; rw [h]; exact hap
    · cases hb : u.ownBlock with
      | none => exact .inl hb
      | some k =>
        have := (hu.lt k hb).2
        refine .inr (.inr ?_)
        rw [hb, h]
        simp
        omega

theorem onesL_get (p : Nat → Bool) (N j : Nat) (hj : j < N) (hp : p j = true) : (onesL p N).getD (cnt p j) 0 = j := by
  obtain ⟨t, ht⟩ := onesL_pre p (show j + 1 ≤ N by omega)
  rw [← ht, onesL_true p j hp, List.append_assoc, List.getD_eq_getElem?_getD, List.getElem?_append_right (by rw [onesL_len]; omega), onesL_len, Nat.sub_self]
  rfl
theorem sel_onesL (p : Nat → Bool) (N : Nat) (k : Int) : sel p N k = if 0 ≤ k ∧ k < ((cnt p N : Nat) : Int) then (((onesL p N).getD k.toNat 0 : Nat) : Int) else -1 := by
  split
  · rename_i h
    obtain ⟨j, hj, hp, hc, hs⟩ := sel_is p N k h.1 h.2
    rw [hs]
    have : k.toNat = cnt p j := by omega
    rw [this, onesL_get p N j hj hp]
  · rename_i h
    exact sel_none p N k (by omega)

set_option maxHeartbeats 400000 in
theorem tells1_any (w : World) (a : Option Addr) (n cap : Nat) (f : Nat → Int) (k : Int) (ha : Row w a n (fun k => .int .i64 (f k))) :
    Calls Try.prog 18 #[.slice a n cap, .int .i64 k] w fun e w' => e = .returned (.int .i64 (if 0 ≤ k ∧ k < (n : Int) then f k.toNat else -1)) ∧ w = w' := by
  have hix := run_ix (P := Try.prog) 32 (by kernel_rfl) size_int a n cap ha.at_ .i64
  by_cases h : 0 ≤ k ∧ k < (n : Int)
  · rw [if_pos h]
    obtain ⟨h0, h1⟩ := h
    obtain ⟨j, rfl⟩ := Int.eq_ofNat_of_zero_le h0
    have hlt : j < n := by omega
    have d := ha.cell j hlt
    clear ha h0
    rw [Int.toNat_natCast]
    go_enter Try.func18, Try.ntmps18
    go_wp2
    go_ret
    exact ⟨rfl, rfl⟩
  · rw [if_neg h]
    clear ha
    by_cases h0 : 0 ≤ k
    · have h1 : ¬ k < (n : Int) := by omega
      clear h hix
      go_enter Try.func18, Try.ntmps18
      go_wp2
      go_ret
      exact ⟨rfl, rfl⟩
    · clear h hix
      go_enter Try.func18, Try.ntmps18
      go_wp2
      go_ret
      exact ⟨rfl, rfl⟩

/-- how far the rank has come behind k rounds -/
def rkTo (p : Nat → Bool) (i : Int) (k : Nat) : Nat := cnt p (min k i.toNat)
theorem rkTo_in (p : Nat → Bool) (i : Int) (k : Nat) (h : (k : Int) < i) : rkTo p i (k + 1) = rkTo p i k + (p k).toNat := by
  unfold rkTo; rw [show min (k + 1) i.toNat = k + 1 by omega, show min k i.toNat = k by omega, cnt_succ]
theorem rkTo_out (p : Nat → Bool) (i : Int) (k : Nat) (h : ¬ (k : Int) < i) : rkTo p i (k + 1) = rkTo p i k := by
  unfold rkTo; rw [show min (k + 1) i.toNat = i.toNat by omega, show min k i.toNat = i.toNat by omega]
theorem rkTo_le (p : Nat → Bool) (i : Int) (k : Nat) : rkTo p i k ≤ k := by
  unfold rkTo; exact Nat.le_trans (cnt_le _ _) (by omega)

set_option maxRecDepth 100000 in
set_option maxHeartbeats 1000000 in
theorem tells_walk (w : World) (a : Option Addr) (len cap : Nat) (f : Nat → Bool) (hl : len ≤ maxLen) (hr : Row w a len (fun k => .bool (f k))) (n : Int) (_ : (Lit.int .i64 n).wf = true) (i : Int) (_ : (Lit.int .i64 i).wf = true) :
    Calls Try.prog 6 #[.slice a len cap, .int .i64 n, .int .i64 i] w fun e w' => e = .returned (.bool true) ∧ Below w.heap.size w w' := by
  have em : bits .and .i64 n 16383 = n % 16384 := i64_mask n 14 (by omega)
  obtain ⟨m, hm, hm2⟩ : ∃ m : Nat, n % 16384 % 9000 = m ∧ m ≤ 9000 := ⟨(n % 16384 % 9000).toNat, by omega, by omega⟩
  have hmn : 0 ≤ n % 16384 := by omega
  obtain ⟨i0, hi, hz0, hz1, hz2⟩ := info_parts info_int
  have HL := Lib.hid (long_any w a len cap f m (by omega) hl hr)
  clear hr
  go_enter Try.func6, Try.ntmps6
  go_wp2_with (first
    | (go_at_call 7; refine HL.out.mono ?_; rintro e w1 ⟨a1, N, cap1, rfl, hN, hNc, hr1, hb1⟩; have HN := Lib.hid hN; have HR1 := Lib.hid hr1; have HB1 := Lib.hid hb1; clear hN hr1 hb1)
    | (go_at_call 8; refine (new_any _ a1 N cap1 _ (by have := HN.out; split at this <;> omega) HR1.out).mono ?_; rintro e w2 ⟨bv, bw, ba, rfl, hv, hb2⟩; have HV := Lib.hid hv; have HB2 := Lib.hid hb2; clear hv hb2)
    | (go_at_call 17; refine (len_any _ bv bw ba N _ HV.out).mono ?_; rintro e w' ⟨rfl, k0, rfl⟩))
  have hN3 : N ≤ 9000 := by have := HN.out; split at this <;> omega
  have hix := run_ix (P := Try.prog) 22 (by kernel_rfl) size_bool a1 N cap1 HR1.out.at_ .i64
  generalize hg : (fun k => lg f len k) = g at *
  have hR0 : Row w1 a1 N (fun k => .bool (g k)) := by rw [← hg]; exact HR1.out
  have HR := Lib.hid ((hR0.kept HB2.out).drewN k0)
  have hV0 : VecAt w2 bv bw ba N (cut N g) := by rw [← hg]; exact HV.out
  have HV3 := Lib.hid (hV0.drewN k0)
  have HB3 : Hid (Below w.heap.size w (w2.drewN k0)) := below_drewN (below_next HB1.out HB2.out HB1.out.size) k0
  clear HL HN HR1 em hm2 hg hR0 hV0 HV HB1 HB2 hm hmn
  generalize w2.drewN k0 = w3 at *
  have hpg : ∀ k, k < N → cut N g k = g k := fun k hk => by simp [cut, hk]
  have hqg : ∀ k, k < N → neg N (cut N g) k = !g k := fun k hk => by simp [neg, cut, hk]
  have HPG := Lib.hid hpg
  have HQG := Lib.hid hqg
  clear hpg hqg
  generalize cut N g = p at *
  go_loopw [10, 11, 12, 13] (fun v u r i' wr => ∃ k : Nat, k ≤ N ∧ i' = .int .i64 k ∧ r = .int .i64 (rkTo p i k) ∧ wr.ownsRow w3.heap.size 3 1 v (cnt p k) ((onesL p k).map fun j : Nat => Value.int .i64 (j : Int)) ∧
      wr.ownsRow w3.heap.size 3 1 u (cnt (neg N p) k) ((onesL (neg N p) k).map fun j : Nat => Value.int .i64 (j : Int)) ∧ Apart v u ∧ Below w3.heap.size w3 wr) (fun _ _ _ i _ => N - (intOf i).toNat)
  case atStart => exact ⟨0, Nat.zero_le _, rfl, by simp [rkTo, cnt_zero], by rw [cnt_zero, onesL_zero]; exact World.ownsRow_nil _ _ _ _, by rw [cnt_zero, onesL_zero]; exact World.ownsRow_nil _ _ _ _, .inl rfl, Below.refl _ _⟩
  case round =>
    rename_i v u
    obtain ⟨k, hk, rfl, rfl, hown, hown2, hap, hbel⟩ := hrel
    by_cases hlt : k < N
    · have d0 : wr.cell? ⟨bOf a1, oOf a1 + k, none⟩ = some (.bool (g k)) := (HR.out.kept hbel).cell k hlt
      have hs := hbel.size
      have HB := Lib.hid hbel
      have HO := Lib.hid hown
      have HO2 := Lib.hid hown2
      have HA := Lib.hid hap
      have hrl := rkTo_le p i k
      have hc1 := cnt_le p k
      have hc2 := cnt_le (neg N p) k
      have hpk := HPG.out k hlt
      have hqk := HQG.out k hlt
      clear hbel hown hown2 hap
      cases hgk : g k
      · rw [hgk] at d0 hpk hqk
        have HL1 := Lib.hid (onesL_false p k hpk)
        have HL2 := Lib.hid (onesL_true (neg N p) k hqk)
        have HC1 := Lib.hid (show cnt p (k + 1) = cnt p k by rw [cnt_succ, hpk]; rfl)
        have HC2 := Lib.hid (show cnt (neg N p) (k + 1) = cnt (neg N p) k + 1 by rw [cnt_succ, hqk]; rfl)
        have hrk : rkTo p i (k + 1) = rkTo p i k := by
          by_cases h : (k : Int) < i
          · rw [rkTo_in p i k h, hpk]; rfl
          · exact rkTo_out p i k h
        have HRK := Lib.hid hrk
        clear hpk hqk hgk hrk
        generalize rkTo p i k = r0 at *
        generalize cnt (neg N p) k = c2 at *
        by_cases h : (k : Int) < i
        all_goals
          go_wp2_with (at_builtin; refine wpList_append_own_at _ rfl _ _ 32 rfl w3.heap.size 3 i0 (.int .i64 0) 1 8 Try.underlying32 hi hz0 hz1 hz2 rfl (by decide) _ _ _ rfl (HO2.out.alloc _) ⟨wr.heap.size, 0, none⟩ 1 1 [.int .i64 (k : Int)] rfl rfl (cell_one_new _ _ _) (by simp [Value.oneCell']) (by simp only [maxLen]; omega) (by omega) (by simp; omega) ?_; intro v' w4 hown' hgrow _ hat)
          have hlt' := HO2.out.lt
          obtain ⟨hO1', hA'⟩ := owns_two HO.out HA.out hgrow hat
          have HO1n := Lib.hid hO1'
          have HO2n := Lib.hid hown'
          have HAn := Lib.hid hA'
          have HBn : Hid (Below w3.heap.size w3 w4) := (HB.out.alloc hs _).grown hgrow (by simp; omega) (fun g hg => (hlt' g hg).1)
          clear hown' hgrow hlt' hat hO1' hA'
          go_wp2
          go_roundw
          case rel => exact ⟨k + 1, by omega, by go_num, by rw [HRK.out], by rw [HC1.out, HL1.out]; exact HO1n.out, by rw [HC2.out, HL2.out, List.map_append]; exact HO2n.out, HAn.out, HBn.out⟩
          case measure => simp [intOf]; omega
      · rw [hgk] at d0 hpk hqk
        have HL1 := Lib.hid (onesL_true p k hpk)
        have HL2 := Lib.hid (onesL_false (neg N p) k hqk)
        have HC1 := Lib.hid (show cnt p (k + 1) = cnt p k + 1 by rw [cnt_succ, hpk]; rfl)
        have HC2 := Lib.hid (show cnt (neg N p) (k + 1) = cnt (neg N p) k by rw [cnt_succ, hqk]; rfl)
        have hrk : rkTo p i (k + 1) = if (k : Int) < i then rkTo p i k + 1 else rkTo p i k := by
          by_cases h : (k : Int) < i
          · rw [if_pos h, rkTo_in p i k h, hpk]; rfl
          · rw [if_neg h]; exact rkTo_out p i k h
        have HRK := Lib.hid hrk
        clear hpk hqk hgk hrk
        generalize rkTo p i k = r0 at *
        generalize cnt p k = c2 at *
        by_cases h : (k : Int) < i
        all_goals
          go_wp2_with (at_builtin; refine wpList_append_own_at _ rfl _ _ 32 rfl w3.heap.size 3 i0 (.int .i64 0) 1 8 Try.underlying32 hi hz0 hz1 hz2 rfl (by decide) _ _ _ rfl (HO.out.alloc _) ⟨wr.heap.size, 0, none⟩ 1 1 [.int .i64 (k : Int)] rfl rfl (cell_one_new _ _ _) (by simp [Value.oneCell']) (by simp only [maxLen]; omega) (by omega) (by simp; omega) ?_; intro v' w4 hown' hgrow _ hat)
          have hlt' := HO.out.lt
          obtain ⟨hO1', hA'⟩ := owns_two HO2.out HA.out.symm hgrow hat
          have HO2n := Lib.hid hO1'
          have HO1n := Lib.hid hown'
          have HAn := Lib.hid hA'
          have HBn : Hid (Below w3.heap.size w3 w4) := (HB.out.alloc hs _).grown hgrow (by simp; omega) (fun g hg => (hlt' g hg).1)
          clear hown' hgrow hlt' hat hO1' hA'
          go_wp2
          go_roundw
          case rel => exact ⟨k + 1, by omega, by go_num, by rw [HRK.out]; first | (rw [if_pos h]; go_num) | (rw [if_neg (by omega)]), by rw [HC1.out, HL1.out, List.map_append]; exact HO1n.out, by rw [HC2.out, HL2.out]; exact HO2n.out, HAn.out.symm, HBn.out⟩
          case measure => simp [intOf]; omega
    · obtain ⟨a2, cap2, rfl, hc2, hr2, _⟩ := Row.of_owns hown
      obtain ⟨a3, cap3, rfl, hc3, hr3, _⟩ := Row.of_owns hown2
      have hkN : k = N := by omega
      have hr2' : Row wr a2 (cnt p k) (fun k => .int .i64 (((onesL p N).getD k 0 : Nat) : Int)) := hr2.congr fun j hj => by
        have : j < (onesL p N).length := by rw [onesL_len]; rw [hkN] at hj; exact hj
        rw [hkN]; simp [List.getD_eq_getElem?_getD, List.getElem?_eq_getElem this]
      have hr3' : Row wr a3 (cnt (neg N p) k) (fun k => .int .i64 (((onesL (neg N p) N).getD k 0 : Nat) : Int)) := hr3.congr fun j hj => by
        have : j < (onesL (neg N p) N).length := by rw [onesL_len]; rw [hkN] at hj; exact hj
        rw [hkN]; simp [List.getD_eq_getElem?_getD, List.getElem?_eq_getElem this]
      have HR2 := Lib.hid hr2'
      have HR3 := Lib.hid hr3'
      have HB := Lib.hid hbel
      have HK := Lib.hid hkN
      have hd : decide ((k : Int) < N) = false := by simp; omega
      have HVr := Lib.hid (HV3.out.kept hbel)
      have HRr := Lib.hid (HR.out.kept hbel)
      have hcl : cnt p k ≤ 9000 := Nat.le_trans (cnt_le p k) (by omega)
      have hcl2 : cnt (neg N p) k ≤ 9000 := Nat.le_trans (cnt_le (neg N p) k) (by omega)
      have hlen : (onesL p N).length = cnt p k := by rw [onesL_len, hkN]
      have HLen := Lib.hid hlen
      -- the ranks
      have t1 : rkTo p i k = cnt p i.toNat := by
        unfold rkTo
        rw [hkN, Nat.min_comm, cnt_min p N HV3.out.past]
      have hneg := cnt_neg N p HV3.out.past i.toNat
      have HNG := Lib.hid hneg
      have hck : cnt p N = cnt p k := by rw [hkN]
      have hck2 : cnt (neg N p) N = cnt (neg N p) k := by rw [hkN]
      have t3 := sel_onesL p N i
      have t4 := sel_onesL (neg N p) N i
      rw [hck] at t3
      rw [hck2] at t4
      have T1 := Lib.hid t1
      have hgi : ∀ j : Nat, j < N → g j = p j := fun j hj => (HPG.out j hj).symm
      have hpp := HV3.out.past
      have HPP := Lib.hid hpp
      have HGI := Lib.hid hgi
      have hs1 : ∀ W : World, Row W a2 (cnt p k) (fun k => .int .i64 (((onesL p N).getD k 0 : Nat) : Int)) → Calls Try.prog 18 #[.slice a2 (cnt p k) cap2, .int .i64 i] W fun e w' => e = .returned (.int .i64 (sel p N i)) ∧ W = w' :=
        fun W hW => by rw [t3]; exact tells1_any W a2 (cnt p k) cap2 _ i hW
      have hs2 : ∀ W : World, Row W a3 (cnt (neg N p) k) (fun k => .int .i64 (((onesL (neg N p) N).getD k 0 : Nat) : Int)) → Calls Try.prog 18 #[.slice a3 (cnt (neg N p) k) cap3, .int .i64 i] W fun e w' => e = .returned (.int .i64 (sel (neg N p) N i)) ∧ W = w' :=
        fun W hW => by rw [t4]; exact tells1_any W a3 (cnt (neg N p) k) cap3 _ i hW
      have HS1 := Lib.hid hs1
      have HS2 := Lib.hid hs2
      clear hs1 hs2 hown hown2 hap hr2 hr3 hr2' hr3' hbel hlen hneg t3 t4 hgi hpp hkN HPG HQG HV3 HR hk hck hck2
      rw [t1]
      clear t1
      generalize cnt (neg N p) k = c2 at *
      generalize cnt p k = c1 at *
      have hcb : cnt p i.toNat ≤ N := by have := cnt_neg N p HPP.out i.toNat; omega
      have hN0 : (0 : Int) ≤ (N : Int) := by omega
      by_cases hi0 : i < 0
      · have e1 : i.toNat = 0 := by omega
        have e2 : cnt p 0 = 0 := cnt_zero _
        have e3 : cnt (neg N p) 0 = 0 := cnt_zero _
        have e4 : ¬ ((N : Int) < 0) := by omega
        go_wp2_with (first
          | (go_at_call 9; (with_reducible refine (rank_any _ bv bw ba N p _ (by first | exact HVr.out | exact HVr.out.drewN _)).mono ?_); rintro e w' ⟨rfl, k1, rfl⟩)
          | (go_at_call 10; (with_reducible refine (zeros_any _ bv bw ba N p _ (by first | exact HVr.out | exact HVr.out.drewN _)).mono ?_); rintro e w' ⟨rfl, k1, rfl⟩)
          | (go_at_call 12; (with_reducible refine (select_any _ bv bw ba N p _ (by first | exact HVr.out | exact HVr.out.drewN _)).mono ?_); rintro e w' ⟨rfl, k1, rfl⟩)
          | (go_at_call 13; (with_reducible refine (select0_any _ bv bw ba N p _ (by first | exact HVr.out | exact HVr.out.drewN _)).mono ?_); rintro e w' ⟨rfl, k1, rfl⟩)
          | (go_at_call 11; (with_reducible refine (get_any _ bv bw ba N p _ (by first | exact HVr.out | exact HVr.out.drewN _)).mono ?_); rintro e w' ⟨rfl, k1, rfl⟩)
          | (go_at_call 18; (with_reducible refine (HS1.out _ (by first | exact HR2.out | exact HR2.out.drewN _)).mono ?_); rintro e w' ⟨rfl, rfl⟩)
          | (go_at_call 18; (with_reducible refine (HS2.out _ (by first | exact HR3.out | exact HR3.out.drewN _)).mono ?_); rintro e w' ⟨rfl, rfl⟩)
          | fail)
        refine (ones_row _ bv bw ba N p _ (by omega) (by omega) (HVr.out.drewN _)).mono ?_
        rintro e w5 ⟨a5, m5, cap5, rfl, hm5, hr5, hb5, _⟩
        obtain rfl : m5 = c1 := by rw [hm5, List.take_of_length_le (by have := HLen.out; omega), HLen.out]
        have HR5 := Lib.hid hr5
        have HB5 := Lib.hid hb5
        clear hm5 hr5 hb5
        go_wp2_with fail
        refine (same_yes _ a5 a2 m5 _ _ _ (by omega) HR5.out ((HR2.out.drewN _).kept HB5.out)).mono ?_
        rintro e w' ⟨rfl, k6, rfl⟩
        go_wp2_with fail
        refine (ones_row _ bv bw ba N p _ (by omega) (by omega) (((HVr.out.drewN _).kept HB5.out).drewN _)).mono ?_
        rintro e w6 ⟨a6, m6, cap6, rfl, hm6, _, hb6, _⟩
        have hm7 : m6 = min 5 m5 := by rw [hm6, List.length_take, HLen.out]; rfl
        have HB6 := Lib.hid hb6
        clear hm6 hb6
        have h4 := below_next HB3.out HB.out HB3.out.size
        have h5 := below_next (below_drewN h4 _) HB5.out h4.size
        have h6 := below_next (below_drewN h5 _) HB6.out h5.size
        have H6 := Lib.hid h6
        clear h4 h5 h6
        by_cases h5 : (m5 : Int) < 5
        · have hm8 : ((m6 : Int) == (m5 : Int)) = true := by rw [beq_iff_eq]; omega
          clear hm7
          go_wp2_with (go_at_call 14; refine (awake_any _).mono ?_; rintro e w7 ⟨rfl, hb7⟩)
          go_ret
          exact ⟨rfl, below_next H6.out hb7 H6.out.size⟩
        · have hm8 : ((m6 : Int) == 5) = true := by rw [beq_iff_eq]; omega
          clear hm7
          by_cases h7 : (5 : Int) < (m5 : Int)
          · go_wp2_with (go_at_call 14; refine (awake_any _).mono ?_; rintro e w7 ⟨rfl, hb7⟩)
            go_ret
            exact ⟨rfl, below_next H6.out hb7 H6.out.size⟩
          · have h9 : ((m5 : Int)) = 5 := by omega
            go_wp2_with (go_at_call 14; refine (awake_any _).mono ?_; rintro e w7 ⟨rfl, hb7⟩)
            go_ret
            exact ⟨rfl, below_next H6.out hb7 H6.out.size⟩
      · obtain ⟨j, rfl⟩ := Int.eq_ofNat_of_zero_le (show 0 ≤ i by omega)
        have e0 : (j : Int).toNat = j := rfl
        rw [e0] at hcb HNG
        have HN2 := HNG.out
        by_cases hj : j < N
        · have d0 := HRr.out.cell j hj
          have d1 := HGI.out j hj
          have e1 : ¬ ((N : Int) < (j : Int)) := by omega
          have e2 : (((cnt (neg N p) j : Nat) : Int) != (j : Int) - ((cnt p j : Nat) : Int)) = false := by simp; omega
          rw [d1] at d0
          have hq : (cnt p j : Int) ≤ j := by have := cnt_le p j; omega
          clear HN2 d1
          go_wp2_with (first
            | (go_at_call 9; (with_reducible refine (rank_any _ bv bw ba N p _ (by first | exact HVr.out | exact HVr.out.drewN _)).mono ?_); rintro e w' ⟨rfl, k1, rfl⟩)
            | (go_at_call 10; (with_reducible refine (zeros_any _ bv bw ba N p _ (by first | exact HVr.out | exact HVr.out.drewN _)).mono ?_); rintro e w' ⟨rfl, k1, rfl⟩)
            | (go_at_call 12; (with_reducible refine (select_any _ bv bw ba N p _ (by first | exact HVr.out | exact HVr.out.drewN _)).mono ?_); rintro e w' ⟨rfl, k1, rfl⟩)
            | (go_at_call 13; (with_reducible refine (select0_any _ bv bw ba N p _ (by first | exact HVr.out | exact HVr.out.drewN _)).mono ?_); rintro e w' ⟨rfl, k1, rfl⟩)
            | (go_at_call 11; (with_reducible refine (get_any _ bv bw ba N p _ (by first | exact HVr.out | exact HVr.out.drewN _)).mono ?_); rintro e w' ⟨rfl, k1, rfl⟩)
            | (go_at_call 18; (with_reducible refine (HS1.out _ (by first | exact HR2.out | exact HR2.out.drewN _)).mono ?_); rintro e w' ⟨rfl, rfl⟩)
            | (go_at_call 18; (with_reducible refine (HS2.out _ (by first | exact HR3.out | exact HR3.out.drewN _)).mono ?_); rintro e w' ⟨rfl, rfl⟩)
            | fail)
          refine (ones_row _ bv bw ba N p _ (by omega) (by omega) (HVr.out.drewN _)).mono ?_
          rintro e w5 ⟨a5, m5, cap5, rfl, hm5, hr5, hb5, _⟩
          obtain rfl : m5 = c1 := by rw [hm5, List.take_of_length_le (by have := HLen.out; omega), HLen.out]
          have HR5 := Lib.hid hr5
          have HB5 := Lib.hid hb5
          clear hm5 hr5 hb5
          go_wp2_with fail
          refine (same_yes _ a5 a2 m5 _ _ _ (by omega) HR5.out ((HR2.out.drewN _).kept HB5.out)).mono ?_
          rintro e w' ⟨rfl, k6, rfl⟩
          go_wp2_with fail
          refine (ones_row _ bv bw ba N p _ (by omega) (by omega) (((HVr.out.drewN _).kept HB5.out).drewN _)).mono ?_
          rintro e w6 ⟨a6, m6, cap6, rfl, hm6, _, hb6, _⟩
          have hm7 : m6 = min 5 m5 := by rw [hm6, List.length_take, HLen.out]; rfl
          have HB6 := Lib.hid hb6
          clear hm6 hb6
          have h4 := below_next HB3.out HB.out HB3.out.size
          have h5 := below_next (below_drewN h4 _) HB5.out h4.size
          have h6 := below_next (below_drewN h5 _) HB6.out h5.size
          have H6 := Lib.hid h6
          clear h4 h5 h6
          by_cases h5 : (m5 : Int) < 5
          · have hm8 : ((m6 : Int) == (m5 : Int)) = true := by rw [beq_iff_eq]; omega
            clear hm7
            go_wp2_with (go_at_call 14; refine (awake_any _).mono ?_; rintro e w7 ⟨rfl, hb7⟩)
            go_ret
            exact ⟨rfl, below_next H6.out hb7 H6.out.size⟩
          · have hm8 : ((m6 : Int) == 5) = true := by rw [beq_iff_eq]; omega
            clear hm7
            by_cases h7 : (5 : Int) < (m5 : Int)
            · go_wp2_with (go_at_call 14; refine (awake_any _).mono ?_; rintro e w7 ⟨rfl, hb7⟩)
              go_ret
              exact ⟨rfl, below_next H6.out hb7 H6.out.size⟩
            · have h9 : ((m5 : Int)) = 5 := by omega
              go_wp2_with (go_at_call 14; refine (awake_any _).mono ?_; rintro e w7 ⟨rfl, hb7⟩)
              go_ret
              exact ⟨rfl, below_next H6.out hb7 H6.out.size⟩
        · have d1 := HPP.out j (by omega)
          have e2 : (((cnt (neg N p) j : Nat) : Int) != (N : Int) - ((cnt p j : Nat) : Int)) = false := by simp; omega
          by_cases hj2 : (N : Int) < (j : Int)
          · clear HN2
            go_wp2_with (first
              | (go_at_call 9; (with_reducible refine (rank_any _ bv bw ba N p _ (by first | exact HVr.out | exact HVr.out.drewN _)).mono ?_); rintro e w' ⟨rfl, k1, rfl⟩)
              | (go_at_call 10; (with_reducible refine (zeros_any _ bv bw ba N p _ (by first | exact HVr.out | exact HVr.out.drewN _)).mono ?_); rintro e w' ⟨rfl, k1, rfl⟩)
              | (go_at_call 12; (with_reducible refine (select_any _ bv bw ba N p _ (by first | exact HVr.out | exact HVr.out.drewN _)).mono ?_); rintro e w' ⟨rfl, k1, rfl⟩)
              | (go_at_call 13; (with_reducible refine (select0_any _ bv bw ba N p _ (by first | exact HVr.out | exact HVr.out.drewN _)).mono ?_); rintro e w' ⟨rfl, k1, rfl⟩)
              | (go_at_call 11; (with_reducible refine (get_any _ bv bw ba N p _ (by first | exact HVr.out | exact HVr.out.drewN _)).mono ?_); rintro e w' ⟨rfl, k1, rfl⟩)
              | (go_at_call 18; (with_reducible refine (HS1.out _ (by first | exact HR2.out | exact HR2.out.drewN _)).mono ?_); rintro e w' ⟨rfl, rfl⟩)
              | (go_at_call 18; (with_reducible refine (HS2.out _ (by first | exact HR3.out | exact HR3.out.drewN _)).mono ?_); rintro e w' ⟨rfl, rfl⟩)
              | fail)
            refine (ones_row _ bv bw ba N p _ (by omega) (by omega) (HVr.out.drewN _)).mono ?_
            rintro e w5 ⟨a5, m5, cap5, rfl, hm5, hr5, hb5, _⟩
            obtain rfl : m5 = c1 := by rw [hm5, List.take_of_length_le (by have := HLen.out; omega), HLen.out]
            have HR5 := Lib.hid hr5
            have HB5 := Lib.hid hb5
            clear hm5 hr5 hb5
            go_wp2_with fail
            refine (same_yes _ a5 a2 m5 _ _ _ (by omega) HR5.out ((HR2.out.drewN _).kept HB5.out)).mono ?_
            rintro e w' ⟨rfl, k6, rfl⟩
            go_wp2_with fail
            refine (ones_row _ bv bw ba N p _ (by omega) (by omega) (((HVr.out.drewN _).kept HB5.out).drewN _)).mono ?_
            rintro e w6 ⟨a6, m6, cap6, rfl, hm6, _, hb6, _⟩
            have hm7 : m6 = min 5 m5 := by rw [hm6, List.length_take, HLen.out]; rfl
            have HB6 := Lib.hid hb6
            clear hm6 hb6
            have h4 := below_next HB3.out HB.out HB3.out.size
            have h5 := below_next (below_drewN h4 _) HB5.out h4.size
            have h6 := below_next (below_drewN h5 _) HB6.out h5.size
            have H6 := Lib.hid h6
            clear h4 h5 h6
            by_cases h5 : (m5 : Int) < 5
            · have hm8 : ((m6 : Int) == (m5 : Int)) = true := by rw [beq_iff_eq]; omega
              clear hm7
              go_wp2_with (go_at_call 14; refine (awake_any _).mono ?_; rintro e w7 ⟨rfl, hb7⟩)
              go_ret
              exact ⟨rfl, below_next H6.out hb7 H6.out.size⟩
            · have hm8 : ((m6 : Int) == 5) = true := by rw [beq_iff_eq]; omega
              clear hm7
              by_cases h7 : (5 : Int) < (m5 : Int)
              · go_wp2_with (go_at_call 14; refine (awake_any _).mono ?_; rintro e w7 ⟨rfl, hb7⟩)
                go_ret
                exact ⟨rfl, below_next H6.out hb7 H6.out.size⟩
              · have h9 : ((m5 : Int)) = 5 := by omega
                go_wp2_with (go_at_call 14; refine (awake_any _).mono ?_; rintro e w7 ⟨rfl, hb7⟩)
                go_ret
                exact ⟨rfl, below_next H6.out hb7 H6.out.size⟩
          · obtain rfl : N = j := by omega
            clear HN2
            go_wp2_with (first
              | (go_at_call 9; (with_reducible refine (rank_any _ bv bw ba N p _ (by first | exact HVr.out | exact HVr.out.drewN _)).mono ?_); rintro e w' ⟨rfl, k1, rfl⟩)
              | (go_at_call 10; (with_reducible refine (zeros_any _ bv bw ba N p _ (by first | exact HVr.out | exact HVr.out.drewN _)).mono ?_); rintro e w' ⟨rfl, k1, rfl⟩)
              | (go_at_call 12; (with_reducible refine (select_any _ bv bw ba N p _ (by first | exact HVr.out | exact HVr.out.drewN _)).mono ?_); rintro e w' ⟨rfl, k1, rfl⟩)
              | (go_at_call 13; (with_reducible refine (select0_any _ bv bw ba N p _ (by first | exact HVr.out | exact HVr.out.drewN _)).mono ?_); rintro e w' ⟨rfl, k1, rfl⟩)
              | (go_at_call 11; (with_reducible refine (get_any _ bv bw ba N p _ (by first | exact HVr.out | exact HVr.out.drewN _)).mono ?_); rintro e w' ⟨rfl, k1, rfl⟩)
              | (go_at_call 18; (with_reducible refine (HS1.out _ (by first | exact HR2.out | exact HR2.out.drewN _)).mono ?_); rintro e w' ⟨rfl, rfl⟩)
              | (go_at_call 18; (with_reducible refine (HS2.out _ (by first | exact HR3.out | exact HR3.out.drewN _)).mono ?_); rintro e w' ⟨rfl, rfl⟩)
              | fail)
            refine (ones_row _ bv bw ba N p _ (by omega) (by omega) (HVr.out.drewN _)).mono ?_
            rintro e w5 ⟨a5, m5, cap5, rfl, hm5, hr5, hb5, _⟩
            obtain rfl : m5 = c1 := by rw [hm5, List.take_of_length_le (by have := HLen.out; omega), HLen.out]
            have HR5 := Lib.hid hr5
            have HB5 := Lib.hid hb5
            clear hm5 hr5 hb5
            go_wp2_with fail
            refine (same_yes _ a5 a2 m5 _ _ _ (by omega) HR5.out ((HR2.out.drewN _).kept HB5.out)).mono ?_
            rintro e w' ⟨rfl, k6, rfl⟩
            go_wp2_with fail
            refine (ones_row _ bv bw ba N p _ (by omega) (by omega) (((HVr.out.drewN _).kept HB5.out).drewN _)).mono ?_
            rintro e w6 ⟨a6, m6, cap6, rfl, hm6, _, hb6, _⟩
            have hm7 : m6 = min 5 m5 := by rw [hm6, List.length_take, HLen.out]; rfl
            have HB6 := Lib.hid hb6
            clear hm6 hb6
            have h4 := below_next HB3.out HB.out HB3.out.size
            have h5 := below_next (below_drewN h4 _) HB5.out h4.size
            have h6 := below_next (below_drewN h5 _) HB6.out h5.size
            have H6 := Lib.hid h6
            clear h4 h5 h6
            by_cases h5 : (m5 : Int) < 5
            · have hm8 : ((m6 : Int) == (m5 : Int)) = true := by rw [beq_iff_eq]; omega
              clear hm7
              go_wp2_with (go_at_call 14; refine (awake_any _).mono ?_; rintro e w7 ⟨rfl, hb7⟩)
              go_ret
              exact ⟨rfl, below_next H6.out hb7 H6.out.size⟩
            · have hm8 : ((m6 : Int) == 5) = true := by rw [beq_iff_eq]; omega
              clear hm7
              by_cases h7 : (5 : Int) < (m5 : Int)
              · go_wp2_with (go_at_call 14; refine (awake_any _).mono ?_; rintro e w7 ⟨rfl, hb7⟩)
                go_ret
                exact ⟨rfl, below_next H6.out hb7 H6.out.size⟩
              · have h9 : ((m5 : Int)) = 5 := by omega
                go_wp2_with (go_at_call 14; refine (awake_any _).mono ?_; rintro e w7 ⟨rfl, hb7⟩)
                go_ret
                exact ⟨rfl, below_next H6.out hb7 H6.out.size⟩
end Go.Proofs.Ytamonbpgjhhdhaa
