/-
  The contracts of package wave, of what only reads.
-/
import Derived.Test.YtfeoiabegcmfbaaBitsWalk
import Derived.Test.YtfeoiabegcmfbaaWaveMath
namespace Go.Proofs.Ytfeoiabegcmfbaa
open Go.RowKit

/-- a quiet callee behind quiet draws -/
theorem quiet_add_ex {P : Program} {f : FuncId} {args : Array Value} {w : World} {a n : Nat} {v : Value}
    (h : Calls P f args (w.drewN (a + n)) fun e w' => e = .returned v ∧ ∃ m, w' = (w.drewN (a + n)).drewN m) :
    Calls P f args (w.drewN (a + n)) fun e w'' => e = .returned v ∧ ∃ m, w'' = w.drewN (a + m) :=
  h.mono fun _ _ ⟨he, m, hm⟩ => ⟨he, n + m, by rw [hm, World.drewN_drewN, Nat.add_assoc]⟩

theorem and_one (x : Int) : bits .and .i64 x 1 = x % 2 := by
  have h := i64_mask x 1 (by omega)
  simpa using h

theorem bit_any (c k : Int) (w : World) (hc : 0 ≤ c) (h0 : 0 ≤ k) (h9 : k < 9) :
    Calls Try.prog 20 #[.int .i64 c, .int .i64 k] w fun e w' => e = .returned (.bool (bitk c.toNat k.toNat)) ∧ w = w' := by
  obtain ⟨c, rfl⟩ := Int.eq_ofNat_of_zero_le hc
  obtain ⟨k, rfl⟩ := Int.eq_ofNat_of_zero_le h0
  obtain ⟨q, hq⟩ : ∃ q : Nat, q = 8 - k := ⟨_, rfl⟩
  have e1 : (8 : Int) - (k : Int) = (q : Int) := by omega
  have e2 : (c : Int) / 2 ^ q = ((c / 2 ^ q : Nat) : Int) := by simp
  have hb : bitk c k = (((c / 2 ^ q : Nat) : Int) % 2 == 1) := by
    unfold bitk
    rw [← hq, Bool.eq_iff_iff]; simp; omega
  have hql : q ≤ 8 := by omega
  rw [Int.toNat_natCast, Int.toNat_natCast, hb]
  clear hb hq
  generalize c / 2 ^ q = y at *
  have e3 := and_one (y : Int)
  go_enter Try.func20, Try.ntmps20
  go_wp2
  go_ret
  exact ⟨rfl, rfl⟩

/-- symbols in memory: the row, a level's bits each, and how many of these are not set -/
structure MatAt (w : World) (bm : Nat) (al : Option Addr) (cap : Nat) (bv bw ba : Nat → Nat) (l : List Nat) : Prop where
  cl : w.cell? ⟨bm, 0, none⟩ = some (.slice al l.length cap)
  rl : Row w al l.length (fun j => .int .u16 ((l.getD j 0 : Nat) : Int))
  cv : ∀ k, k < 9 → w.cell? ⟨bm, 1 + k, none⟩ = some (.pointer (some ⟨bv k, 0, none⟩))
  cz : ∀ k, k < 9 → w.cell? ⟨bm, 10 + k, none⟩ = some (.int .i64 (zk l k))
  vv : ∀ k, k < 9 → VecAt w (bv k) (bw k) (ba k) l.length (pk l k)
  sy : ∀ x ∈ l, x ≤ 256
  small : l.length ≤ 100000

theorem MatAt.drewN {w : World} {bm : Nat} {al : Option Addr} {cap : Nat} {bv bw ba : Nat → Nat} {l : List Nat} (h : MatAt w bm al cap bv bw ba l) (k : Nat) : MatAt (w.drewN k) bm al cap bv bw ba l :=
  ⟨h.cl, h.rl.drewN k, h.cv, h.cz, fun j hj => (h.vv j hj).drewN k, h.sy, h.small⟩
theorem MatAt.kept {w w' : World} {bm : Nat} {al : Option Addr} {cap : Nat} {bv bw ba : Nat → Nat} {l : List Nat} (h : MatAt w bm al cap bv bw ba l) (hb : Below w.heap.size w w') : MatAt w' bm al cap bv bw ba l := by
  have lm : bm < w.heap.size := World.block_lt_of_cell? w _ h.cl
  exact ⟨(hb.cell (p := ⟨bm, 0, none⟩) lm).trans h.cl, h.rl.kept hb, fun k hk => (hb.cell (p := ⟨bm, 1 + k, none⟩) lm).trans (h.cv k hk), fun k hk => (hb.cell (p := ⟨bm, 10 + k, none⟩) lm).trans (h.cz k hk), fun k hk => (h.vv k hk).kept hb, h.sy, h.small⟩
theorem MatAt.sy5 {w : World} {bm : Nat} {al : Option Addr} {cap : Nat} {bv bw ba : Nat → Nat} {l : List Nat} (h : MatAt w bm al cap bv bw ba l) : ∀ x ∈ l, x < 512 := fun x hx => by have := h.sy x hx; omega

theorem zk_le (l : List Nat) (k : Nat) : zk l k ≤ l.length := by
  unfold zk; rw [← rows_length l k]; exact List.length_filter_le _ _

set_option maxHeartbeats 400000 in
theorem down_any (w : World) (bm : Nat) (al : Option Addr) (cap : Nat) (bv bw ba : Nat → Nat) (l : List Nat) (k : Nat) (lo hi : Int) (b : Bool) (h : MatAt w bm al cap bv bw ba l) (hk : k < 9) :
    Calls Try.prog 22 #[.pointer (some ⟨bm, 0, none⟩), .int .i64 (k : Int), .int .i64 lo, .int .i64 hi, .bool b] w fun e w' => e = .returned (.tuple #[.int .i64 (down l k lo.toNat b), .int .i64 (down l k hi.toNat b)]) ∧ ∃ j, w' = w.drewN j := by
  have cv := h.cv k hk
  have cz := h.cz k hk
  have hv := h.vv k hk
  have hs := h.small
  have hz := zk_le l k
  have HR := fun W (hW : VecAt W (bv k) (bw k) (ba k) l.length (pk l k)) (i : Int) => Lib.hid (rank_any W (bv k) (bw k) (ba k) l.length (pk l k) i hW)
  have HZ := fun W (hW : VecAt W (bv k) (bw k) (ba k) l.length (pk l k)) (i : Int) => Lib.hid (zeros_any W (bv k) (bw k) (ba k) l.length (pk l k) i hW)
  have HV := Lib.hid hv
  have hcl : cnt (pk l k) lo.toNat ≤ l.length := by rw [← cnt_min _ _ (pk_past l k)]; exact Nat.le_trans (cnt_le _ _) (Nat.min_le_right _ _)
  have hch : cnt (pk l k) hi.toNat ≤ l.length := by rw [← cnt_min _ _ (pk_past l k)]; exact Nat.le_trans (cnt_le _ _) (Nat.min_le_right _ _)
  clear h hv
  have hk' : (k : Int) < 9 := by omega
  cases b with
  | true =>
    have e1 : down l k lo.toNat true = zk l k + cnt (pk l k) lo.toNat := by simp [down]
    have e2 : down l k hi.toNat true = zk l k + cnt (pk l k) hi.toNat := by simp [down]
    rw [e1, e2]
    have q1 : IntKind.i64.wrap (((zk l k : Nat) : Int) + ((cnt (pk l k) lo.toNat : Nat) : Int)) = ((zk l k + cnt (pk l k) lo.toNat : Nat) : Int) := by rw [IntWalk.i64_in _ (by omega)]; omega
    have q2 : IntKind.i64.wrap (((zk l k : Nat) : Int) + ((cnt (pk l k) hi.toNat : Nat) : Int)) = ((zk l k + cnt (pk l k) hi.toNat : Nat) : Int) := by rw [IntWalk.i64_in _ (by omega)]; omega
    clear e1 e2 hcl hch hz
    go_enter Try.func22, Try.ntmps22
    go_wp2_with fail
    go_quiet ((go_at_call 30; exact Calls.quiet_of (HR _ (HV.out.drewN _) _).out))
    go_wp2
    go_ret2
    exact ⟨rfl, _, rfl⟩
  | false =>
    have e1 : down l k lo.toNat false = cnt (neg l.length (pk l k)) lo.toNat := by simp [down]
    have e2 : down l k hi.toNat false = cnt (neg l.length (pk l k)) hi.toNat := by simp [down]
    rw [e1, e2]
    clear e1 e2 hcl hch hz
    go_enter Try.func22, Try.ntmps22
    go_wp2_with (go_at_call 31; refine (HZ _ (by first | exact HV.out | exact HV.out.drewN _) _).out.mono ?_; rintro e w' ⟨rfl, k1, rfl⟩)
    go_ret2
    exact ⟨rfl, _, rfl⟩
set_option maxHeartbeats 400000 in
theorem within_any (w : World) (bm : Nat) (al : Option Addr) (cap n : Nat) (i : Int) (hc : w.cell? ⟨bm, 0, none⟩ = some (.slice al n cap)) :
    Calls Try.prog 25 #[.pointer (some ⟨bm, 0, none⟩), .int .i64 i] w fun e w' => e = .returned (.int .i64 ((min i.toNat n : Nat) : Int)) ∧ w' = w := by
  by_cases h0 : i < 0
  · have e : min i.toNat n = 0 := by omega
    have h1 : ¬ ((n : Int) < 0) := by omega
    rw [e]
    clear e
    go_enter Try.func25, Try.ntmps25
    go_wp2
    go_ret
    exact ⟨rfl, rfl⟩
  · obtain ⟨j, rfl⟩ := Int.eq_ofNat_of_zero_le (show 0 ≤ i by omega)
    rw [Int.toNat_natCast]
    by_cases h1 : (n : Int) < (j : Int)
    · have e : min j n = n := by omega
      rw [e]
      clear e
      go_enter Try.func25, Try.ntmps25
      go_wp2
      go_ret
      exact ⟨rfl, rfl⟩
    · have e : min j n = j := by omega
      rw [e]
      clear e
      go_enter Try.func25, Try.ntmps25
      go_wp2
      go_ret
      exact ⟨rfl, rfl⟩

set_option maxHeartbeats 400000 in
theorem wrank_any (w : World) (bm : Nat) (al : Option Addr) (cap : Nat) (bv bw ba : Nat → Nat) (l : List Nat) (c i : Int) (h : MatAt w bm al cap bv bw ba l) :
    Calls Try.prog 11 #[.pointer (some ⟨bm, 0, none⟩), .int .i64 c, .int .i64 i] w fun e w' => e = .returned (.int .i64 (rkI l c i)) ∧ ∃ j, w' = w.drewN j := by
  by_cases h0 : c < 0
  · have e : rkI l c i = 0 := by unfold rkI; rw [if_pos h0]
    rw [e]
    clear e h
    go_enter Try.func11, Try.ntmps11
    go_wp2
    go_ret
    exact ⟨rfl, 0, rfl⟩
  · obtain ⟨c, rfl⟩ := Int.eq_ofNat_of_zero_le (show 0 ≤ c by omega)
    have e : rkI l (c : Int) i = rk l c i.toNat := by unfold rkI; rw [if_neg h0]; rfl
    rw [e]
    clear e
    by_cases h1 : (256 : Int) < (c : Int)
    · rw [rk_out l h.sy c _ (by omega)]
      clear h
      go_enter Try.func11, Try.ntmps11
      go_wp2
      go_ret
      exact ⟨rfl, 0, rfl⟩
    · have hrd := rk_dn l h.sy5 c (by omega) (min i.toNat l.length) (Nat.min_le_right _ _)
      rw [rk_min] at hrd
      have hw := within_any w bm al cap l.length i h.cl
      have hdl := fun k hk => dn_le l h.sy5 c (by omega) k hk (min i.toNat l.length) (Nat.min_le_right _ _)
      have hd0 := fun k hk => dn_le l h.sy5 c (by omega) k hk 0 (Nat.zero_le _)
      have hs := h.small
      have hrl := rk_le l c i.toNat
      generalize min i.toNat l.length = I at *
      generalize rk l c i.toNat = R at *
      have HW := Lib.hid hw
      have HM := Lib.hid h
      have HRD := Lib.hid hrd
      have HDL := Lib.hid hdl
      have HD0 := Lib.hid hd0
      clear hw h hrd hdl hd0
      go_enter Try.func11, Try.ntmps11
      go_wp2_with (go_at_call 25; refine HW.out.mono ?_; rintro e w' ⟨rfl, rfl⟩)
      go_loopw [7, 8, 19] (fun lo hi kk wr => ∃ k : Nat, k ≤ 9 ∧ kk = .int .i64 k ∧ lo = .int .i64 (dn l c k 0) ∧ hi = .int .i64 (dn l c k I) ∧ ∃ j, wr = w'.drewN j) (fun _ _ kk _ => 9 - (intOf kk).toNat)
      case atStart => exact ⟨0, by omega, rfl, by rw [dn_zero]; rfl, by rw [dn_zero], 0, rfl⟩
      case round =>
        obtain ⟨k, hk, rfl, rfl, rfl, j, rfl⟩ := hrel
        by_cases hlt : (k : Int) < 9
        · have E0 := Lib.hid (dn_succ l c k 0)
          have E1 := Lib.hid (dn_succ l c k I)
          generalize dn l c k 0 = x at *
          generalize dn l c k I = y at *
          go_wp2_with (first
            | (go_at_call 20; refine (bit_any _ _ _ (by omega) (by omega) (by omega)).mono ?_; rintro e w2 ⟨rfl, rfl⟩)
            | (go_at_call 22; refine (down_any _ bm al cap bv bw ba l k _ _ _ (HM.out.drewN _) (by omega)).mono ?_; rintro e w2 ⟨rfl, k2, rfl⟩))
          go_roundw
          case rel => exact ⟨k + 1, by omega, by go_num, by rw [E0.out], by rw [E1.out], _, rfl⟩
          case measure => simp [intOf]; omega
        · have hk9 : k = 9 := by omega
          have hR := HRD.out
          rw [← hk9] at hR
          have hdI := HDL.out k hk
          have hd0 := HD0.out k hk
          have HR := Lib.hid hR
          clear hR hk9
          generalize dn l c k 0 = x at *
          generalize dn l c k I = y at *
          go_wp2
          go_ret
          exact ⟨ret_int (by have := HR.out; omega), _, rfl⟩
set_option maxHeartbeats 1000000 in
theorem less_any (w : World) (bm : Nat) (al : Option Addr) (cap : Nat) (bv bw ba : Nat → Nat) (l : List Nat) (c i : Int) (h : MatAt w bm al cap bv bw ba l) :
    Calls Try.prog 14 #[.pointer (some ⟨bm, 0, none⟩), .int .i64 c, .int .i64 i] w fun e w' => e = .returned (.int .i64 (lsI l c i)) ∧ ∃ j, w' = w.drewN j := by
  have hw := within_any w bm al cap l.length i h.cl
  by_cases h0 : c ≤ 0
  · have e : lsI l c i = 0 := by
      unfold lsI
      by_cases hc : c < 0
      · rw [if_pos hc]
      · rw [if_neg hc, show c.toNat = 0 by omega, ls_zero]
    rw [e]
    have HW := Lib.hid hw
    clear e h hw
    go_enter Try.func14, Try.ntmps14
    go_wp2_with (go_at_call 25; refine HW.out.mono ?_; rintro e w' ⟨rfl, rfl⟩)
    go_ret
    exact ⟨rfl, 0, rfl⟩
  · obtain ⟨c, rfl⟩ := Int.eq_ofNat_of_zero_le (show 0 ≤ c by omega)
    have e : lsI l (c : Int) i = ls l c i.toNat := by unfold lsI; rw [if_neg (by omega)]; rfl
    rw [e]
    clear e
    by_cases h1 : (256 : Int) < (c : Int)
    · rw [ls_all l h.sy c _ (by omega)]
      have HW := Lib.hid hw
      clear h hw
      go_enter Try.func14, Try.ntmps14
      go_wp2_with (go_at_call 25; refine HW.out.mono ?_; rintro e w' ⟨rfl, rfl⟩)
      go_ret
      exact ⟨rfl, 0, rfl⟩
    · have hdl := fun k hk => dn_le l h.sy5 c (by omega) k hk (min i.toNat l.length) (Nat.min_le_right _ _)
      have hd0 := fun k hk => dn_le l h.sy5 c (by omega) k hk 0 (Nat.zero_le _)
      have hl0 := lsTo_zero l h.sy5 c (by omega) (min i.toNat l.length)
      have hl9 := lsTo_nine l c (min i.toNat l.length)
      rw [ls_min] at hl9
      have hone := fun k hk hb => lsTo_one l h.sy5 c (by omega) k hk (min i.toNat l.length) (Nat.min_le_right _ _) hb
      have hno := fun k hk hb => lsTo_nought l c k hk (min i.toNat l.length) hb
      have hlb := fun k => lsTo_le l c k (min i.toNat l.length)
      have hs := h.small
      generalize min i.toNat l.length = I at *
      generalize ls l c i.toNat = R at *
      have hdb : ∀ k x, down l k x false ≤ l.length := fun k x => by
        unfold down
        simp only [Bool.false_eq_true, if_false]
        rw [← cnt_min _ _ (neg_past l.length (pk l k))]
        exact Nat.le_trans (cnt_le _ _) (Nat.min_le_right _ _)
      have HW := Lib.hid hw
      have HM := Lib.hid h
      have HDL := Lib.hid hdl
      have HD0 := Lib.hid hd0
      have HL0 := Lib.hid hl0
      have HL9 := Lib.hid hl9
      have HON := Lib.hid hone
      have HNO := Lib.hid hno
      have HLB := Lib.hid hlb
      have HDB := Lib.hid hdb
      clear hw h hdl hd0 hl0 hl9 hone hno hlb hdb
      have hz1 : decide (c = 0) = false := by simp; omega
      have hz2 : decide ((256 : Int) < (c : Int)) = false := by simp; omega
      go_enter Try.func14, Try.ntmps14
      go_wp2_with (go_at_call 25; refine HW.out.mono ?_; rintro e w' ⟨rfl, rfl⟩)
      go_loopw [7, 8, 9, 24] (fun lo hi nn kk wr => ∃ k : Nat, k ≤ 9 ∧ kk = .int .i64 k ∧ lo = .int .i64 (dn l c k 0) ∧ hi = .int .i64 (dn l c k I) ∧ nn = .int .i64 (lsTo l c k I) ∧ ∃ j, wr = w'.drewN j) (fun _ _ _ kk _ => 9 - (intOf kk).toNat)
      case atStart => exact ⟨0, by omega, rfl, by rw [dn_zero]; rfl, by rw [dn_zero], by rw [HL0.out]; rfl, 0, rfl⟩
      case round =>
        obtain ⟨k, hk, rfl, rfl, rfl, rfl, j, rfl⟩ := hrel
        by_cases hlt : (k : Int) < 9
        · have E0 := Lib.hid (dn_succ l c k 0)
          have E1 := Lib.hid (dn_succ l c k I)
          have hb1 := HLB.out k
          have hb2 := HLB.out (k + 1)
          cases hb : bitk c k
          · have HE := Lib.hid (HNO.out k (by omega) hb)
            rw [hb] at E0 E1
            generalize dn l c k 0 = x at *
            generalize dn l c k I = y at *
            go_wp2_with (first
              | (go_at_call 20; refine (bit_any _ _ _ (by omega) (by omega) (by omega)).mono ?_; rintro e w2 ⟨rfl, rfl⟩)
              | (go_at_call 22; refine (down_any _ bm al cap bv bw ba l k _ _ _ (HM.out.drewN _) (by omega)).mono ?_; rintro e w2 ⟨rfl, k2, rfl⟩))
            go_roundw
            case rel => exact ⟨k + 1, by omega, by go_num, by rw [E0.out], by rw [E1.out], by rw [HE.out], _, rfl⟩
            case measure => simp [intOf]; omega
          · have HE := Lib.hid (HON.out k (by omega) hb)
            rw [hb] at E0 E1
            have hq1 := HDB.out k (dn l c k 0)
            have hq2 := HDB.out k (dn l c k I)
            generalize dn l c k 0 = x at *
            generalize dn l c k I = y at *
            generalize hn1 : lsTo l c (k + 1) I = n1 at *
            have HN1 := Lib.hid hn1
            clear hn1
            generalize lsTo l c k I = n0 at *
            go_wp2_with (first
              | (go_at_call 20; refine (bit_any _ _ _ (by omega) (by omega) (by omega)).mono ?_; rintro e w2 ⟨rfl, rfl⟩)
              | (go_at_call 22; refine (down_any _ bm al cap bv bw ba l k _ _ _ (HM.out.drewN _) (by omega)).mono ?_; rintro e w2 ⟨rfl, k2, rfl⟩))
            go_roundw
            case rel => exact ⟨k + 1, by omega, by go_num, by rw [E0.out], by rw [E1.out], by rw [show ((n0 : Int) + (((down l k y false : Nat) : Int) - ((down l k x false : Nat) : Int))) = (n1 : Int) by have := HE.out; omega, HN1.out], _, rfl⟩
            case measure => simp [intOf]; omega
        · have hk9 : k = 9 := by omega
          have hR := HL9.out
          rw [← hk9] at hR
          have HR := Lib.hid hR
          clear hR hk9
          go_wp2
          go_ret
          exact ⟨ret_int (by rw [HR.out]), _, rfl⟩
theorem wcount_any (w : World) (bm : Nat) (al : Option Addr) (cap : Nat) (bv bw ba : Nat → Nat) (l : List Nat) (c : Int) (h : MatAt w bm al cap bv bw ba l) :
    Calls Try.prog 9 #[.pointer (some ⟨bm, 0, none⟩), .int .i64 c] w fun e w' => e = .returned (.int .i64 (rkI l c l.length)) ∧ ∃ j, w' = w.drewN j := by
  have hc := h.cl
  have HR := Lib.hid (wrank_any w bm al cap bv bw ba l c l.length h)
  clear h
  go_enter Try.func9, Try.ntmps9
  go_wp2_with (go_at_call 11; refine HR.out.mono ?_; rintro e w' ⟨rfl, k1, rfl⟩)
  go_ret
  exact ⟨rfl, _, rfl⟩

theorem wlen_any (w : World) (bm : Nat) (al : Option Addr) (cap n : Nat) (hc : w.cell? ⟨bm, 0, none⟩ = some (.slice al n cap)) :
    Calls Try.prog 15 #[.pointer (some ⟨bm, 0, none⟩)] w fun e w' => e = .returned (.int .i64 n) ∧ ∃ j, w' = w.drewN j := by
  go_enter Try.func15, Try.ntmps15
  go_wp2
  go_ret
  exact ⟨rfl, 0, rfl⟩

theorem size_u16 (w : World) : (sizeOf (Try.prog.elem 23)).run Try.prog w = .ok 1 w := by kernel_rfl

/-- the i-th symbol, or -1 -/
def wget (l : List Nat) (i : Int) : Int := if 0 ≤ i ∧ i < (l.length : Int) then ((l.getD i.toNat 0 : Nat) : Int) else -1

theorem getD_le (l : List Nat) (B : Nat) (h : ∀ x ∈ l, x ≤ B) (j : Nat) : l.getD j 0 ≤ B := by
  rw [List.getD_eq_getElem?_getD]
  rcases hq : l[j]? with _ | q
  · simp
  · exact h q (List.mem_of_getElem? hq)

set_option maxHeartbeats 400000 in
theorem wget_any (w : World) (bm : Nat) (al : Option Addr) (cap : Nat) (bv bw ba : Nat → Nat) (l : List Nat) (i : Int) (h : MatAt w bm al cap bv bw ba l) :
    Calls Try.prog 12 #[.pointer (some ⟨bm, 0, none⟩), .int .i64 i] w fun e w' => e = .returned (.int .i64 (wget l i)) ∧ ∃ j, w' = w.drewN j := by
  have hc := h.cl
  have hix := run_ix (P := Try.prog) 23 (by kernel_rfl) size_u16 al l.length cap h.rl.at_ .i64
  have hs := h.small
  by_cases h0 : i < 0
  · have e : wget l i = -1 := by unfold wget; rw [if_neg (by omega)]
    rw [e]
    clear e h
    go_enter Try.func12, Try.ntmps12
    go_wp2
    go_ret
    exact ⟨rfl, 0, rfl⟩
  · obtain ⟨j, rfl⟩ := Int.eq_ofNat_of_zero_le (show 0 ≤ i by omega)
    by_cases h1 : (l.length : Int) ≤ (j : Int)
    · have e : wget l j = -1 := by unfold wget; rw [if_neg (by omega)]
      rw [e]
      clear e h
      go_enter Try.func12, Try.ntmps12
      go_wp2
      go_ret
      exact ⟨rfl, 0, rfl⟩
    · have e : wget l j = ((l.getD j 0 : Nat) : Int) := by unfold wget; rw [if_pos (by omega)]; rfl
      rw [e]
      have hlt : j < l.length := by omega
      have d := h.rl.cell j hlt
      have hb := getD_le l 256 h.sy j
      clear e h
      generalize l.getD j 0 = x at *
      generalize l.length = n at *
      have e1 : IntKind.i64.wrap (x : Int) = (x : Int) := IntWalk.i64_in _ (by omega)
      go_enter Try.func12, Try.ntmps12
      go_wp2
      go_ret
      exact ⟨rfl, 0, rfl⟩

set_option maxRecDepth 100000 in
set_option maxHeartbeats 1000000 in
theorem wselect_any (w : World) (bm : Nat) (al : Option Addr) (cap : Nat) (bv bw ba : Nat → Nat) (l : List Nat) (c k : Int) (h : MatAt w bm al cap bv bw ba l) :
    Calls Try.prog 10 #[.pointer (some ⟨bm, 0, none⟩), .int .i64 c, .int .i64 k] w fun e w' => e = .returned (.int .i64 (wsel l c k)) ∧ ∃ j, w' = w.drewN j := by
  have HC := Lib.hid (wcount_any w bm al cap bv bw ba l c h)
  by_cases h0 : k < 0
  · rw [wsel_none l c k (.inl h0)]
    clear h HC
    go_enter Try.func10, Try.ntmps10
    go_wp2
    go_ret
    exact ⟨rfl, 0, rfl⟩
  · by_cases h1 : (rkI l c l.length : Int) ≤ k
    · rw [wsel_none l c k (.inr h1)]
      clear h
      go_enter Try.func10, Try.ntmps10
      go_wp2_with (go_at_call 9; refine HC.out.mono ?_; rintro e w' ⟨rfl, k1, rfl⟩)
      go_ret
      exact ⟨rfl, _, rfl⟩
    · have hc0 : 0 ≤ c := by
        rcases Int.lt_or_le c 0 with hc | hc
        · exfalso
          have : rkI l c l.length = 0 := by unfold rkI; rw [if_pos hc]
          omega
        · exact hc
      obtain ⟨c, rfl⟩ := Int.eq_ofNat_of_zero_le hc0
      obtain ⟨j, hj, hlj, hrk, hws⟩ := wsel_is l c k (by omega) (by omega)
      have hcm : c ∈ l := by rw [← hlj, List.getD_eq_getElem?_getD, List.getElem?_eq_getElem hj]; exact List.getElem_mem hj
      have hc2 := h.sy c hcm
      have hdl := fun t ht => dn_le l h.sy5 c (by omega) t ht j (by omega)
      have hd0 := fun t ht => dn_le l h.sy5 c (by omega) t ht 0 (Nat.zero_le _)
      have h9 := rk_dn l h.sy5 c (by omega) j (by omega)
      have hup1 := fun t ht hb => up_true l h.sy5 j hj t ht hb
      have hup0 := fun t ht hb => up_false l h.sy5 j hj t ht hb
      rw [hlj] at hup1 hup0
      have hs := h.small
      have hrl := rk_le l c j
      rw [hws]
      generalize rkI l (c : Int) l.length = R at *
      have hd : decide ((R : Int) ≤ k) = false := by simp; omega
      have HM := Lib.hid h
      have HDL := Lib.hid hdl
      have HD0 := Lib.hid hd0
      have H9 := Lib.hid h9
      have HRK := Lib.hid hrk
      have HU1 := Lib.hid hup1
      have HU0 := Lib.hid hup0
      clear h hdl hd0 h9 hrk hup1 hup0 hws hlj hcm
      go_enter Try.func10, Try.ntmps10
      go_wp2_with (go_at_call 9; refine HC.out.mono ?_; rintro e w' ⟨rfl, k1, rfl⟩)
      go_loopw [7, 19] (fun at_ kk wr => ∃ t : Nat, t ≤ 9 ∧ kk = .int .i64 t ∧ at_ = .int .i64 (dn l c t 0) ∧ ∃ q, wr = w.drewN q) (fun _ kk _ => 9 - (intOf kk).toNat)
      case atStart => exact ⟨0, by omega, rfl, by rw [dn_zero]; rfl, _, rfl⟩
      case round =>
        obtain ⟨t, ht, rfl, rfl, q, rfl⟩ := hrel
        by_cases hlt : (t : Int) < 9
        · have E0 := Lib.hid (dn_succ l c t 0)
          generalize dn l c t 0 = x at *
          go_wp2_with (first
            | (go_at_call 20; refine (bit_any _ _ _ (by omega) (by omega) (by omega)).mono ?_; rintro e w2 ⟨rfl, rfl⟩)
            | (go_at_call 22; refine (down_any _ bm al cap bv bw ba l t _ _ _ (HM.out.drewN _) (by omega)).mono ?_; rintro e w2 ⟨rfl, k2, rfl⟩))
          go_roundw
          case rel => exact ⟨t + 1, by omega, by go_num, by rw [E0.out], _, rfl⟩
          case measure => simp [intOf]; omega
        · have ht9 : t = 9 := by omega
          have hx : ((dn l c t 0 : Nat) : Int) + k = ((dn l c 9 j : Nat) : Int) := by have h1 := H9.out; have h2 := HRK.out; rw [ht9]; omega
          have hb0 := HD0.out t ht
          have hb9 := HDL.out 9 (by omega)
          have hkl : k ≤ 100000 := by have h2 := HRK.out; omega
          generalize dn l c t 0 = x at *
          have HX := Lib.hid hx
          clear hx ht9
          go_wp2_with fail
          go_loopw [7, 9] (fun at_ kk wr => ∃ (t : Nat) (i : Int), t ≤ 9 ∧ i = (t : Int) - 1 ∧ kk = .int .i64 i ∧ at_ = .int .i64 (dn l c t j) ∧ ∃ q, wr = w.drewN q) (fun _ kk _ => (intOf kk + 1).toNat)
          case atStart => exact ⟨9, 8, by omega, by omega, rfl, by rw [← HX.out], _, rfl⟩
          case round =>
            obtain ⟨t2, i, ht2, hi2, rfl, rfl, q2, rfl⟩ := hrel
            by_cases hge : 0 ≤ i
            · obtain ⟨s, rfl⟩ := Int.eq_ofNat_of_zero_le hge
              obtain rfl : t2 = s + 1 := by omega
              clear hi2
              have cv := HM.out.cv s (by omega)
              have cz := HM.out.cz s (by omega)
              have HV := Lib.hid (HM.out.vv s (by omega))
              have hzl := zk_le l s
              have hdls := HDL.out (s + 1) (by omega)
              have hs9 : (s : Int) < 9 := by omega
              cases hb : bitk c s
              · obtain ⟨u1, u2⟩ := HU0.out s (by omega) hb
                have U1 := Lib.hid u1
                generalize dn l c (s + 1) j = y at *
                clear u1 u2
                go_wp2_with (first
                  | (go_at_call 20; refine (bit_any _ _ _ (by omega) (by omega) (by omega)).mono ?_; rintro e w2 ⟨rfl, rfl⟩)
                  | (go_at_call 24; refine (select0_any _ (bv s) (bw s) (ba s) l.length (pk l s) _ (HV.out.drewN _)).mono ?_; rintro e w2 ⟨rfl, k2, rfl⟩))
                go_roundw
                case rel => exact ⟨s, (s : Int) - 1, by omega, rfl, rfl, by rw [U1.out], _, rfl⟩
                case measure => simp [intOf] <;> omega
              · obtain ⟨u1, u2⟩ := HU1.out s (by omega) hb
                have U1 := Lib.hid u1
                generalize dn l c (s + 1) j = y at *
                have e1 : IntKind.i64.wrap ((y : Int) - (zk l s : Int)) = (y : Int) - (zk l s : Int) := IntWalk.i64_in _ (by omega)
                clear u1 u2
                go_wp2_with (go_at_call 20; refine (bit_any _ _ _ (by omega) (by omega) (by omega)).mono ?_; rintro e w2 ⟨rfl, rfl⟩)
                go_quiet ((go_at_call 23; exact quiet_add_ex (select_any _ (bv s) (bw s) (ba s) l.length (pk l s) _ (HV.out.drewN _))))
                go_wp2
                go_roundw
                case rel => exact ⟨s, (s : Int) - 1, by omega, rfl, rfl, by rw [U1.out], _, rfl⟩
                case measure => simp [intOf] <;> omega
            · have ht0 : t2 = 0 := by omega
              have hz : dn l c t2 j = j := by rw [ht0, dn_zero]
              have HZ := Lib.hid hz
              clear hi2 hz ht0
              go_wp2
              go_ret
              exact ⟨ret_int (by rw [HZ.out]), _, rfl⟩
end Go.Proofs.Ytfeoiabegcmfbaa
