/-
  The contracts of package wave, of what only reads.
-/
import Derived.Test.YtjpoebmjfedecaaGreatBitsWalk
import Derived.Test.YtjpoebmjfedecaaGreatPureFmOf
namespace Go.Proofs.YtjpoebmjfedecaaGreat.Wv
open Go.RowKit

/-- a quiet callee behind quiet draws -/
theorem quiet_add_ex {P : Program} {f : FuncId} {args : Array Value} {w : World} {a n : Nat} {v : Value}
    (h : Calls P f args (w.drewN (a + n)) fun e w' => e = .returned v ∧ ∃ m, w' = (w.drewN (a + n)).drewN m) :
    Calls P f args (w.drewN (a + n)) fun e w'' => e = .returned v ∧ ∃ m, w'' = w.drewN (a + m) :=
  h.mono fun _ _ ⟨he, m, hm⟩ => ⟨he, n + m, by rw [hm, World.drewN_drewN, Nat.add_assoc]⟩

theorem and_one (x : Int) : bits .and .i64 x 1 = x % 2 := by
  have h := i64_mask x 1 (by omega)
  simpa using h

theorem bit_any (c k : Int) (w : World) (hc : 0 ≤ c) (h0 : 0 ≤ k) (h9 : k < 9) :
    Calls Tryz.prog 71 #[.int .i64 c, .int .i64 k] w fun e w' => e = .returned (.bool (bitk c.toNat k.toNat)) ∧ w = w' := by
  obtain ⟨c, rfl⟩ := Int.eq_ofNat_of_zero_le hc
  obtain ⟨k, rfl⟩ := Int.eq_ofNat_of_zero_le h0
  obtain ⟨q, hq⟩ : ∃ q : Nat, q = 8 - k := ⟨_, rfl⟩
  have e1 : (8 : Int) - (k : Int) = (q : Int) := by omega
  have e2 : (c : Int) / 2 ^ q = ((c / 2 ^ q : Nat) : Int) := by simp
  have hb : bitk c k = (((c / 2 ^ q : Nat) : Int) % 2 == 1) := by
    unfold bitk
    rw [← hq, Bool.eq_iff_iff]; simp; omega
  have hql : q ≤ 8 := by omega
  rw [Int.toNat_natCast, Int.toNat_natCast, hb]
  clear hb hq
  generalize c / 2 ^ q = y at *
  have e3 := and_one (y : Int)
  go_enter Tryz.func71, Tryz.ntmps71
  go_wp2
  go_ret
  exact ⟨rfl, rfl⟩

/-- symbols in memory: the row, a level's bits each, and how many of these are not set -/
structure MatAt (w : World) (bm : Nat) (al : Option Addr) (cap : Nat) (bv bw ba : Nat → Nat) (l : List Nat) : Prop where
  cl : w.cell? ⟨bm, 0, none⟩ = some (.slice al l.length cap)
  rl : Row w al l.length (fun j => .int .u16 ((l.getD j 0 : Nat) : Int))
  cv : ∀ k, k < 9 → w.cell? ⟨bm, 1 + k, none⟩ = some (.pointer (some ⟨bv k, 0, none⟩))
  cz : ∀ k, k < 9 → w.cell? ⟨bm, 10 + k, none⟩ = some (.int .i64 (zk l k))
  vv : ∀ k, k < 9 → VecAt w (bv k) (bw k) (ba k) l.length (pk l k)
  sy : ∀ x ∈ l, x ≤ 256
  small : l.length ≤ 100000

theorem MatAt.drewN {w : World} {bm : Nat} {al : Option Addr} {cap : Nat} {bv bw ba : Nat → Nat} {l : List Nat} (h : MatAt w bm al cap bv bw ba l) (k : Nat) : MatAt (w.drewN k) bm al cap bv bw ba l :=
  ⟨h.cl, h.rl.drewN k, h.cv, h.cz, fun j hj => (h.vv j hj).drewN k, h.sy, h.small⟩
theorem MatAt.kept {w w' : World} {bm : Nat} {al : Option Addr} {cap : Nat} {bv bw ba : Nat → Nat} {l : List Nat} (h : MatAt w bm al cap bv bw ba l) (hb : Below w.heap.size w w') : MatAt w' bm al cap bv bw ba l := by
  have lm : bm < w.heap.size := World.block_lt_of_cell? w _ h.cl
  exact ⟨(hb.cell (p := ⟨bm, 0, none⟩) lm).trans h.cl, h.rl.kept hb, fun k hk => (hb.cell (p := ⟨bm, 1 + k, none⟩) lm).trans (h.cv k hk), fun k hk => (hb.cell (p := ⟨bm, 10 + k, none⟩) lm).trans (h.cz k hk), fun k hk => (h.vv k hk).kept hb, h.sy, h.small⟩
theorem MatAt.sy5 {w : World} {bm : Nat} {al : Option Addr} {cap : Nat} {bv bw ba : Nat → Nat} {l : List Nat} (h : MatAt w bm al cap bv bw ba l) : ∀ x ∈ l, x < 512 := fun x hx => by have := h.sy x hx; omega

theorem zk_le (l : List Nat) (k : Nat) : zk l k ≤ l.length := by
  unfold zk; rw [← rows_length l k]; exact List.length_filter_le _ _

set_option maxRecDepth 100000 in
set_option maxHeartbeats 400000 in
theorem down_any (w : World) (bm : Nat) (al : Option Addr) (cap : Nat) (bv bw ba : Nat → Nat) (l : List Nat) (k : Nat) (lo hi : Int) (b : Bool) (h : MatAt w bm al cap bv bw ba l) (hk : k < 9) :
    Calls Tryz.prog 86 #[.pointer (some ⟨bm, 0, none⟩), .int .i64 (k : Int), .int .i64 lo, .int .i64 hi, .bool b] w fun e w' => e = .returned (.tuple #[.int .i64 (down l k lo.toNat b), .int .i64 (down l k hi.toNat b)]) ∧ ∃ j, w' = w.drewN j := by
  have cv := h.cv k hk
  have cz := h.cz k hk
  have hv := h.vv k hk
  have hs := h.small
  have hz := zk_le l k
  have HR := fun W (hW : VecAt W (bv k) (bw k) (ba k) l.length (pk l k)) (i : Int) => Lib.hid (rank_any W (bv k) (bw k) (ba k) l.length (pk l k) i hW)
  have HZ := fun W (hW : VecAt W (bv k) (bw k) (ba k) l.length (pk l k)) (i : Int) => Lib.hid (zeros_any W (bv k) (bw k) (ba k) l.length (pk l k) i hW)
  have HV := Lib.hid hv
  have hcl : cnt (pk l k) lo.toNat ≤ l.length := by rw [← cnt_min _ _ (pk_past l k)]; exact Nat.le_trans (cnt_le _ _) (Nat.min_le_right _ _)
  have hch : cnt (pk l k) hi.toNat ≤ l.length := by rw [← cnt_min _ _ (pk_past l k)]; exact Nat.le_trans (cnt_le _ _) (Nat.min_le_right _ _)
  clear h hv
  have hk' : (k : Int) < 9 := by omega
  cases b with
  | true =>
    have e1 : down l k lo.toNat true = zk l k + cnt (pk l k) lo.toNat := by simp [down]
    have e2 : down l k hi.toNat true = zk l k + cnt (pk l k) hi.toNat := by simp [down]
    rw [e1, e2]
    have q1 : IntKind.i64.wrap (((zk l k : Nat) : Int) + ((cnt (pk l k) lo.toNat : Nat) : Int)) = ((zk l k + cnt (pk l k) lo.toNat : Nat) : Int) := by rw [IntWalk.i64_in _ (by omega)]; omega
    have q2 : IntKind.i64.wrap (((zk l k : Nat) : Int) + ((cnt (pk l k) hi.toNat : Nat) : Int)) = ((zk l k + cnt (pk l k) hi.toNat : Nat) : Int) := by rw [IntWalk.i64_in _ (by omega)]; omega
    clear e1 e2 hcl hch hz
    go_enter Tryz.func86, Tryz.ntmps86
    go_wp2_with fail
    go_quiet ((go_at_call 98; exact Calls.quiet_of (HR _ (HV.out.drewN _) _).out))
    go_wp2
    go_ret2
    exact ⟨rfl, _, rfl⟩
  | false =>
    have e1 : down l k lo.toNat false = cnt (neg l.length (pk l k)) lo.toNat := by simp [down]
    have e2 : down l k hi.toNat false = cnt (neg l.length (pk l k)) hi.toNat := by simp [down]
    rw [e1, e2]
    clear e1 e2 hcl hch hz
    go_enter Tryz.func86, Tryz.ntmps86
    go_wp2_with (go_at_call 99; refine (HZ _ (by first | exact HV.out | exact HV.out.drewN _) _).out.mono ?_; rintro e w' ⟨rfl, k1, rfl⟩)
    go_ret2
    exact ⟨rfl, _, rfl⟩
set_option maxRecDepth 100000 in
set_option maxHeartbeats 400000 in
theorem within_any (w : World) (bm : Nat) (al : Option Addr) (cap n : Nat) (i : Int) (hc : w.cell? ⟨bm, 0, none⟩ = some (.slice al n cap)) :
    Calls Tryz.prog 85 #[.pointer (some ⟨bm, 0, none⟩), .int .i64 i] w fun e w' => e = .returned (.int .i64 ((min i.toNat n : Nat) : Int)) ∧ w' = w := by
  by_cases h0 : i < 0
  · have e : min i.toNat n = 0 := by omega
    have h1 : ¬ ((n : Int) < 0) := by omega
    rw [e]
    clear e
    go_enter Tryz.func85, Tryz.ntmps85
    go_wp2
    go_ret
    exact ⟨rfl, rfl⟩
  · obtain ⟨j, rfl⟩ := Int.eq_ofNat_of_zero_le (show 0 ≤ i by omega)
    rw [Int.toNat_natCast]
    by_cases h1 : (n : Int) < (j : Int)
    · have e : min j n = n := by omega
      rw [e]
      clear e
      go_enter Tryz.func85, Tryz.ntmps85
      go_wp2
      go_ret
      exact ⟨rfl, rfl⟩
    · have e : min j n = j := by omega
      rw [e]
      clear e
      go_enter Tryz.func85, Tryz.ntmps85
      go_wp2
      go_ret
      exact ⟨rfl, rfl⟩

set_option maxRecDepth 100000 in
set_option maxHeartbeats 400000 in
theorem wrank_any (w : World) (bm : Nat) (al : Option Addr) (cap : Nat) (bv bw ba : Nat → Nat) (l : List Nat) (c i : Int) (h : MatAt w bm al cap bv bw ba l) :
    Calls Tryz.prog 77 #[.pointer (some ⟨bm, 0, none⟩), .int .i64 c, .int .i64 i] w fun e w' => e = .returned (.int .i64 (rkI l c i)) ∧ ∃ j, w' = w.drewN j := by
  by_cases h0 : c < 0
  · have e : rkI l c i = 0 := by unfold rkI; rw [if_pos h0]
    rw [e]
    clear e h
    go_enter Tryz.func77, Tryz.ntmps77
    go_wp2
    go_ret
    exact ⟨rfl, 0, rfl⟩
  · obtain ⟨c, rfl⟩ := Int.eq_ofNat_of_zero_le (show 0 ≤ c by omega)
    have e : rkI l (c : Int) i = rk l c i.toNat := by unfold rkI; rw [if_neg h0]; rfl
    rw [e]
    clear e
    by_cases h1 : (256 : Int) < (c : Int)
    · rw [rk_out l h.sy c _ (by omega)]
      clear h
      go_enter Tryz.func77, Tryz.ntmps77
      go_wp2
      go_ret
      exact ⟨rfl, 0, rfl⟩
    · have hrd := rk_dn l h.sy5 c (by omega) (min i.toNat l.length) (Nat.min_le_right _ _)
      rw [rk_min] at hrd
      have hw := within_any w bm al cap l.length i h.cl
      have hdl := fun k hk => dn_le l h.sy5 c (by omega) k hk (min i.toNat l.length) (Nat.min_le_right _ _)
      have hd0 := fun k hk => dn_le l h.sy5 c (by omega) k hk 0 (Nat.zero_le _)
      have hs := h.small
      have hrl := rk_le l c i.toNat
      generalize min i.toNat l.length = I at *
      generalize rk l c i.toNat = R at *
      have HW := Lib.hid hw
      have HM := Lib.hid h
      have HRD := Lib.hid hrd
      have HDL := Lib.hid hdl
      have HD0 := Lib.hid hd0
      clear hw h hrd hdl hd0
      go_enter Tryz.func77, Tryz.ntmps77
      go_wp2_with (go_at_call 85; refine HW.out.mono ?_; rintro e w' ⟨rfl, rfl⟩)
      go_loopw [7, 8, 19] (fun lo hi kk wr => ∃ k : Nat, k ≤ 9 ∧ kk = .int .i64 k ∧ lo = .int .i64 (dn l c k 0) ∧ hi = .int .i64 (dn l c k I) ∧ ∃ j, wr = w'.drewN j) (fun _ _ kk _ => 9 - (intOf kk).toNat)
      case atStart => exact ⟨0, by omega, rfl, by rw [dn_zero]; rfl, by rw [dn_zero], 0, rfl⟩
      case round =>
        obtain ⟨k, hk, rfl, rfl, rfl, j, rfl⟩ := hrel
        by_cases hlt : (k : Int) < 9
        · have E0 := Lib.hid (dn_succ l c k 0)
          have E1 := Lib.hid (dn_succ l c k I)
          generalize dn l c k 0 = x at *
          generalize dn l c k I = y at *
          go_wp2_with (first
            | (go_at_call 71; refine (bit_any _ _ _ (by omega) (by omega) (by omega)).mono ?_; rintro e w2 ⟨rfl, rfl⟩)
            | (go_at_call 86; refine (down_any _ bm al cap bv bw ba l k _ _ _ (HM.out.drewN _) (by omega)).mono ?_; rintro e w2 ⟨rfl, k2, rfl⟩))
          go_roundw
          case rel => exact ⟨k + 1, by omega, by go_num, by rw [E0.out], by rw [E1.out], _, rfl⟩
          case measure => simp [intOf]; omega
        · have hk9 : k = 9 := by omega
          have hR := HRD.out
          rw [← hk9] at hR
          have hdI := HDL.out k hk
          have hd0 := HD0.out k hk
          have HR := Lib.hid hR
          clear hR hk9
          generalize dn l c k 0 = x at *
          generalize dn l c k I = y at *
          go_wp2
          go_ret
          exact ⟨ret_int (by have := HR.out; omega), _, rfl⟩
theorem size_u16 (w : World) : (sizeOf (Tryz.prog.elem 22)).run Tryz.prog w = .ok 1 w := by kernel_rfl

/-- the i-th symbol, or -1 -/
def wget (l : List Nat) (i : Int) : Int := if 0 ≤ i ∧ i < (l.length : Int) then ((l.getD i.toNat 0 : Nat) : Int) else -1

theorem getD_le (l : List Nat) (B : Nat) (h : ∀ x ∈ l, x ≤ B) (j : Nat) : l.getD j 0 ≤ B := by
  rw [List.getD_eq_getElem?_getD]
  rcases hq : l[j]? with _ | q
  · simp
  · exact h q (List.mem_of_getElem? hq)

set_option maxRecDepth 100000 in
set_option maxHeartbeats 400000 in
theorem wget_any (w : World) (bm : Nat) (al : Option Addr) (cap : Nat) (bv bw ba : Nat → Nat) (l : List Nat) (i : Int) (h : MatAt w bm al cap bv bw ba l) :
    Calls Tryz.prog 84 #[.pointer (some ⟨bm, 0, none⟩), .int .i64 i] w fun e w' => e = .returned (.int .i64 (wget l i)) ∧ ∃ j, w' = w.drewN j := by
  have hc := h.cl
  have hix := run_ix (P := Tryz.prog) 22 (by kernel_rfl) size_u16 al l.length cap h.rl.at_ .i64
  have hs := h.small
  by_cases h0 : i < 0
  · have e : wget l i = -1 := by unfold wget; rw [if_neg (by omega)]
    rw [e]
    clear e h
    go_enter Tryz.func84, Tryz.ntmps84
    go_wp2
    go_ret
    exact ⟨rfl, 0, rfl⟩
  · obtain ⟨j, rfl⟩ := Int.eq_ofNat_of_zero_le (show 0 ≤ i by omega)
    by_cases h1 : (l.length : Int) ≤ (j : Int)
    · have e : wget l j = -1 := by unfold wget; rw [if_neg (by omega)]
      rw [e]
      clear e h
      go_enter Tryz.func84, Tryz.ntmps84
      go_wp2
      go_ret
      exact ⟨rfl, 0, rfl⟩
    · have e : wget l j = ((l.getD j 0 : Nat) : Int) := by unfold wget; rw [if_pos (by omega)]; rfl
      rw [e]
      have hlt : j < l.length := by omega
      have d := h.rl.cell j hlt
      have hb := getD_le l 256 h.sy j
      clear e h
      generalize l.getD j 0 = x at *
      generalize l.length = n at *
      have e1 : IntKind.i64.wrap (x : Int) = (x : Int) := IntWalk.i64_in _ (by omega)
      go_enter Tryz.func84, Tryz.ntmps84
      go_wp2
      go_ret
      exact ⟨rfl, 0, rfl⟩

end Go.Proofs.YtjpoebmjfedecaaGreat.Wv
