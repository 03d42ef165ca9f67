/-
  suffix.Common at an order that is right.
-/
import Derived.Test.YtddceidepmckiaaLcpMath
namespace Go.Proofs.Ytddceidepmckiaa
open Go.RowKit

def IsLcp (row sa : List Nat) (F : Nat → Nat) : Prop := F 0 = 0 ∧ ∀ r, 0 < r → r < row.length → IsC row (sa.getD r 0) (sa.getD (r - 1) 0) (F r)
def ComPost (w : World) (ds : List (List Nat)) (sa : List Nat) (e : Ending) (w' : World) : Prop :=
  ∃ a cap F, e = .returned (.slice a (rowOf ds).length cap) ∧ Row w' a (rowOf ds).length (fun k => .int .i64 ((F k : Nat) : Int)) ∧ IsLcp (rowOf ds) sa F ∧ Below w.heap.size w w'
/-- what is laid behind p places -/
structure LcpSt (row sa : List Nat) (p n : Nat) (F : Nat → Nat) : Prop where
  zero : F 0 = 0
  done : ∀ x, x < p → 0 < sa.idxOf x → IsC row x (sa.getD (sa.idxOf x - 1) 0) (F (sa.idxOf x))
  mat : p < row.length → 0 < sa.idxOf p → MatC row p (sa.getD (sa.idxOf p - 1) 0) n
  le : n ≤ row.length
theorem lcp_start (row sa : List Nat) : LcpSt row sa 0 0 (fun _ => 0) := ⟨rfl, fun x hx => by omega, fun _ _ => matC_zero _ _ _, by omega⟩
theorem lcp_skip {row sa : List Nat} {p n : Nat} {F : Nat → Nat} (h : LcpSt row sa p n F) (h0 : sa.idxOf p = 0) : LcpSt row sa (p + 1) 0 F := by
  refine ⟨h.zero, fun x hx hp => ?_, fun _ _ => matC_zero _ _ _, by omega⟩
  by_cases e : x = p
  · subst e; omega
  · exact h.done x (by omega) hp
theorem lcp_next {ds : List (List Nat)} {sa : List Nat} (hsa : IsSA (ordS ds) (rowOf ds).length sa) {p n m : Nat} {F : Nat → Nat} (h : LcpSt (rowOf ds) sa p n F) (hp : p < (rowOf ds).length) (h0 : 0 < sa.idxOf p) (hc : IsC (rowOf ds) p (sa.getD (sa.idxOf p - 1) 0) m) :
    LcpSt (rowOf ds) sa (p + 1) (m - 1) (fun k => if k = sa.idxOf p then m else F k) := by
  refine ⟨by show (if 0 = sa.idxOf p then m else F 0) = 0; rw [if_neg (by omega)]; exact h.zero, fun x hx hx0 => ?_, fun _ _ => kasai ds sa hsa p m hp h0 hc.mat, ?_⟩
  · by_cases e : x = p
    · subst e; rw [if_pos rfl]; exact hc
    · have hne : sa.idxOf x ≠ sa.idxOf p := fun e2 => by
        have h1 := (idxOf_at ((hsa.mem x).2 (by omega))).2
        have h2 := (idxOf_at ((hsa.mem p).2 hp)).2
        rw [e2, h2] at h1; exact e h1.symm
      rw [if_neg hne]; exact h.done x (by omega) hx0
  · have := matC_lt hc.mat hp (last_row ds); omega
theorem lcp_end {ds : List (List Nat)} {sa : List Nat} (hsa : IsSA (ordS ds) (rowOf ds).length sa) {n : Nat} {F : Nat → Nat} (h : LcpSt (rowOf ds) sa (rowOf ds).length n F) : IsLcp (rowOf ds) sa F := by
  refine ⟨h.zero, fun r hr hl => ?_⟩
  have hnd : sa.Nodup := nodup_ltS hsa.ord
  have hi := idxOf_getD hnd r (by rw [hsa.len]; exact hl)
  have hm := (hsa.mem _).1 (getD_mem (l := sa) (i := r) (by rw [hsa.len]; exact hl))
  have := h.done _ hm (by omega)
  rwa [hi] at this
set_option maxRecDepth 100000 in
set_option maxHeartbeats 2000000 in
theorem common_any (w : World) (bt : Nat) (x : TxP) (ds : List (List Nat)) (ht : TextAt w bt x ds) (hok : NewOk ds) (a : Option Addr) (cap : Nat) (sa : List Nat) (hr : Row w a (rowOf ds).length (natV sa)) (hsa : IsSA (ordS ds) (rowOf ds).length sa) :
    Calls Try.prog 25 #[.pointer (some ⟨bt, 0, none⟩), .slice a (rowOf ds).length cap] w (ComPost w ds sa) := by
  have HOKC := Lib.hid (ok_yes w bt x ds ht hok a cap sa hr hsa)
  have HINV := Lib.hid (fun (W : World) (hW : Row W a (rowOf ds).length (natV sa)) => inverse_any W a cap sa (by rw [hsa.len]; have := hok.all; omega) (by rw [hsa.len]; exact hW) (by rw [hsa.len]; exact hsa.mem) (nodup_ltS hsa.ord))
  rw [hsa.len] at HINV
  have hix := run_ix (P := Try.prog) 28 (by kernel_rfl) size_int a (rowOf ds).length cap hr.at_ .i64
  have HT := Lib.hid ht
  have HR := Lib.hid hr
  have HSA := Lib.hid hsa
  have hall := hok.all
  have hmk := make_int (rowOf ds).length (by omega)
  have HLAST := Lib.hid (last_row ds)
  have HLE := Lib.hid (row_le ds hok.byte)
  clear ht hok hr hsa
  generalize hn : (rowOf ds).length = n at *
  have HN := Lib.hid hn
  clear hn
  go_enter Try.func25, Try.ntmps25
  go_wp2_with fail
  refine HOKC.out.mono ?_
  rintro e w1 ⟨rfl, hb1⟩
  have HB1 := Lib.hid hb1
  have HT1 := Lib.hid (HT.out.kept hb1)
  have HR1 := Lib.hid (HR.out.kept hb1)
  clear hb1 HOKC HT HR
  go_wp2_with fail
  refine (HINV.out w1 HR1.out).mono ?_
  rintro e w2 ⟨ai, ci, rfl, hri, hb2⟩
  have HRI := Lib.hid hri
  have HT2 := Lib.hid (HT1.out.kept hb2)
  have HR2 := Lib.hid (HR1.out.kept hb2)
  have HB2 : Hid (Below w.heap.size w w2) := below_next HB1.out hb2 HB1.out.size
  clear hri hb2 HINV HT1 HR1 HB1
  go_wp2_with fail
  refine (trow_any _ bt x ds HT2.out).mono ?_
  rintro e w' ⟨rfl, rfl⟩
  rw [HN.out]
  have r0 := World.rowIs_made w2 (.int .i64 0) n 3
  have HO0 := Lib.hid r0
  have HBA : Hid (Below w2.heap.size w2 (w2.alloc (.cells (madeCells #[.int .i64 0] n) 3))) := (Below.refl _ _).alloc (Nat.le_refl _) _
  have hixi := run_ix (P := Try.prog) 28 (by kernel_rfl) size_int ai n ci HRI.out.at_ .i64
  have hixr := run_ix (P := Try.prog) 52 (by kernel_rfl) size_u16 x.ar n x.cr (by have := HT2.out.row.at_; rw [HN.out] at this; exact this) .i64
  clear r0
  go_wp2_with fail
  clear hmk
  go_loopw [9, 32] (fun nn pp wr => ∃ (p m : Nat) (F : Nat → Nat), p ≤ n ∧ nn = .int .i64 m ∧ pp = .int .i64 p ∧ LcpSt (rowOf ds) sa p m F ∧ wr.rowIs w2.heap.size 3 n (fun k => .int .i64 ((F k : Nat) : Int)) ∧ Below w2.heap.size w2 wr) (fun _ pp _ => n - (intOf pp).toNat)
  case atStart => exact ⟨0, 0, fun _ => 0, Nat.zero_le _, rfl, rfl, lcp_start _ _, HO0.out, HBA.out⟩
  case round =>
    obtain ⟨p, m, F, hp, rfl, rfl, hst, hout, hbel⟩ := hrel
    have HST := Lib.hid hst
    have HO := Lib.hid hout
    have HB := Lib.hid hbel
    have hmn : m ≤ n := by have := hst.le; rw [HN.out] at this; exact this
    clear hst hout hbel
    by_cases hlt : p < n
    · have HRIp : Hid (Row wr ai n (fun p => .int .i64 ((sa.idxOf p : Nat) : Int))) := HRI.out.kept HB.out
      have HRp : Hid (Row wr a n (natV sa)) := HR2.out.kept HB.out
      have d0 : wr.cell? ⟨bOf ai, oOf ai + p, none⟩ = some (.int .i64 ((sa.idxOf p : Nat) : Int)) := HRIp.out.cell p hlt
      by_cases h0 : sa.idxOf p = 0
      · rw [h0] at d0
        have d0' : wr.cell? ⟨bOf ai, oOf ai + p, none⟩ = some (.int .i64 0) := d0
        clear d0
        go_wp2
        go_roundw
        case rel => exact ⟨p + 1, 0, F, by omega, rfl, by go_num, lcp_skip HST.out h0, HO.out, HB.out⟩
        case measure => simp [intOf]; omega
      · have hil : sa.idxOf p < n := by have := (idxOf_at ((HSA.out.mem p).2 hlt)).1; rw [HSA.out.len] at this; exact this
        have hmat := HST.out.mat (by rw [HN.out]; exact hlt) (by omega)
        have hqm := (HSA.out.mem _).1 (getD_mem (l := sa) (i := sa.idxOf p - 1) (by rw [HSA.out.len]; omega))
        have d1 : wr.cell? ⟨bOf a, oOf a + (sa.idxOf p - 1), none⟩ = some (.int .i64 ((sa.getD (sa.idxOf p - 1) 0 : Nat) : Int)) := HRp.out.cell _ (by omega)
        have HNX := Lib.hid (fun (M : Nat) (hc : IsC (rowOf ds) p (sa.getD (sa.idxOf p - 1) 0) M) => lcp_next (by rw [HN.out]; exact HSA.out) HST.out (by rw [HN.out]; exact hlt) (by omega) hc)
        have HM0 := Lib.hid hmat
        have hofr := HO.out.frozen (sa.idxOf p)
        have hocl := HO.out.cell (i := sa.idxOf p) hil
        clear hmat
        generalize sa.getD (sa.idxOf p - 1) 0 = q at *
        generalize sa.idxOf p = r at *
        obtain ⟨r1, hr1⟩ : ∃ r1, r = r1 + 1 := ⟨r - 1, by omega⟩
        have er : (r : Int) - 1 = (r1 : Int) := by omega
        rw [show r - 1 = r1 by omega] at d1
        have hr1n : r1 < n := by omega
        have g0 : ((r : Int) == 0) = false := by simp; omega
        have HR1 := Lib.hid hr1
        clear hr1 h0
        generalize wr = wo at *
        go_wp2_with fail
        go_loopw [9] (fun nn wx => ∃ (k j : Nat), nn = .int .i64 k ∧ MatC (rowOf ds) p q k ∧ wx = wo.drewN j) (fun nn _ => n - (intOf nn).toNat)
        case atStart => exact ⟨m, 0, rfl, HM0.out, rfl⟩
        case round =>
          obtain ⟨k, j, rfl, hmat, hw⟩ := hrel
          have hpk := matC_lt hmat (by rw [HN.out]; exact hlt) (by rw [HN.out]; exact HLAST.out)
          have hqk := matC_lt (matC_symm hmat) (by rw [HN.out]; exact hqm) (by rw [HN.out]; exact HLAST.out)
          rw [HN.out] at hpk hqk
          have HW := Lib.hid hw
          have HMAT := Lib.hid hmat
          have HTk : Hid (TextAt wr bt x ds) := by rw [HW.out]; exact (HT2.out.kept HB.out).drewN j
          have d2 : wr.cell? ⟨bOf x.ar, oOf x.ar + (p + k), none⟩ = some (.int .u16 (((rowOf ds).getD (p + k) 0 : Nat) : Int)) := HTk.out.row.cell _ (by rw [HN.out]; exact hpk)
          have d3 : wr.cell? ⟨bOf x.ar, oOf x.ar + (q + k), none⟩ = some (.int .u16 (((rowOf ds).getD (q + k) 0 : Nat) : Int)) := HTk.out.row.cell _ (by rw [HN.out]; exact hqk)
          have hx1 := fun W => hixr W (p + k) hpk
          have hx2 := fun W => hixr W (q + k) hqk
          have ec1 : ((p + k : Nat) : Int) = (p : Int) + k := by omega
          have ec2 : ((q + k : Nat) : Int) = (q : Int) + k := by omega
          rw [ec1] at hx1
          rw [ec2] at hx2
          have w1' : IntKind.i64.wrap ((p : Int) + k) = (p : Int) + k := IntWalk.i64_in _ (by omega)
          have w2' : IntKind.i64.wrap ((q : Int) + k) = (q : Int) + k := IntWalk.i64_in _ (by omega)
          have HSU := Lib.hid (fun h1 h2 => matC_succ hmat h1 h2)
          have HIC0 : Hid (((rowOf ds).getD (p + k) 0 = 0 ∨ (rowOf ds).getD (p + k) 0 ≠ (rowOf ds).getD (q + k) 0) → IsC (rowOf ds) p q k) := fun h => ⟨hmat, h⟩
          clear hw hmat ec1 ec2
          generalize (rowOf ds).getD (p + k) 0 = c1 at *
          generalize (rowOf ds).getD (q + k) 0 = c2 at *
          have hkn : k < n := by omega
          by_cases hz : c1 = 0
          · have HIC := Lib.hid (HIC0.out (.inl hz))
            subst hz
            have d2' : wr.cell? ⟨bOf x.ar, oOf x.ar + (p + k), none⟩ = some (.int .u16 0) := d2
            clear d2
            have d2 := d2'
            clear d2'
            go_wp2_with fail
            go_quiet (fail)
            clear w1' w2'
            have d0' : (wr.drewN nq).cell? ⟨bOf ai, oOf ai + p, none⟩ = some (.int .i64 (r : Int)) := by rw [HW.out]; exact d0
            have hofr' : (wr.drewN nq).frozen? ⟨w2.heap.size, r, none⟩ = false := by rw [HW.out]; exact hofr
            have hocl' : (wr.drewN nq).cell? ⟨w2.heap.size, r, none⟩ = some (.int .i64 ((F r : Nat) : Int)) := by rw [HW.out]; exact hocl
            have ho9 : (wr.drewN nq).rowIs w2.heap.size 3 n (fun k => .int .i64 ((F k : Nat) : Int)) := by rw [HW.out]; exact HO.out
            have hb9 : Below w2.heap.size w2 (wr.drewN nq) := by rw [HW.out]; exact below_drewN (below_drewN HB.out j) nq
            have HO9 := Lib.hid ho9
            have HB9 := Lib.hid hb9
            clear ho9 hb9 d0 hofr hocl d1 d2 d3
            generalize wr.drewN nq = wz at *
            have hmx : (if ((k : Int) - 1) < 0 then 0 else ((k : Int) - 1)) = ((k - 1 : Nat) : Int) := by split <;> omega
            have hmx2 : max ((k : Int) - 1) 0 = ((k - 1 : Nat) : Int) := by omega
            go_wp2
            go_roundw
            case rel =>
              refine ⟨p + 1, k - 1, _, by omega, ?_, by go_num, HNX.out k HIC.out, (HO9.out.set r (.int .i64 (k : Int))).congr fun y hy => ?_, HB9.out.setCell (p := ⟨w2.heap.size, r, none⟩) (Nat.le_refl _) _⟩
              · go_num
              · by_cases e : y = r
                · rw [if_pos e, if_pos e]
                · rw [if_neg e, if_neg e]
            case measure => simp [intOf]; omega
          · by_cases he : c1 = c2
            · subst he
              have HMK := Lib.hid (HSU.out rfl hz)
              have g1 : ((c1 : Int) == 0) = false := by simp; omega
              go_wp2_with fail
              go_quiet (fail)
              clear w1' w2'
              go_wp2
              go_roundw
              case rel => exact ⟨k + 1, j + nq, by go_num, HMK.out, by rw [HW.out, World.drewN_drewN]⟩
              case measure => simp [intOf]; omega
            · have HIC := Lib.hid (HIC0.out (.inr he))
              have g1 : ((c1 : Int) == 0) = false := by simp; omega
              have g2 : ((c1 : Int) == (c2 : Int)) = false := by simp; omega
              have g3 : ((c1 : Nat) == (c2 : Nat)) = false := by simp; omega
              go_wp2_with fail
              go_quiet (fail)
              clear w1' w2'
              have d0' : (wr.drewN nq).cell? ⟨bOf ai, oOf ai + p, none⟩ = some (.int .i64 (r : Int)) := by rw [HW.out]; exact d0
              have hofr' : (wr.drewN nq).frozen? ⟨w2.heap.size, r, none⟩ = false := by rw [HW.out]; exact hofr
              have hocl' : (wr.drewN nq).cell? ⟨w2.heap.size, r, none⟩ = some (.int .i64 ((F r : Nat) : Int)) := by rw [HW.out]; exact hocl
              have ho9 : (wr.drewN nq).rowIs w2.heap.size 3 n (fun k => .int .i64 ((F k : Nat) : Int)) := by rw [HW.out]; exact HO.out
              have hb9 : Below w2.heap.size w2 (wr.drewN nq) := by rw [HW.out]; exact below_drewN (below_drewN HB.out j) nq
              have HO9 := Lib.hid ho9
              have HB9 := Lib.hid hb9
              clear ho9 hb9 d0 hofr hocl d1 d2 d3
              generalize wr.drewN nq = wz at *
              have hmx : (if ((k : Int) - 1) < 0 then 0 else ((k : Int) - 1)) = ((k - 1 : Nat) : Int) := by split <;> omega
              have hmx2 : max ((k : Int) - 1) 0 = ((k - 1 : Nat) : Int) := by omega
              go_wp2
              go_roundw
              case rel =>
                refine ⟨p + 1, k - 1, _, by omega, ?_, by go_num, HNX.out k HIC.out, (HO9.out.set r (.int .i64 (k : Int))).congr fun y hy => ?_, HB9.out.setCell (p := ⟨w2.heap.size, r, none⟩) (Nat.le_refl _) _⟩
                · go_num
                · by_cases e : y = r
                  · rw [if_pos e, if_pos e]
                  · rw [if_neg e, if_neg e]
              case measure => simp [intOf]; omega
    · obtain rfl : p = n := by omega
      have hd : decide ((p : Int) < p) = false := by simp
      go_wp2
      go_ret
      have hst := HST.out
      rw [← HN.out] at hst
      refine ⟨some ⟨w2.heap.size, 0, none⟩, p, F, by rw [HN.out]; rfl, ?_, lcp_end (by rw [HN.out]; exact HSA.out) hst, below_next HB2.out HB.out HB2.out.size⟩
      rw [HN.out]
      exact Row.of_row HO.out (Nat.le_refl _)
end Go.Proofs.Ytddceidepmckiaa
