/-
  The document's own answer on ends: Bwt, Rank; SameTexts.
-/
import Derived.Test.YtjpoebmjfedecaaGreatBwtDocsPut
namespace Go.Proofs.YtjpoebmjfedecaaGreat
open Go.RowKit

theorem sBx_at (d : List Nat) (hb : ∀ c ∈ d, c < 256) (k : Nat) (hk : k < d.length) : ∃ h : k < (sB d).size, ((sB d)[k]'h).toNat = d.getD k 0 := by
  refine ⟨by rw [sB_size]; exact hk, ?_⟩
  have : d.getD k 0 < 256 := hb _ (getD_mem' hk)
  rw [List.getD_eq_getElem?_getD, List.getElem?_eq_getElem hk] at this ⊢
  unfold sB
  show (((d.map UInt8.ofNat).toArray)[k]'(by simpa using hk)).toNat = _
  simp at this ⊢
  omega
theorem run_indexB (P : Program) (w : World) (t : TypeId) (hu : P.underlying t = some .string) (d : List Nat) (hb : ∀ c ∈ d, c < 256) (k : Nat) (hk : k < d.length) :
    (Instr.index t (.string (sB d)) (.int .i64 (k : Int))).run P w = .ok (.int .u8 ((d.getD k 0 : Nat) : Int)) w := by
  obtain ⟨h1, h2⟩ := sBx_at d hb k hk
  rw [run_index_string w t _ _ _ hu]
  simp [h1, h2]
theorem prev_hit (ds : List (List Nat)) (p : Nat × Nat) (hp : validH ds p) : prevS (rowOf ds) (placeOf ds p) = if p.2 = 0 then 0 else (ds.getD p.1 []).getD (p.2 - 1) 0 + 1 := by
  obtain ⟨r, k⟩ := p
  obtain ⟨h1, h2⟩ := hp
  simp only at h1 h2
  show prevS (rowOf ds) (startOf ds r + k) = _
  cases k with
  | succ k => rw [if_neg (by simp), ← Nat.add_assoc, prevS_succ, row_at ds r k h1 (by omega), if_pos (by omega)]; simp
  | zero =>
    rw [if_pos rfl]
    cases r with
    | zero => rw [startOf_zero]; rfl
    | succ r => rw [startOf_succ ds r (by omega), Nat.add_zero, prevS_succ, row_at ds r _ (by omega) (Nat.le_refl _), if_neg (by omega)]
theorem bwt_hit (ds : List (List Nat)) (i : Nat) (hi : i < (rowsR ds).length) : (bwtOf ds).getD i 0 = prevS (rowOf ds) (placeOf ds ((rowsR ds).getD i (0, 0))) := by
  rw [bwtOf_at ds i (by rw [← rows_len]; exact hi)]
  congr 1
  unfold saOf
  rw [List.getD_eq_getElem?_getD, List.getElem?_map, List.getElem?_eq_getElem hi, List.getD_eq_getElem?_getD, List.getElem?_eq_getElem hi]; rfl
def RBwtPost (w : World) (ds : List (List Nat)) (e : Ending) (w' : World) : Prop :=
  ∃ a cap, e = .returned (.slice a (bwtOf ds).length cap) ∧ w'.ownsRow w.heap.size 50 1 (.slice a (bwtOf ds).length cap) (bwtOf ds).length (symVs (bwtOf ds)) ∧ Below w.heap.size w w'
theorem symVs_at (L : List Nat) (k : Nat) (h : k < L.length) : (symVs L)[k]? = some (.int .u16 ((L.getD k 0 : Nat) : Int)) := by
  unfold symVs; rw [List.getElem?_map, List.getD_eq_getElem?_getD, List.getElem?_eq_getElem h]; rfl
theorem symVs_row {w : World} {base cap : Nat} {a : Option Addr} {L : List Nat} (h : w.ownsRow base 50 1 (.slice a L.length cap) L.length (symVs L)) : Row w a L.length (symV L) :=
  (owns_row h).1.congr fun k hk => by rw [List.getD_eq_getElem?_getD, symVs_at L k hk]; rfl
set_option maxRecDepth 100000 in
set_option maxHeartbeats 2000000 in
theorem refbwt_any (w : World) (a : Option Addr) (cap : Nat) (ds : List (List Nat)) (hr : Row w a ds.length (strV ds)) (hby : ∀ d ∈ ds, ∀ c ∈ d, c < 256) (hl : (rowOf ds).length ≤ 60000) :
    Calls Tryz.prog 13 #[.slice a ds.length cap] w (RBwtPost w ds) := by
  have HRW := Lib.hid (rows_any w a cap ds hr hby (by omega))
  have HR := Lib.hid hr
  have HBY := Lib.hid hby
  have hrl := rows_len ds
  have HRL := Lib.hid (hrl.trans (bwtOf_len ds).symm)
  have hnb : (rowsR ds).length ≤ 60000 := by omega
  have hixs := run_ix (P := Tryz.prog) 31 (by kernel_rfl) size_str a ds.length cap hr.at_ .i64
  obtain ⟨i2, hi2, hza2, hzb2, hzc2⟩ := info_parts info_u16
  clear hr hby hrl
  go_enter Tryz.func13, Tryz.ntmps13
  go_wp2_with fail
  refine HRW.out.mono ?_
  rintro e w1 ⟨a3, c3, rfl, hc3, hr3, hb1⟩
  have HR3 := Lib.hid hr3
  have HB1 := Lib.hid hb1
  have HRd := Lib.hid (HR.out.kept hb1)
  have hix := run_ix2 (P := Tryz.prog) 38 (by kernel_rfl) size_hit a3 (rowsR ds).length c3 hr3.at_
  clear hr3 hb1 HRW HR
  go_wp2_with fail
  go_loopw [4, 5] (fun v ii wr => ∃ i : Nat, i ≤ (rowsR ds).length ∧ ii = .int .i64 i ∧ wr.ownsRow w1.heap.size 50 1 v i (symVs ((bwtOf ds).take i)) ∧ Below w1.heap.size w1 wr) (fun _ ii _ => (rowsR ds).length - (intOf ii).toNat)
  case atStart => exact ⟨0, Nat.zero_le _, rfl, World.ownsRow_nil _ _ _ _, Below.refl _ _⟩
  case round =>
    obtain ⟨i, hi, rfl, hown, hbel⟩ := hrel
    have hs := hbel.size
    by_cases hlt : i < (rowsR ds).length
    · have d1 := (HR3.out.kept hbel).c0 i hlt
      have d2 := (HR3.out.kept hbel).c1 i hlt
      have hva := rows_at ds i hlt
      have hnx : symVs ((bwtOf ds).take (i + 1)) = symVs ((bwtOf ds).take i) ++ [.int .u16 ((prevS (rowOf ds) (placeOf ds ((rowsR ds).getD i (0, 0))) : Nat) : Int)] := by
        rw [bwt_take ds i (by rw [← rows_len]; exact hlt), bwt_hit ds i hlt]; unfold symVs; rw [List.map_append]; rfl
      rw [prev_hit ds _ hva] at hnx
      obtain ⟨p1, p2, hp⟩ : ∃ p1 p2, (rowsR ds).getD i (0, 0) = (p1, p2) := ⟨_, _, rfl⟩
      rw [hp] at d1 d2 hva hnx
      simp only at d1 d2 hnx
      obtain ⟨hv1, hv2⟩ := hva
      simp only at hv1 hv2
      have d3 : wr.cell? ⟨bOf a, oOf a + p1, none⟩ = some (.string (sB (ds.getD p1 []))) := (HRd.out.kept hbel).cell p1 hv1
      have hbd := HBY.out _ (doc_mem hv1)
      have hdl : (ds.getD p1 []).length ≤ 60000 := by have := place_lt ds p1 _ hv1 (Nat.le_refl _); omega
      generalize ds.getD p1 [] = d at *
      have HNX := Lib.hid hnx
      have HO := Lib.hid hown
      have HB := Lib.hid hbel
      clear hown hbel hp hnx
      cases p2 with
      | zero =>
        rw [if_pos rfl] at HNX
        have d2' : wr.cell? ⟨bOf a3, oOf a3 + 2 * i + 1, none⟩ = some (.int .i64 0) := d2
        clear d1 d2 d3 hbd
        go_wp2_with (at_builtin; refine wpList_append_own _ rfl _ _ 22 rfl w1.heap.size 50 i2 (.int .u16 0) 1 2 Tryz.underlying22 hi2 hza2 hzb2 hzc2 rfl (by decide) _ _ _ rfl (HO.out.alloc _) ⟨wr.heap.size, 0, none⟩ 1 1 [.int .u16 0] rfl rfl (cell_one_new _ _ _) (by simp [Value.oneCell']) (by simp only [maxLen]; omega) (by omega) (by simp; omega) ?_; intro v' w2 hown' hgrow _)
        have hlt' := HO.out.lt
        have HO1 : Hid (w2.ownsRow w1.heap.size 50 1 v' (i + 1) (symVs ((bwtOf ds).take (i + 1)))) := by rw [HNX.out]; exact hown'
        have HB2 : Hid (Below w1.heap.size w1 w2) := (HB.out.alloc hs _).grown hgrow (by simp; omega) (fun g hg => (hlt' g hg).1)
        clear hown' hgrow hlt'
        go_wp2
        go_roundw
        case rel => exact ⟨i + 1, by omega, by go_num, HO1.out, HB2.out⟩
        case measure => simp [intOf]; omega
      | succ k =>
        rw [if_neg (by simp)] at HNX
        rw [show k + 1 - 1 = k by omega] at HNX
        have hxb := run_indexB Tryz.prog
        have hidx : ∀ W, (Instr.index 9 (.string (sB d)) (.int .i64 (k : Int))).run Tryz.prog W = .ok (.int .u8 ((d.getD k 0 : Nat) : Int)) W := fun W => run_indexB Tryz.prog W 9 Tryz.underlying9 d hbd k (by omega)
        have hcb := hbd _ (getD_mem' (show k < d.length by omega))
        generalize d.getD k 0 = c at *
        have x0 : (0 : Int) < ((k + 1 : Nat) : Int) := by omega
        have x1 : IntKind.u16.wrap (c : Int) = (c : Int) := IntWalk.u16_in _ (by omega)
        have x2 : IntKind.u16.wrap ((c : Int) + 1) = ((c + 1 : Nat) : Int) := by rw [show (c : Int) + 1 = ((c + 1 : Nat) : Int) by omega]; exact IntWalk.u16_in _ (by omega)
        have x4 : ((k + 1 : Nat) : Int) - 1 = (k : Int) := by omega
        have x5 : IntKind.i64.wrap (((k + 1 : Nat) : Int) - 1) = (k : Int) := by rw [x4]; exact IntWalk.i64_in _ (by omega)
        have x6 : IntKind.i64.wrap (k : Int) = (k : Int) := IntWalk.i64_in _ (by omega)
        clear hxb hbd
        generalize sB d = sd at *
        go_wp2_with fail
        go_quiet (fail)
        clear x1 x2 x4 x5 x6 hidx d1 d2 d3
        have HOq : Hid ((wr.drewN nq).ownsRow w1.heap.size 50 1 u4 i (symVs ((bwtOf ds).take i))) := owns_drewN HO.out nq
        have HBq : Hid (Below w1.heap.size w1 (wr.drewN nq)) := below_drewN HB.out nq
        have hsq : w1.heap.size ≤ (wr.drewN nq).heap.size := hs
        clear HO HB hs
        generalize wr.drewN nq = wq at *
        go_wp2_with (at_builtin; refine wpList_append_own _ rfl _ _ 22 rfl w1.heap.size 50 i2 (.int .u16 0) 1 2 Tryz.underlying22 hi2 hza2 hzb2 hzc2 rfl (by decide) _ _ _ rfl (HOq.out.alloc _) ⟨wq.heap.size, 0, none⟩ 1 1 [.int .u16 ((c + 1 : Nat) : Int)] rfl rfl (cell_one_new _ _ _) (by simp [Value.oneCell']) (by simp only [maxLen]; omega) (by omega) (by simp; omega) ?_; intro v' w2 hown' hgrow _)
        have hlt' := HOq.out.lt
        have HO1 : Hid (w2.ownsRow w1.heap.size 50 1 v' (i + 1) (symVs ((bwtOf ds).take (i + 1)))) := by rw [HNX.out]; exact hown'
        have HB2 : Hid (Below w1.heap.size w1 w2) := (HBq.out.alloc hsq _).grown hgrow (by simp; omega) (fun g hg => (hlt' g hg).1)
        clear hown' hgrow hlt'
        go_wp2
        go_roundw
        case rel => exact ⟨i + 1, by omega, by go_num, HO1.out, HB2.out⟩
        case measure => simp [intOf]; omega
    · obtain rfl : i = (rowsR ds).length := by omega
      have hd : decide (((rowsR ds).length : Int) < (rowsR ds).length) = false := by simp
      rw [HRL.out, List.take_length] at hown
      obtain ⟨a', cap', hv, hj⟩ := Row.of_owns hown
      subst hv
      have HOW := Lib.hid (owns_lower hown HB1.out.size)
      have HBF : Hid (Below w.heap.size w wr) := below_next HB1.out hbel HB1.out.size
      clear hown hbel hj
      go_wp2
      go_ret
      exact ⟨a', cap', rfl, HOW.out, HBF.out⟩
end Go.Proofs.YtjpoebmjfedecaaGreat
