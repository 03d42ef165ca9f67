/-
  The document's own Common.
-/
import Derived.Test.YtddceidepmckiaaLcpWalk
namespace Go.Proofs.Ytddceidepmckiaa
open Go.RowKit

theorem sB_at (d : List Nat) (hb : ∀ c ∈ d, c < 256) (k : Nat) (hk : k < d.length) : ∃ h : k < (sB d).size, ((sB d)[k]'h).toNat = d.getD k 0 := by
  refine ⟨by rw [sB_size]; exact hk, ?_⟩
  have : d.getD k 0 < 256 := hb _ (getD_mem hk)
  rw [List.getD_eq_getElem?_getD, List.getElem?_eq_getElem hk] at this ⊢
  unfold sB
  show (((d.map UInt8.ofNat).toArray)[k]'(by simpa using hk)).toNat = _
  simp at this ⊢
  omega
theorem run_str_at {P : Program} (t : TypeId) (hu : P.underlying t = some .string) (d : List Nat) (hb : ∀ c ∈ d, c < 256) (k : Nat) (hk : k < d.length) (w : World) :
    (Instr.index t (.string (sB d)) (.int .i64 (k : Int))).run P w = .ok (.int .u8 ((d.getD k 0 : Nat) : Int)) w := by
  obtain ⟨h1, h2⟩ := sB_at d hb k hk
  rw [run_index_string w t _ _ _ hu]
  simp [h1, h2]
structure LcpL (row P : List Nat) (i : Nat) (L : List Nat) : Prop where
  len : L.length = i
  zero : 0 < i → L.getD 0 0 = 0
  done : ∀ r, 0 < r → r < i → IsC row (P.getD r 0) (P.getD (r - 1) 0) (L.getD r 0)
theorem lcpL_nil (row P : List Nat) : LcpL row P 0 [] := ⟨rfl, fun h => by omega, fun r _ h => by omega⟩
theorem lcpL_snoc {row P : List Nat} {i : Nat} {L : List Nat} (h : LcpL row P i L) (n : Nat) (h0 : i = 0 → n = 0) (hc : 0 < i → IsC row (P.getD i 0) (P.getD (i - 1) 0) n) : LcpL row P (i + 1) (L ++ [n]) := by
  have hl := h.len
  have ha : ∀ r, r < i → (L ++ [n]).getD r 0 = L.getD r 0 := fun r hr => by
    rw [List.getD_eq_getElem?_getD, List.getElem?_append_left (by omega), List.getD_eq_getElem?_getD]
  have hb : (L ++ [n]).getD i 0 = n := by
    rw [List.getD_eq_getElem?_getD, List.getElem?_append_right (by omega), hl]; simp
  refine ⟨by rw [List.length_append, hl]; rfl, fun _ => ?_, fun r hr hr2 => ?_⟩
  · by_cases e : i = 0
    · subst e; rw [hb]; exact h0 rfl
    · rw [ha 0 (by omega)]; exact h.zero (by omega)
  · by_cases e : r = i
    · subst e; rw [hb]; exact hc hr
    · rw [ha r (by omega)]; exact h.done r hr (by omega)
theorem IsLcp.one {row sa : List Nat} {F G : Nat → Nat} (h : IsLcp row sa F) (g : IsLcp row sa G) (r : Nat) (hr : r < row.length) : F r = G r := by
  rcases Nat.eq_zero_or_pos r with e | e
  · subst e; rw [h.1, g.1]
  · exact (h.2 r e hr).one (g.2 r e hr)
def RComPost (w : World) (ds : List (List Nat)) (e : Ending) (w' : World) : Prop :=
  ∃ a cap F, e = .returned (.slice a (rowOf ds).length cap) ∧ Row w' a (rowOf ds).length (fun k => .int .i64 ((F k : Nat) : Int)) ∧ IsLcp (rowOf ds) ((rowsR ds).map (placeOf ds)) F ∧ Below w.heap.size w w'
theorem map_place (ds : List (List Nat)) (i : Nat) (hi : i < (rowsR ds).length) : ((rowsR ds).map (placeOf ds)).getD i 0 = placeOf ds ((rowsR ds).getD i (0, 0)) := by
  rw [List.getD_eq_getElem?_getD, List.getElem?_map, List.getElem?_eq_getElem hi, List.getD_eq_getElem?_getD, List.getElem?_eq_getElem hi]; rfl
set_option maxRecDepth 100000 in
set_option maxHeartbeats 2000000 in
theorem refcommon_any (w : World) (a : Option Addr) (cap : Nat) (ds : List (List Nat)) (hr : Row w a ds.length (strV ds)) (hby : ∀ d ∈ ds, ∀ c ∈ d, c < 256) (hl : (rowOf ds).length ≤ 60000) (a2 : Option Addr) (c2 : Nat) (hr2 : HRow w a2 (rowsR ds)) :
    Calls Try.prog 26 #[.slice a ds.length cap, .slice a2 (rowsR ds).length c2] w (RComPost w ds) := by
  have HR := Lib.hid hr
  have HR3 := Lib.hid hr2
  have HBY := Lib.hid hby
  have hrl := rows_len ds
  have HRL := Lib.hid hrl
  have hnb : (rowsR ds).length ≤ 60000 := by omega
  have hmany := len_le_row ds
  have hix := run_ix (P := Try.prog) 34 (by kernel_rfl) size_str a ds.length cap hr.at_ .i64
  have hix2 := run_ix2 (P := Try.prog) 43 (by kernel_rfl) size_hit a2 (rowsR ds).length c2 hr2.at_
  obtain ⟨i2, hi2, hza2, hzb2, hzc2⟩ := info_parts info_int
  clear hr hr2 hby hrl
  go_enter Try.func26, Try.ntmps26
  go_wp2_with fail
  go_loopw [5, 6] (fun v ii wr => ∃ (i : Nat) (L : List Nat), i ≤ (rowsR ds).length ∧ ii = .int .i64 i ∧ LcpL (rowOf ds) ((rowsR ds).map (placeOf ds)) i L ∧ wr.ownsRow w.heap.size 3 1 v i (intVs L) ∧ Below w.heap.size w wr) (fun _ ii _ => (rowsR ds).length - (intOf ii).toNat)
  case atStart => exact ⟨0, [], Nat.zero_le _, rfl, lcpL_nil _ _, World.ownsRow_nil _ _ _ _, Below.refl _ _⟩
  case round =>
    obtain ⟨i, L, hi, rfl, hL, hown, hbel⟩ := hrel
    have hs := hbel.size
    have HL := Lib.hid hL
    have HO := Lib.hid hown
    have HB := Lib.hid hbel
    clear hL hown hbel
    by_cases hlt : i < (rowsR ds).length
    · by_cases h0 : i = 0
      · subst h0
        have HN := Lib.hid (lcpL_snoc HL.out 0 (fun _ => rfl) (fun h => by omega))
        have hlt2 : (0 : Int) < ((rowsR ds).length : Int) := by omega
        have hsW := HB.out.size
        go_wp2_with (at_builtin; refine wpList_append_own_at _ rfl _ _ 28 rfl w.heap.size 3 i2 (.int .i64 0) 1 8 Try.underlying28 hi2 hza2 hzb2 hzc2 rfl (by decide) _ _ _ rfl (HO.out.alloc _) ⟨wr.heap.size, 0, none⟩ 1 1 [.int .i64 0] rfl rfl (cell_one_new _ _ _) (by simp [Value.oneCell']) (by simp only [maxLen]; omega) (by omega) (by simp; omega) ?_; intro v' w4 hown' hgrow _ hat)
        have hlt' := HO.out.lt
        have HO1 := Lib.hid hown'
        have HB1 : Hid (Below w.heap.size w w4) := (HB.out.alloc hsW _).grown hgrow (by simp; omega) (fun g hg => (hlt' g hg).1)
        clear hown' hgrow hlt' hat hsW
        go_wp2
        go_roundw
        case rel => exact ⟨1, L ++ [0], by omega, rfl, HN.out, by simpa [intVs] using HO1.out, HB1.out⟩
        case measure => simp [intOf]; omega
      · obtain ⟨i1, hi1⟩ : ∃ i1, i = i1 + 1 := ⟨i - 1, by omega⟩
        have e1 : (rowsR ds).getD i (0, 0) = (rowsR ds).getD i (0, 0) := rfl
        have k1 := (HR3.out.kept HB.out).c0 i1 (by omega)
        have k2 := (HR3.out.kept HB.out).c1 i1 (by omega)
        have k3 := (HR3.out.kept HB.out).c0 i hlt
        have k4 := (HR3.out.kept HB.out).c1 i hlt
        have hv1 := rows_at ds i1 (by omega)
        have hv2 := rows_at ds i hlt
        have HNX : Hid (∀ n, IsC (rowOf ds) (placeOf ds ((rowsR ds).getD i (0, 0))) (placeOf ds ((rowsR ds).getD i1 (0, 0))) n → LcpL (rowOf ds) ((rowsR ds).map (placeOf ds)) (i + 1) (L ++ [n])) := fun n hn => lcpL_snoc HL.out n (fun h => by omega) (fun _ => by rw [map_place ds i hlt, show i - 1 = i1 by omega, map_place ds i1 (by omega)]; exact hn)
        generalize (rowsR ds).getD i1 (0, 0) = q at *
        generalize (rowsR ds).getD i (0, 0) = p at *
        have HIC := Lib.hid (isC_text ds p q hv2 hv1)
        obtain ⟨p1, p2⟩ := p
        obtain ⟨q1, q2⟩ := q
        obtain ⟨hp1, hp2⟩ := hv2
        obtain ⟨hq1, hq2⟩ := hv1
        simp only at hp1 hp2 hq1 hq2 k1 k2 k3 k4
        have hrk := HR.out.kept HB.out
        have d1 := (hrk.cell p1 hp1).trans (show some (strV ds p1) = some (.string (sB (ds.getD p1 []))) from rfl)
        have d2 := (hrk.cell q1 hq1).trans (show some (strV ds q1) = some (.string (sB (ds.getD q1 []))) from rfl)
        have s1 := sB_size (ds.getD p1 [])
        have s2 := sB_size (ds.getD q1 [])
        have x1 := sB_drop (ds.getD p1 []) p2
        have x2 := sB_drop (ds.getD q1 []) q2
        rw [s1] at x1
        rw [s2] at x2
        have hux : (textAt ds (p1, p2)) = (ds.getD p1 []).drop p2 := rfl
        have hvx : (textAt ds (q1, q2)) = (ds.getD q1 []).drop q2 := rfl
        have b1 : ∀ c ∈ textAt ds (p1, p2), c < 256 := fun c hc => HBY.out _ (doc_mem hp1) c (List.mem_of_mem_drop hc)
        have b2 : ∀ c ∈ textAt ds (q1, q2), c < 256 := fun c hc => HBY.out _ (doc_mem hq1) c (List.mem_of_mem_drop hc)
        have hul : (textAt ds (p1, p2)).length ≤ 60000 := by have := place_lt ds p1 (ds.getD p1 []).length hp1 (Nat.le_refl _); rw [hux, List.length_drop]; omega
        rw [← hux] at x1
        rw [← hvx] at x2
        have HU := Lib.hid b1
        have HV := Lib.hid b2
        have em : (i : Int) - 1 = (i1 : Int) := by omega
        have ew : IntKind.i64.wrap ((i : Int) - 1) = (i1 : Int) := by rw [em]; exact IntWalk.i64_in _ (by omega)
        have hi1n : i1 < (rowsR ds).length := by omega
        have HI1 := Lib.hid hi1
        have hpos : (0 : Int) < (i : Int) := by omega
        have hd0 : decide (0 < i) = true := by simp; omega
        have hd1 : decide ((0 : Int) < (i : Int)) = true := by simp; omega
        clear e1 hrk hux hvx b1 b2 hi1 em
        generalize textAt ds (p1, p2) = u at *
        generalize textAt ds (q1, q2) = v at *
        generalize sB (ds.getD p1 []) = sp at *
        generalize sB (ds.getD q1 []) = sq at *
        generalize (ds.getD p1 []).length = np at *
        generalize (ds.getD q1 []).length = nq' at *
        go_wp2_with fail
        go_quiet (fail)
        have HOq : Hid ((wr.drewN nq).ownsRow w.heap.size 3 1 u5 i (intVs L)) := HO.out
        have HBq : Hid (Below w.heap.size w (wr.drewN nq)) := below_drewN HB.out nq
        have hsv := sB_size v
        have hsu := sB_size u
        have HXV := Lib.hid (fun k hk => run_str_at (P := Try.prog) 9 (by kernel_rfl) v HV.out k hk)
        have HXU := Lib.hid (fun k hk => run_str_at (P := Try.prog) 9 (by kernel_rfl) u HU.out k hk)
        clear k1 k2 k3 k4 d1 d2 s1 s2 x1 x2 hp2 hq2 HO HB hs ew hix hix2
        generalize wr.drewN nq = wq at *
        generalize sB u = su at *
        generalize sB v = sv at *
        go_wp2_with fail
        go_loopw [7] (fun nn wx => ∃ (n j : Nat), nn = .int .i64 n ∧ n ≤ u.length ∧ n ≤ v.length ∧ (∀ y, y < n → u.getD y 0 = v.getD y 0) ∧ wx = wq.drewN j) (fun nn _ => u.length - (intOf nn).toNat)
        case atStart => exact ⟨0, 0, rfl, Nat.zero_le _, Nat.zero_le _, fun y hy => by omega, rfl⟩
        case round =>
          obtain ⟨n, j, rfl, hnu, hnv, hm, hw⟩ := hrel
          have HW := Lib.hid hw
          have HM := Lib.hid hm
          clear hw hm
          have hnx := HIC.out n hnu hnv HM.out
          have HE := Lib.hid hnx
          clear hnx
          by_cases h1 : (n : Int) < (v.length : Int)
          · by_cases h2 : (n : Int) < (u.length : Int)
            · have y1 := HXV.out n (by omega)
              have y2 := HXU.out n (by omega)
              have HS : Hid (u.getD n 0 = v.getD n 0 → ∀ y, y < n + 1 → u.getD y 0 = v.getD y 0) := fun h y hy => by
                by_cases e : y = n
                · subst e; exact h
                · exact HM.out y (by omega)
              generalize u.getD n 0 = cu at *
              generalize v.getD n 0 = cv at *
              by_cases he : cv = cu
              · subst he
                have HS2 := Lib.hid (HS.out rfl)
                go_wp2_with fail
                go_quiet (fail)
                go_wp2
                go_roundw
                case rel => exact ⟨n + 1, j + nq, by go_num, by omega, by omega, HS2.out, by rw [HW.out, World.drewN_drewN]⟩
                case measure => simp [intOf]; omega
              · have HC := Lib.hid (HE.out (.inr (.inr (fun h => he h.symm))))
                have g2 : ((cv : Int) == (cu : Int)) = false := by simp; omega
                have g3 : ((cv : Nat) == (cu : Nat)) = false := by simp; omega
                go_wp2_with fail
                go_quiet (fail)
                have HOz : Hid ((wr.drewN nq).ownsRow w.heap.size 3 1 u5 i (intVs L)) := by rw [HW.out]; exact HOq.out
                have HBz : Hid (Below w.heap.size w (wr.drewN nq)) := by rw [HW.out]; exact below_drewN (below_drewN HBq.out j) nq
                generalize wr.drewN nq = wz at *
                have hsW := HBz.out.size
                go_wp2_with (at_builtin; refine wpList_append_own_at _ rfl _ _ 28 rfl w.heap.size 3 i2 (.int .i64 0) 1 8 Try.underlying28 hi2 hza2 hzb2 hzc2 rfl (by decide) _ _ _ rfl (HOz.out.alloc _) ⟨wz.heap.size, 0, none⟩ 1 1 [.int .i64 (n : Int)] rfl rfl (cell_one_new _ _ _) (by simp [Value.oneCell']) (by simp only [maxLen]; omega) (by omega) (by simp; omega) ?_; intro v' w4 hown' hgrow _ hat)
                have hlt' := HOz.out.lt
                have HO1 := Lib.hid hown'
                have HB1 : Hid (Below w.heap.size w w4) := (HBz.out.alloc hsW _).grown hgrow (by simp; omega) (fun g hg => (hlt' g hg).1)
                clear hown' hgrow hlt' hat hsW
                go_wp2
                go_roundw
                case rel => exact ⟨i + 1, L ++ [n], by omega, by go_num, HNX.out n HC.out, by simpa [intVs] using HO1.out, HB1.out⟩
                case measure => simp [intOf]; omega
            · have HC := Lib.hid (HE.out (.inl (by omega)))
              have f1 : decide ((n : Int) < (u.length : Int)) = false := by simp; omega
              have f2 : decide (n < u.length) = false := by simp; omega
              have f3 : decide ((n : Int) < (v.length : Int)) = true := by simp; omega
              have f4 : decide (n < v.length) = true := by simp; omega
              go_wp2_with fail
              go_quiet (fail)
              have HOz : Hid ((wr.drewN nq).ownsRow w.heap.size 3 1 u5 i (intVs L)) := by rw [HW.out]; exact HOq.out
              have HBz : Hid (Below w.heap.size w (wr.drewN nq)) := by rw [HW.out]; exact below_drewN (below_drewN HBq.out j) nq
              generalize wr.drewN nq = wz at *
              have hsW := HBz.out.size
              go_wp2_with (at_builtin; refine wpList_append_own_at _ rfl _ _ 28 rfl w.heap.size 3 i2 (.int .i64 0) 1 8 Try.underlying28 hi2 hza2 hzb2 hzc2 rfl (by decide) _ _ _ rfl (HOz.out.alloc _) ⟨wz.heap.size, 0, none⟩ 1 1 [.int .i64 (n : Int)] rfl rfl (cell_one_new _ _ _) (by simp [Value.oneCell']) (by simp only [maxLen]; omega) (by omega) (by simp; omega) ?_; intro v' w4 hown' hgrow _ hat)
              have hlt' := HOz.out.lt
              have HO1 := Lib.hid hown'
              have HB1 : Hid (Below w.heap.size w w4) := (HBz.out.alloc hsW _).grown hgrow (by simp; omega) (fun g hg => (hlt' g hg).1)
              clear hown' hgrow hlt' hat hsW
              go_wp2
              go_roundw
              case rel => exact ⟨i + 1, L ++ [n], by omega, by go_num, HNX.out n HC.out, by simpa [intVs] using HO1.out, HB1.out⟩
              case measure => simp [intOf]; omega
          · have HC := Lib.hid (HE.out (.inr (.inl (by omega))))
            have f1 : decide ((n : Int) < (v.length : Int)) = false := by simp; omega
            have f2 : decide (n < v.length) = false := by simp; omega
            go_wp2_with fail
            go_quiet (fail)
            have HOz : Hid ((wr.drewN nq).ownsRow w.heap.size 3 1 u5 i (intVs L)) := by rw [HW.out]; exact HOq.out
            have HBz : Hid (Below w.heap.size w (wr.drewN nq)) := by rw [HW.out]; exact below_drewN (below_drewN HBq.out j) nq
            generalize wr.drewN nq = wz at *
            have hsW := HBz.out.size
            go_wp2_with (at_builtin; refine wpList_append_own_at _ rfl _ _ 28 rfl w.heap.size 3 i2 (.int .i64 0) 1 8 Try.underlying28 hi2 hza2 hzb2 hzc2 rfl (by decide) _ _ _ rfl (HOz.out.alloc _) ⟨wz.heap.size, 0, none⟩ 1 1 [.int .i64 (n : Int)] rfl rfl (cell_one_new _ _ _) (by simp [Value.oneCell']) (by simp only [maxLen]; omega) (by omega) (by simp; omega) ?_; intro v' w4 hown' hgrow _ hat)
            have hlt' := HOz.out.lt
            have HO1 := Lib.hid hown'
            have HB1 : Hid (Below w.heap.size w w4) := (HBz.out.alloc hsW _).grown hgrow (by simp; omega) (fun g hg => (hlt' g hg).1)
            clear hown' hgrow hlt' hat hsW
            go_wp2
            go_roundw
            case rel => exact ⟨i + 1, L ++ [n], by omega, by go_num, HNX.out n HC.out, by simpa [intVs] using HO1.out, HB1.out⟩
            case measure => simp [intOf]; omega
    · obtain rfl : i = (rowsR ds).length := by omega
      have hd : decide (((rowsR ds).length : Int) < (rowsR ds).length) = false := by simp
      obtain ⟨a', cap', hv, hj⟩ := Row.of_owns (show wr.ownsRow w.heap.size 3 1 u5 L.length (intVs L) by rw [HL.out.len]; exact HO.out)
      have hown := HO.out
      rw [hv] at hown
      rw [hv]
      have hll := HL.out.len
      have hr9 := (owns_natV (l := L) (by rw [hll] at hown ⊢; exact hown)).1
      rw [hll] at hr9
      rw [hll]
      have HR9 := Lib.hid hr9
      clear hown hr9 hj hv hll
      go_wp2
      go_ret
      refine ⟨a', cap', fun k => L.getD k 0, by rw [← HRL.out]; rfl, by rw [← HRL.out]; exact HR9.out, ⟨?_, fun r h1 h2 => HL.out.done r h1 (by rw [HRL.out]; exact h2)⟩, HB.out⟩
      rcases Nat.eq_zero_or_pos (rowsR ds).length with e | e
      · have := HL.out.len
        rw [e] at this
        rw [List.eq_nil_of_length_eq_zero this]; rfl
      · exact HL.out.zero e
end Go.Proofs.Ytddceidepmckiaa
