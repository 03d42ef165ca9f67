/-
  The document's own samples.
-/
import Derived.Test.YtjpoebmjfedecaaRefRows
import Derived.Test.YtjpoebmjfedecaaWalkOwn
namespace Go.Proofs.Ytjpoebmjfedecaa
open Go.RowKit

/-- where places stand, behind i of them -/
def invR (sa : List Nat) (i p : Nat) : Nat := if p ∈ sa.take i then sa.idxOf p else 0
theorem invR_zero (sa : List Nat) (p : Nat) : invR sa 0 p = 0 := by unfold invR; simp
theorem invR_succ (sa : List Nat) (hn : sa.Nodup) (i : Nat) (hi : i < sa.length) (p : Nat) : invR sa (i + 1) p = if p = sa.getD i 0 then i else invR sa i p := by
  have hm : p ∈ sa.take (i + 1) ↔ p ∈ sa.take i ∨ p = sa.getD i 0 := by rw [take_succ_getD sa i hi, List.mem_append, List.mem_singleton]
  unfold invR
  by_cases e : p = sa.getD i 0
  · rw [if_pos e, if_pos (hm.2 (.inr e)), e]
    have hmem : sa.getD i 0 ∈ sa := getD_mem' hi
    have hlt := List.idxOf_lt_length_of_mem hmem
    refine nodup_idx sa 0 hn _ _ hlt hi ?_
    rw [List.getD_eq_getElem?_getD, List.getElem?_eq_getElem hlt]
    simp
  · rw [if_neg e]
    by_cases h : p ∈ sa.take i
    · rw [if_pos h, if_pos (hm.2 (.inl h))]
    · rw [if_neg h, if_neg (fun h2 => (hm.1 h2).elim h e)]
theorem invR_all (sa : List Nat) (hn : sa.Nodup) (r : Nat) (hr : r < sa.length) : invR sa sa.length (sa.getD r 0) = r := by
  have hmem : sa.getD r 0 ∈ sa := getD_mem' hr
  unfold invR
  rw [List.take_length, if_pos hmem]
  have hlt := List.idxOf_lt_length_of_mem hmem
  refine nodup_idx sa 0 hn _ _ hlt hr ?_
  rw [List.getD_eq_getElem?_getD, List.getElem?_eq_getElem hlt]
  simp
attribute [irreducible] invR
/-- the row of a place, found by it -/
theorem invR_row (ds : List (List Nat)) (hb : ∀ d ∈ ds, ∀ c ∈ d, c < 256) (j o : Nat) (hj : j < ds.length) (ho : o ≤ (ds.getD j []).length) : invR (saOf ds) (saOf ds).length (startOf ds j + o) = rowP ds j o := by
  obtain ⟨h1, h2⟩ := rowP_at ds hb j o hj ho
  have hs := sa_row ds _ h1
  rw [h2] at hs
  have hnd : (saOf ds).Nodup := (saOf_sa _).ord.imp (fun h e => by subst e; exact ltS_asymm h h)
  have := invR_all (saOf ds) hnd (rowP ds j o) (by rw [(saOf_sa _).len, ← rows_len]; exact h1)
  rw [hs] at this
  exact this
def RefSamplesPost (w : World) (ds : List (List Nat)) (e : Ending) (w' : World) : Prop :=
  ∃ v, e = .returned v ∧ w'.ownsRow w.heap.size 3 1 v (putS (putsTo ds ds.length)).length (intsN (putS (putsTo ds ds.length))) ∧ Below w.heap.size w w'
set_option maxRecDepth 100000 in
set_option maxHeartbeats 4000000 in
theorem refsamples_any (w : World) (a : Option Addr) (cap : Nat) (ds : List (List Nat)) (hr : Row w a ds.length (strV ds)) (hok : NewOk ds) :
    Calls Try.prog 20 #[.slice a ds.length cap] w (RefSamplesPost w ds) := by
  have hall := hok.all
  have HRW := Lib.hid (rows_any w a cap ds hr hok.byte (by omega))
  have HR := Lib.hid hr
  have HOK := Lib.hid hok
  have hrl := rows_len ds
  have HRL := Lib.hid hrl
  have hnb : (rowsR ds).length ≤ 60000 := by omega
  obtain ⟨i0, hi0, hz0, hz1, hz2⟩ := info_parts info_intP
  clear hr hok hrl
  go_enter Try.func20, Try.ntmps20
  go_wp2_with fail
  refine HRW.out.mono ?_
  rintro e w1 ⟨a3, c3, rfl, hc3, hr3, hb1⟩
  obtain ⟨m, hm⟩ : ∃ m, m = (rowsR ds).length := ⟨_, rfl⟩
  have HR3 := Lib.hid hr3
  have HB1 := Lib.hid hb1
  have HRd := Lib.hid (HR.out.kept hb1)
  have hix := run_ix2 (P := Try.prog) 44 (by kernel_rfl) size_hit a3 (rowsR ds).length c3 hr3.at_
  have HM := Lib.hid hm
  rw [← hm] at hnb hix ⊢
  have HIX := Lib.hid hix
  have mk := make_int m (by omega)
  have HM0 := Lib.hid (World.rowIs_made w1 (.int .i64 0) m 3)
  have HBM : Hid (Below w1.heap.size w1 (w1.alloc (.cells (madeCells #[.int .i64 0] m) 3))) := (Below.refl _ _).alloc (Nat.le_refl _) _
  clear hr3 hb1 HRW HR hm hix
  go_wp2_with fail
  generalize w1.alloc (.cells (madeCells #[.int .i64 0] m) 3) = wm at *
  clear mk
  have hiy := run_ix (P := Try.prog) 30 (by kernel_rfl) size_int (some ⟨w1.heap.size, 0, none⟩) m m (.inr rfl) .i64
  simp only [bOf, oOf, Option.map_some, Option.getD_some, Nat.zero_add] at hiy
  have HIY := Lib.hid hiy
  clear hiy
  go_loopw [5] (fun v5 wr => ∃ i : Nat, i ≤ m ∧ v5 = .int .i64 (i : Int) ∧ wr.rowIs w1.heap.size 3 m (fun p => .int .i64 ((invR (saOf ds) i p : Nat) : Int)) ∧ Below w1.heap.size w1 wr) (fun v5 _ => m - (intOf v5).toNat)
  case atStart => exact ⟨0, Nat.zero_le _, rfl, HM0.out.congr fun j _ => by rw [invR_zero]; rfl, HBM.out⟩
  case round =>
    obtain ⟨i, hi, rfl, hrow, hbel⟩ := hrel
    clear HM0 HBM
    have HROW := Lib.hid hrow
    have HBEL := Lib.hid hbel
    by_cases hlt : i < m
    · have hil : i < (rowsR ds).length := by rw [← HM.out]; exact hlt
      have d1 := (HR3.out.kept hbel).c0 i hil
      have d2 := (HR3.out.kept hbel).c1 i hil
      have hva := rows_at ds i hil
      have hpl := placeOf_lt ds _ hva
      have hsa := sa_row ds i hil
      obtain ⟨p1, p2, hp⟩ : ∃ p1 p2, (rowsR ds).getD i (0, 0) = (p1, p2) := ⟨_, _, rfl⟩
      rw [hp] at d1 d2 hva hpl hsa
      have hplace : placeOf ds (p1, p2) = startOf ds p1 + p2 := rfl
      rw [hplace] at hpl hsa
      have HP := Lib.hid (fun (W : World) (hW : Below w1.heap.size w1 W) => place_any W a cap ds (HRd.out.kept hW) (by omega) p1 p2 (Nat.le_of_lt hva.1) (by omega))
      have hnd : (saOf ds).Nodup := (saOf_sa _).ord.imp (fun h e => by subst e; exact ltS_asymm h h)
      have HSS := Lib.hid (invR_succ (saOf ds) hnd i (by rw [(saOf_sa _).len, ← rows_len]; exact hil))
      rw [hsa] at HSS
      have hqm : startOf ds p1 + p2 < m := by rw [HM.out, rows_len]; exact hpl
      simp only at d1 d2
      clear hrow hbel hp hva hplace hil hsa hpl hnd
      generalize startOf ds p1 + p2 = q at *
      have hx := fun W => HIX.out W i hlt
      have hy := fun W => HIY.out W q hqm
      have e1 := HROW.out.cell (i := q) hqm
      have e2 := HROW.out.frozen q
      have e3 : wr.drew.cell? ⟨w1.heap.size, q, none⟩ = some (.int .i64 ((invR (saOf ds) i q : Nat) : Int)) := e1
      have HBd := Lib.hid HBEL.out.drew
      go_wp2
      refine wp_region_still_tail 15 (by kernel_rfl) (by kernel_rfl) ?_
      simp only [List.take_succ_cons, List.take_zero, List.drop_succ_cons, List.drop_zero]
      repeat still_step
      still_call ((HP.out _ HBd.out).mono fun _ _ ⟨he, hw⟩ => ⟨he, hw.symm⟩)
      repeat still_step
      refine wpStill_nil ?_
      change wpList _ _ _ _ _ wr.drew
      go_wp2
      go_roundw
      case rel => exact ⟨i + 1, by omega, by go_num, ((HROW.out.set q (.int .i64 (i : Int))).drew).congr fun j hj => by
        rw [HSS.out]
        by_cases e : j = q
        · rw [if_pos e, if_pos e]
        · rw [if_neg e, if_neg e], (HBEL.out.setCell (p := ⟨w1.heap.size, q, none⟩) (Nat.le_refl _) _).drew⟩
      case measure => simp [intOf]; omega
    · obtain rfl : i = m := by omega
      have hd : decide ((i : Int) < (i : Int)) = false := by simp
      have HAT := Lib.hid (Row.of_row hrow (Nat.le_refl _))
      have HRa := Lib.hid (HRd.out.kept hbel)
      have HBa : Hid (Below w.heap.size w wr) := below_next HB1.out hbel HB1.out.size
      have hml : i = (saOf ds).length := by rw [HM.out, rows_len, (saOf_sa ds).len]
      have HML := Lib.hid hml
      clear hrow hbel HROW HBEL hlt hml hi
      go_wp2_with fail
      generalize hwa : wr = wa at *
      clear hwa
      go_loopw [6, 7] (fun v6 v7 wr => ∃ j : Nat, j ≤ ds.length ∧ v7 = .int .i64 (j : Int) ∧ wr.ownsRow wa.heap.size 3 1 v6 (putS (putsTo ds j)).length (intsN (putS (putsTo ds j))) ∧ Below wa.heap.size wa wr) (fun _ v7 _ => ds.length - (intOf v7).toNat)
      case atStart => exact ⟨0, Nat.zero_le _, rfl, by rw [putsTo_zero]; exact World.ownsRow_nil _ _ _ _, Below.refl _ _⟩
      case round =>
        obtain ⟨j, hj, rfl, hown, hbel⟩ := hrel
        have HOWN := Lib.hid hown
        have HBEL := Lib.hid hbel
        by_cases hlt : j < ds.length
        · have hdl := HOK.out.long _ (doc_mem hlt)
          have h500 := HOK.out.many
          have hsz : (sB (ds.getD j [])).size = (ds.getD j []).length := sB_size _
          obtain ⟨dl, hd2⟩ : ∃ dl, dl = (ds.getD j []).length := ⟨_, rfl⟩
          have HD2 := Lib.hid hd2
          have hixs := run_ix (P := Try.prog) 40 (by kernel_rfl) size_str a ds.length cap HRa.out.at_ .i64
          have hx := fun W => hixs W j hlt
          have HCS : Hid (wa.cell? ⟨bOf a, oOf a + j, none⟩ = some (.string (sB (ds.getD j [])))) := HRa.out.cell j hlt
          have HPB : Hid (∀ q, q ≤ dl / 32 + 1 → (putS (putsTo ds j ++ putD ds j q)).length ≤ 60000) := fun q hq => by
            have hpl := putS_bound ds HOK.out (j + 1) hlt
            have hst := startOf_mono ds (show j + 1 ≤ ds.length by omega) (Nat.le_refl _)
            rw [startOf_all] at hst
            have e : (putS (putsTo ds (j + 1))).length = (putS (putsTo ds j)).length + (dl / 32 + 1) := by
              unfold putS; rw [putsTo_succ, List.map_append, List.length_append, HD2.out]; simp [putD]
            have e2 : (putS (putsTo ds j ++ putD ds j q)).length = (putS (putsTo ds j)).length + q := by
              unfold putS; rw [List.map_append, List.length_append]; simp [putD]
            omega
          rw [← hd2] at hdl hsz
          generalize sB (ds.getD j []) = sd at *
          clear hown hbel hixs hd2
          go_wp2_with fail
          go_loopw [6, 8] (fun v6 v8 wq => ∃ q o : Nat, q ≤ dl / 32 + 1 ∧ Hid (o = 32 * q) ∧ v8 = .int .i64 (o : Int) ∧ wq.ownsRow wa.heap.size 3 1 v6 (putS (putsTo ds j ++ putD ds j q)).length (intsN (putS (putsTo ds j ++ putD ds j q))) ∧ Below wa.heap.size wa wq) (fun _ v8 _ => dl + 32 - (intOf v8).toNat)
          case atStart => exact ⟨0, 0, Nat.zero_le _, rfl, rfl, by rw [putD_zero, List.append_nil]; exact HOWN.out, HBEL.out⟩
          case round =>
            obtain ⟨q, o, hq, HO, rfl, hown, hbel⟩ := hrel
            clear HOWN HBEL
            have HOW := Lib.hid hown
            have HBL := Lib.hid hbel
            have ho := HO.out
            have hcs : wr.cell? ⟨bOf a, oOf a + j, none⟩ = some (.string sd) := (hbel.cell (p := ⟨bOf a, oOf a + j, none⟩) (World.block_lt_of_cell? wa _ HCS.out)).trans HCS.out
            have hsw := hbel.size
            clear hown hbel
            by_cases hod : o ≤ dl
            · have hod2 : (o : Int) ≤ (dl : Int) := by omega
              have HPL := Lib.hid (place_any wr a cap ds (HRa.out.kept HBL.out) (by omega) j o (by omega) (by omega))
              have hpm : startOf ds j + o < i := by
                have := place_lt ds j o hlt (by rw [← HD2.out]; exact hod)
                rw [HM.out, rows_len]; exact this
              have hat : wr.cell? ⟨w1.heap.size, startOf ds j + o, none⟩ = some (.int .i64 ((rowP ds j o : Nat) : Int)) := by
                have h1 := (HAT.out.kept HBL.out).cell _ hpm
                simp only [bOf, oOf, Option.map_some, Option.getD_some, Nat.zero_add] at h1
                rw [h1]
                have h2 := invR_row ds HOK.out.byte j o hlt (by rw [← HD2.out]; exact hod)
                rw [← HML.out] at h2
                rw [h2]
              have hy := fun W => HIY.out W _ hpm
              have HRO := Lib.hid (show rowP ds j (32 * q) = rowP ds j o by rw [ho])
              have hlen := HPB.out q hq
              have HML2 : (putS (putsTo ds j ++ putD ds j q)).length + 1 ≤ maxLen := by unfold maxLen; omega
              have HBY : ((putS (putsTo ds j ++ putD ds j q)).length + 1) * 8 ≤ 140737488355328 := by omega
              clear ho
              generalize startOf ds j + o = p at *
              generalize rowP ds j o = r at *
              have HOC : ∀ u ∈ [Value.int .i64 (r : Int)], u.oneCell' = true := by simp [Value.oneCell']
              go_wp2_with (first
                | (go_at_call 48; refine HPL.out.mono ?_; rintro e w' ⟨rfl, rfl⟩)
                | (at_builtin; refine wpList_append_own_at _ rfl _ _ 30 rfl wa.heap.size 3 i0 (.int .i64 0) 1 8 Try.underlying30 hi0 hz0 hz1 hz2 rfl (by decide) _ _ _ rfl (HOW.out.alloc _) ⟨wr.heap.size, 0, none⟩ 1 1 [.int .i64 (r : Int)] rfl rfl (cell_one_new _ _ _) HOC HML2 HBY (by simp; omega) ?_; intro v' w5 hown' hgrow _ hatb; have HOWN5 := Lib.hid hown'; have HGR := Lib.hid hgrow; clear hown' hgrow hatb))
              have hltq := HOW.out.lt
              have HBn : Hid (Below wa.heap.size wa w5) := (HBL.out.alloc hsw _).grown HGR.out (by simp; omega) (fun g hg => (hltq g hg).1)
              have HO1 : Hid (w5.ownsRow wa.heap.size 3 1 v' (putS (putsTo ds j ++ putD ds j (q + 1))).length (intsN (putS (putsTo ds j ++ putD ds j (q + 1))))) := by
                have e1 : putS (putsTo ds j ++ putD ds j (q + 1)) = putS (putsTo ds j ++ putD ds j q) ++ [r] := by
                  rw [putD_succ, ← List.append_assoc, putS_snoc, HRO.out]
                show World.ownsRow _ _ _ _ _ _ _
                rw [e1, List.length_append, List.length_singleton, intsN_snoc]
                exact HOWN5.out
              clear HOWN5 HGR hltq
              go_roundw
              case rel => exact ⟨q + 1, o + 32, by have := HO.out; omega, (by show _ = _; have := HO.out; omega), by go_num, HO1.out, HBn.out⟩
              case measure => simp [intOf]; omega
            · have hod2 : ¬ (o : Int) ≤ (dl : Int) := by omega
              obtain rfl : q = dl / 32 + 1 := by omega
              have HQ : Hid (putsTo ds j ++ putD ds j (dl / 32 + 1) = putsTo ds (j + 1)) := by show _ = _; rw [putsTo_succ, HD2.out]
              rw [HQ.out] at HOW
              clear ho hod
              go_wp2
              go_roundw
              case rel => exact ⟨j + 1, by omega, by go_num, HOW.out, HBL.out⟩
              case measure => simp [intOf]; omega
        · obtain rfl : j = ds.length := by omega
          have hd2 : decide ((ds.length : Int) < (ds.length : Int)) = false := by simp
          have HBW : Hid (Below w.heap.size w wr) := below_next HBa.out hbel HBa.out.size
          have HOF := Lib.hid (owns_lower hown HBa.out.size)
          clear hown hbel HOWN HBEL hlt
          go_wp2
          go_ret
          exact ⟨_, rfl, HOF.out, HBW.out⟩
end Go.Proofs.Ytjpoebmjfedecaa
