/-
  The statement WalkPlaces: its walk; Row.
-/
import Derived.Test.YtjpoebmjfedecaaWalkAsk
import Derived.Test.YtjpoebmjfedecaaWalkAtR
import Derived.Test.YtjpoebmjfedecaaWalkRef
namespace Go.Proofs.Ytjpoebmjfedecaa
open Go.RowKit

theorem putS_getD (ds : List (List Nat)) (j q : Nat) (hq : 32 * q ≤ (ds.getD j []).length) : ∀ m, j < m → (putS (putsTo ds j)).length + q < (putS (putsTo ds m)).length ∧ (putS (putsTo ds m)).getD ((putS (putsTo ds j)).length + q) 0 = rowP ds j (32 * q)
  | 0, h => by omega
  | m + 1, h => by
    have e : putS (putsTo ds (m + 1)) = putS (putsTo ds m) ++ putS (putD ds m ((ds.getD m []).length / 32 + 1)) := by unfold putS; rw [putsTo_succ, List.map_append]
    rcases Nat.lt_or_ge j m with hj | hj
    · obtain ⟨h1, h2⟩ := putS_getD ds j q hq m hj
      rw [e, List.length_append]
      refine ⟨by omega, ?_⟩
      rw [List.getD_eq_getElem?_getD, List.getElem?_append_left h1, ← List.getD_eq_getElem?_getD, h2]
    · obtain rfl : j = m := by omega
      have hl : q < (ds.getD j []).length / 32 + 1 := by omega
      have hd : (putS (putD ds j ((ds.getD j []).length / 32 + 1))).length = (ds.getD j []).length / 32 + 1 := by simp [putS, putD]
      rw [e, List.length_append]
      refine ⟨by omega, ?_⟩
      rw [List.getD_eq_getElem?_getD, List.getElem?_append_right (by omega), Nat.add_sub_cancel_left]
      unfold putS putD
      rw [List.getElem?_map, List.getElem?_map, List.getElem?_range hl]; rfl
theorem putS_step (ds : List (List Nat)) (m : Nat) : (putS (putsTo ds (m + 1))).length = (putS (putsTo ds m)).length + ((ds.getD m []).length / 32 + 1) := by
  unfold putS; rw [putsTo_succ, List.map_append, List.length_append]; simp [putD]
/-- a place that has a sample -/
def SampP (ds : List (List Nat)) (doc off : Int) (j o : Nat) : Prop := doc = (j : Int) ∧ off = (o : Int) ∧ j < ds.length ∧ o ≤ (ds.getD j []).length ∧ o % 32 = 0
def WRowP (w : World) (ds : List (List Nat)) (doc off : Int) (e : Ending) (w' : World) : Prop :=
  w = w' ∧ ((∃ j o, SampP ds doc off j o ∧ e = .returned (.tuple #[.int .i64 ((rowP ds j o : Nat) : Int), .bool true])) ∨ ((∀ j o, ¬ SampP ds doc off j o) ∧ e = .returned (.tuple #[.int .i64 0, .bool false])))
set_option maxRecDepth 100000 in
set_option maxHeartbeats 2000000 in
theorem wrow_any (w : World) (ds : List (List Nat)) (hok : NewOk ds) (Y : Nat → Prop) (bp bm : Nat) (vS vZ : Value) (n : Nat) (f : Int → Option (Nat × Nat)) (hP : PlIn Y w bp bm vS vZ (putS (putsTo ds ds.length)) (sizesTo ds ds.length) n f) (doc off : Int) (hdw : (Lit.int .i64 doc).wf = true) (how : (Lit.int .i64 off).wf = true) :
    Calls Try.prog 23 #[.pointer (some ⟨bp, 0, none⟩), .int .i64 doc, .int .i64 off] w (WRowP w ds doc off) := by
  obtain ⟨c0, c1, _, _, _⟩ := hP.c0
  obtain ⟨a7, cs, rfl, hs1, hrs⟩ := intsN_row hP.rs
  obtain ⟨az, cz, rfl, hz1, hrz⟩ := intsN_row hP.rz
  rw [sizesTo_len] at c1 hrz hz1
  have hbd := bounds_i64 hdw
  have hbo := bounds_i64 how
  have HRS := Lib.hid hrs
  have HRZ := Lib.hid hrz
  have HOK := Lib.hid hok
  have h500 := hok.many
  clear hP hrs hrz hok hdw how
  by_cases hd0 : doc < 0
  · go_enter Try.func23, Try.ntmps23
    go_wp2
    go_ret2
    exact ⟨rfl, .inr ⟨fun j o h => by have := h.1; omega, rfl⟩⟩
  · by_cases hd1 : (ds.length : Int) ≤ doc
    · go_enter Try.func23, Try.ntmps23
      go_wp2
      go_ret2
      exact ⟨rfl, .inr ⟨fun j o h => by have := h.1; have := h.2.2.1; omega, rfl⟩⟩
    · by_cases ho0 : off < 0
      · have t1 : ¬ doc < 0 := hd0
        have t2 : decide ((ds.length : Int) ≤ doc) = false := by simp; omega
        go_enter Try.func23, Try.ntmps23
        go_wp2
        go_ret2
        exact ⟨rfl, .inr ⟨fun j o h => by have := h.2.1; omega, rfl⟩⟩
      · obtain ⟨j, rfl⟩ : ∃ j : Nat, doc = (j : Int) := ⟨doc.toNat, by omega⟩
        obtain ⟨o, rfl⟩ : ∃ o : Nat, off = (o : Int) := ⟨off.toNat, by omega⟩
        have hjl : j < ds.length := by omega
        have hixz := run_ix (P := Try.prog) 30 (by kernel_rfl) size_int az ds.length cz HRZ.out.at_ .i64
        have hx := fun W => hixz W j hjl
        have hcz := HRZ.out.cell j hjl
        have hv : natsV (sizesTo ds ds.length) j = .int .i64 (((ds.getD j []).length : Nat) : Int) := by unfold natsV; rw [sizesTo_at ds hjl]
        rw [hv] at hcz
        have t2 : decide (ds.length ≤ j) = false := by simp; omega
        have t3 : decide ((j : Int) < 0) = false := by simp
        have t4 : decide ((o : Int) < 0) = false := by simp
        have hlong := HOK.out.long _ (doc_mem hjl)
        obtain ⟨dl, hdl⟩ : ∃ dl, dl = (ds.getD j []).length := ⟨_, rfl⟩
        have HDL := Lib.hid hdl
        rw [← hdl] at hcz hlong
        clear hv hixz hdl hd0 hd1 ho0
        by_cases hol : dl < o
        · go_enter Try.func23, Try.ntmps23
          go_wp2
          go_ret2
          exact ⟨rfl, .inr ⟨fun j' o' h => by
            have h1 := h.1; have h2 := h.2.1; have h3 := h.2.2.2.1
            obtain rfl : j = j' := by omega
            rw [← HDL.out] at h3; omega, rfl⟩⟩
        · have t5 : decide (dl < o) = false := by simp; omega
          by_cases hom : o % 32 = 0
          · go_enter Try.func23, Try.ntmps23
            have HX := Lib.hid (run_ix (P := Try.prog) 30 (by kernel_rfl) size_int az ds.length cz HRZ.out.at_ .i64)
            have hixk := run_ix (P := Try.prog) 30 (by kernel_rfl) size_int az j cz (HRZ.out.at_.imp (fun h => by omega) id) .i64
            have HXK := Lib.hid hixk
            clear hixk
            go_wp2_with fail
            clear hx
            go_loopw [8, 51] (fun v8 v51 wr => ∃ k : Nat, k ≤ j ∧ v51 = .int .i64 (k : Int) ∧ v8 = .int .i64 ((o / 32 + (putS (putsTo ds k)).length : Nat) : Int) ∧ wr = w) (fun _ v51 _ => j - (intOf v51).toNat)
            case atStart => exact ⟨0, Nat.zero_le _, rfl, by rw [putsTo_zero]; show Value.int .i64 _ = .int .i64 ((o / 32 + 0 : Nat) : Int); simp, rfl⟩
            case round =>
              obtain ⟨k, hk, rfl, rfl, rfl⟩ := hrel
              have hpb := putS_bound ds HOK.out j (by omega)
              have hst := startOf_mono ds (show j ≤ ds.length by omega) (Nat.le_refl _)
              rw [startOf_all] at hst
              have hall := HOK.out.all
              by_cases hlt : k < j
              · have hx2 := fun W => HXK.out W k hlt
                have hck := HRZ.out.cell k (by omega)
                have hv : natsV (sizesTo ds ds.length) k = .int .i64 (((ds.getD k []).length : Nat) : Int) := by unfold natsV; rw [sizesTo_at ds (by omega)]
                rw [hv] at hck
                have hstep := putS_step ds k
                have hpk := putS_bound ds HOK.out (k + 1) (by omega)
                have hsk := startOf_mono ds (show k + 1 ≤ ds.length by omega) (Nat.le_refl _)
                rw [startOf_all] at hsk
                have HSP := Lib.hid hstep
                obtain ⟨lk, hlk⟩ : ∃ lk, lk = (ds.getD k []).length := ⟨_, rfl⟩
                have hlk2 := HOK.out.long _ (doc_mem (show k < ds.length by omega))
                rw [← hlk] at hck hlk2 hstep HSP
                obtain ⟨pk, hpk2⟩ : ∃ pk, pk = (putS (putsTo ds k)).length := ⟨_, rfl⟩
                rw [← hpk2] at hstep HSP ⊢
                clear hv hlk hpk2 hpb hst hstep
                generalize hM : (putS (putsTo ds (k + 1))).length = M at *
                have HMM := Lib.hid hM
                have hpk3 : pk + (lk / 32 + 1) ≤ 60000 := by have := HSP.out; omega
                clear hM hpk hsk
                have z1 : IntKind.i64.wrap ((lk : Int) / 32 + 1) = ((lk / 32 + 1 : Nat) : Int) := by rw [show (lk : Int) / 32 + 1 = ((lk / 32 + 1 : Nat) : Int) by omega]; exact IntWalk.i64_in _ (by omega)
                have z2 : IntKind.i64.wrap (((o / 32 + pk : Nat) : Int) + ((lk / 32 + 1 : Nat) : Int)) = ((o / 32 + (pk + (lk / 32 + 1)) : Nat) : Int) := by rw [show ((o / 32 + pk : Nat) : Int) + ((lk / 32 + 1 : Nat) : Int) = ((o / 32 + (pk + (lk / 32 + 1)) : Nat) : Int) by omega]; exact IntWalk.i64_in _ (by omega)
                go_wp2
                go_roundw
                case rel => exact ⟨k + 1, by omega, by go_num, by rw [HMM.out, HSP.out]; first | rfl | go_num | (simp; omega), (by first | rfl | trivial)⟩
                case measure => simp [intOf]; omega
              · obtain rfl : k = j := by omega
                have hd : decide ((k : Int) < (k : Int)) = false := by simp
                obtain ⟨g1, g2⟩ := putS_getD ds k (o / 32) (by rw [← HDL.out]; omega) ds.length hjl
                rw [show 32 * (o / 32) = o by omega] at g2
                rw [Nat.add_comm] at g1 g2
                have hcs := HRS.out.cell _ g1
                have hv : natsV (putS (putsTo ds ds.length)) (o / 32 + (putS (putsTo ds k)).length) = .int .i64 ((rowP ds k o : Nat) : Int) := by unfold natsV; rw [g2]
                rw [hv] at hcs
                have hixs := run_ix (P := Try.prog) 30 (by kernel_rfl) size_int a7 (putS (putsTo ds ds.length)).length cs HRS.out.at_ .i64
                have hx3 := fun W => hixs W _ g1
                have HS : Hid (SampP ds (k : Int) (o : Int) k o) := ⟨rfl, rfl, hjl, by rw [← HDL.out]; omega, hom⟩
                clear hv hixs g2 hpb
                generalize o / 32 + (putS (putsTo ds k)).length = i at *
                generalize (putS (putsTo ds ds.length)).length = sl at *
                generalize hrr : rowP ds k o = r at *
                have HRR := Lib.hid hrr
                clear hrr
                go_wp2
                go_ret2
                exact ⟨rfl, .inl ⟨k, o, HS.out, by rw [HRR.out]; rfl⟩⟩
          · go_enter Try.func23, Try.ntmps23
            go_wp2
            go_ret2
            exact ⟨rfl, .inr ⟨fun j' o' h => by
              have h1 := h.1; have h2 := h.2.1; have h3 := h.2.2.2.2
              obtain rfl : o = o' := by omega
              exact hom h3, rfl⟩⟩
set_option maxRecDepth 100000 in
set_option maxHeartbeats 4000000 in
theorem wplaces_walk (w : World) (a : Option Addr) (cap : Nat) (A : Nat → Option Addr) (C : Nat → Nat) (ds : List (List Nat)) (hin : DocsIn w a A C ds) (row : Int) (hrw : (Lit.int .i64 row).wf = true) (doc : Int) (hdw : (Lit.int .i64 doc).wf = true) (off : Int) (how : (Lit.int .i64 off).wf = true) :
    Calls Try.prog 4 #[.slice a ds.length cap, .int .i64 row, .int .i64 doc, .int .i64 off] w fun e w' => e = .returned (.bool true) ∧ Below w.heap.size w w' := by
  have hib := bounds_i64 hrw
  have HRW := Lib.hid hrw
  have HDW := Lib.hid hdw
  have HOW := Lib.hid how
  have hbd := bounds_i64 hdw
  have hbo := bounds_i64 how
  have HF := Lib.hid (few_any w a cap A C ds hin.many hin.docs hin.long)
  have HIN := Lib.hid hin
  clear hin hrw hdw how
  go_enter Try.func4, Try.ntmps4
  go_wp2_with fail
  refine HF.out.mono ?_
  rintro e w' ⟨b, rfl, hfew, rfl⟩
  cases b with
  | false =>
    clear hfew
    go_wp2_with (go_at_call 16; refine (awake13_any _).mono ?_; rintro e w1 ⟨rfl, hb⟩)
    go_ret
    exact ⟨rfl, hb⟩
  | true =>
    obtain ⟨hf1, hf2, hf3⟩ := hfew rfl
    have HFEW := Lib.hid (FewP.mk hf1 hf2 hf3 HIN.out.byte)
    clear hfew hf2 HF
    have HOK := Lib.hid HFEW.out.ok
    go_wp2_with fail
    refine (strings_any w a cap A C ds (by omega) HIN.out.docs).mono ?_
    rintro e w1 ⟨ax, cx, rfl, hrs, hb1⟩
    have HS1 := Lib.hid hrs
    have HB1 := Lib.hid hb1
    have HD1 := Lib.hid (HIN.out.docs.kept hb1)
    clear hrs hb1
    go_wp2_with fail
    refine (bmade_any w1 a cap A C ds HD1.out HOK.out).mono ?_
    rintro e w2 ⟨bx, bm, al, cl, rfl, hi, hb2, -⟩
    have HI2 := Lib.hid hi
    have HS2 := Lib.hid (HS1.out.kept hb2)
    have HB2 : Hid (Below w.heap.size w w2) := below_next HB1.out hb2 HB1.out.size
    clear hi hb2 HS1 HB1 HD1
    go_wp2_with fail
    refine (wnew_any w2 bx bm al cl ds HOK.out HI2.out).mono ?_
    rintro e w3 ⟨bp, bq, vS, vZ, Y, rfl, hp, hb3, -⟩
    have HP3 := Lib.hid hp
    have HI3 := Lib.hid (HI2.out.kept hb3)
    have HS3 := Lib.hid (HS2.out.kept hb3)
    have HB3 : Hid (Below w.heap.size w w3) := below_next HB2.out hb3 HB2.out.size
    have hpb := putS_bound ds HOK.out ds.length (Nat.le_refl _)
    rw [startOf_all] at hpb
    have hall := HOK.out.all
    have HSM := Lib.hid (wsamples_any w3 Y bp bq vS vZ _ _ _ _ hp (by omega))
    have hsl : (putS (putsTo ds ds.length)).length ≤ 60000 := by omega
    clear hp hb3 HB2 HI2 HS2
    go_wp2_with fail
    refine HSM.out.mono ?_
    rintro e w4 ⟨a4, rfl, hr4, hb4, -⟩
    have HR4 := Lib.hid hr4
    have HP4 := Lib.hid (HP3.out.kept (KeepX.of_below hb4))
    have HI4 := Lib.hid (HI3.out.kept hb4)
    have HS4 := Lib.hid (HS3.out.kept hb4)
    have HB4 : Hid (Below w.heap.size w w4) := below_next HB3.out hb4 HB3.out.size
    clear hr4 hb4 HB3 HI3 HS3 HP3 HSM
    go_wp2_with fail
    refine (refsamples_any w4 ax cx ds HS4.out HOK.out).mono ?_
    rintro e w5 ⟨v5, rfl, ho5, hb5⟩
    obtain ⟨a5, c5, rfl, _, hr5⟩ := intsN_row ho5
    have HR5 := Lib.hid hr5
    have HR45 := Lib.hid (HR4.out.kept hb5)
    have HP5 := Lib.hid (HP4.out.kept (KeepX.of_below hb5))
    have HI5 := Lib.hid (HI4.out.kept hb5)
    have HS5 := Lib.hid (HS4.out.kept hb5)
    have HB5 : Hid (Below w.heap.size w w5) := below_next HB4.out hb5 HB4.out.size
    have HSI := Lib.hid (same_yes w5 a4 a5 (putS (putsTo ds ds.length)).length (putS (putsTo ds ds.length)).length c5 (fun k => (((putS (putsTo ds ds.length)).getD k 0 : Nat) : Int)) (by omega) HR45.out HR5.out)
    clear ho5 hr5 hb5 HB4 HI4 HS4 HP4 HR4 HR5 HR45
    go_wp2_with fail
    refine HSI.out.mono ?_
    rintro e w6 ⟨rfl, j6, rfl⟩
    have HP6 := Lib.hid (HP5.out.kept (W' := w5.drewN j6) (KeepX.of_below (below_drewN (Below.refl _ _) j6)))
    have HI6 := Lib.hid (HI5.out.drewN j6)
    have HS6 := Lib.hid (HS5.out.drewN j6)
    have HB6 := Lib.hid (below_drewN HB5.out j6)
    clear HSI HP5 HI5 HS5 HB5
    generalize w5.drewN j6 = w6 at *
    go_wp2_with fail
    refine (rows_any w6 ax cx ds HS6.out HOK.out.byte (by omega)).mono ?_
    rintro e w7 ⟨ar, cr, rfl, hcr, hrr, hb7⟩
    have HR7 := Lib.hid hrr
    have HP7 := Lib.hid (HP6.out.kept (KeepX.of_below hb7))
    have HI7 := Lib.hid (HI6.out.kept hb7)
    have HS7 := Lib.hid (HS6.out.kept hb7)
    have HB7 : Hid (Below w.heap.size w w7) := below_next HB6.out hb7 HB6.out.size
    clear hrr hb7 HP6 HI6 HS6 HB6
    obtain ⟨m, hm⟩ : ∃ m, m = (rowsR ds).length := ⟨_, rfl⟩
    have hmb : m ≤ 60000 := by rw [hm, rows_len]; exact hall
    have HM := Lib.hid hm
    rw [← hm]
    have HIX := Lib.hid (run_ix2 (P := Try.prog) 44 (by kernel_rfl) size_hit ar m cr (by rw [hm]; exact HR7.out.at_))
    clear hm
    go_wp2_with fail
    go_loopw [14] (fun v14 wr => ∃ i : Nat, i ≤ m ∧ v14 = .int .i64 (i : Int) ∧ Below w7.heap.size w7 wr) (fun v14 _ => m - (intOf v14).toNat)
    case atStart => exact ⟨0, Nat.zero_le _, rfl, Below.refl _ _⟩
    case round =>
      obtain ⟨i, hi, rfl, hbel⟩ := hrel
      have HPr := Lib.hid (HP7.out.kept (KeepX.of_below hbel))
      have HIr := Lib.hid (HI7.out.kept hbel)
      have HBr := Lib.hid hbel
      by_cases hlt : i < m
      · obtain ⟨k, o, hko⟩ : ∃ k o, (rowsR ds).getD i (0, 0) = (k, o) := ⟨_, _, rfl⟩
        have hir : i < (rowsR ds).length := by rw [← HM.out]; exact hlt
        have HAT := Lib.hid (watr_any wr bx bm al cl ds HOK.out HIr.out Y bp bq vS vZ _ _ _ HPr.out i k o hir hko)
        have d1 := (HR7.out.kept hbel).c0 i hir
        have d2 := (HR7.out.kept hbel).c1 i hir
        rw [hko] at d1 d2
        have HD1 := Lib.hid d1
        have HD2 := Lib.hid d2
        have hx := fun W => HIX.out W i hlt
        clear hbel hko hir d1 d2
        go_wp2_with fail
        refine HAT.out.mono ?_
        rintro e w8 ⟨rfl, hb8⟩
        have d1 : w8.cell? ⟨bOf ar, oOf ar + 2 * i, none⟩ = some (.int .i64 (k : Int)) := (hb8.cell (p := ⟨bOf ar, oOf ar + 2 * i, none⟩) (World.block_lt_of_cell? wr _ HD1.out)).trans HD1.out
        have d2 : w8.cell? ⟨bOf ar, oOf ar + 2 * i + 1, none⟩ = some (.int .i64 (o : Int)) := (hb8.cell (p := ⟨bOf ar, oOf ar + 2 * i + 1, none⟩) (World.block_lt_of_cell? wr _ HD2.out)).trans HD2.out
        have HB8 : Hid (Below w7.heap.size w7 w8) := below_next HBr.out hb8 HBr.out.size
        clear hb8
        go_wp2
        go_roundw
        case rel => exact ⟨i + 1, by omega, by go_num, HB8.out⟩
        case measure => simp [intOf]; omega
      · obtain rfl : i = m := by omega
        have hd : decide ((i : Int) < (i : Int)) = false := by simp
        have HSr := Lib.hid (HS7.out.kept hbel)
        have HRr := Lib.hid (HR7.out.kept hbel)
        have HBW : Hid (Below w.heap.size w wr) := below_next HB7.out hbel HB7.out.size
        clear hbel hlt HBr HP7 HI7 HS7 HR7 HB7
        go_wp2_with fail
        refine (wsizes_any wr Y bp bq vS vZ _ _ _ _ HPr.out (by rw [sizesTo_len]; omega)).mono ?_
        rintro e w9 ⟨a9, rfl, hr9, hb9, -⟩
        rw [sizesTo_len] at hr9 ⊢
        have HR9 := Lib.hid hr9
        have HPz := Lib.hid (HPr.out.kept (KeepX.of_below hb9))
        have HIz := Lib.hid (HIr.out.kept hb9)
        have HSz := Lib.hid (HSr.out.kept hb9)
        have HRz := Lib.hid (HRr.out.kept hb9)
        have HBz : Hid (Below w.heap.size w w9) := below_next HBW.out hb9 HBW.out.size
        clear hr9 hb9 HPr HIr HSr HRr HBW
        have hixs := run_ix (P := Try.prog) 40 (by kernel_rfl) size_str ax ds.length cx HSz.out.at_ .i64
        have hix9 := run_ix (P := Try.prog) 30 (by kernel_rfl) size_int a9 ds.length ds.length HR9.out.at_ .i64
        have HXS := Lib.hid hixs
        have HX9 := Lib.hid hix9
        clear hixs hix9
        go_wp2_with fail
        go_loopw [19] (fun v19 wr => ∃ k : Nat, k ≤ ds.length ∧ v19 = .int .i64 (k : Int) ∧ ∃ q, wr = w9.drewN q) (fun v19 _ => ds.length - (intOf v19).toNat)
        case atStart => exact ⟨0, Nat.zero_le _, rfl, 0, rfl⟩
        case round =>
          obtain ⟨k, hk, rfl, q, rfl⟩ := hrel
          by_cases hlt : k < ds.length
          · have hx1 := fun W => HXS.out W k hlt
            have hx2 := fun W => HX9.out W k hlt
            have d1 : w9.cell? ⟨bOf ax, oOf ax + k, none⟩ = some (.string (sB (ds.getD k []))) := HSz.out.cell k hlt
            have d2 := HR9.out.cell k hlt
            have hv : natsV (sizesTo ds ds.length) k = .int .i64 (((ds.getD k []).length : Nat) : Int) := by unfold natsV; rw [sizesTo_at ds hlt]
            rw [hv] at d2
            have hsz : (sB (ds.getD k [])).size = (ds.getD k []).length := sB_size _
            have hlong := HOK.out.long _ (doc_mem hlt)
            clear hv
            generalize sB (ds.getD k []) = sd at *
            generalize (ds.getD k []).length = dl at *
            go_wp2_with fail
            go_quiet (fail)
            go_wp2
            go_roundw
            case rel => exact ⟨k + 1, by omega, by go_num, _, rfl⟩
            case measure => simp [intOf]; omega
          · obtain rfl : k = ds.length := by omega
            have hd2 : decide ((ds.length : Int) < (ds.length : Int)) = false := by simp
            have HPq := Lib.hid (HPz.out.kept (W' := w9.drewN q) (KeepX.of_below (below_drewN (Below.refl _ _) q)))
            have HIq := Lib.hid (HIz.out.drewN q)
            have HSq := Lib.hid (HSz.out.drewN q)
            have HRq := Lib.hid (HRz.out.drewN q)
            have HBq := Lib.hid (below_drewN HBz.out q)
            clear hlt HPz HIz HSz HRz HBz HR9 hk
            generalize w9.drewN q = wq at *
            by_cases hr0 : row < 0 ∨ (i : Int) ≤ row
            · have HAN := Lib.hid (watn_any wq bx bm al cl ds HOK.out HIq.out Y bp bq vS vZ _ _ _ HPq.out row HRW.out (by rw [← HM.out]; exact hr0))
              by_cases hrn : row < 0
              · clear hr0
                go_wp2_with fail
                refine HAN.out.mono ?_
                rintro e wn ⟨rfl, hbn⟩
                have HPn := Lib.hid (HPq.out.kept (KeepX.of_below hbn))
                have HSn := Lib.hid (HSq.out.kept hbn)
                have HRn := Lib.hid (HRq.out.kept hbn)
                have HBn : Hid (Below w.heap.size w wn) := below_next HBq.out hbn HBq.out.size
                clear hbn
                go_wp2_with fail
                refine (wrow_any wn ds HOK.out Y bp bq vS vZ _ _ HPn.out doc off HDW.out HOW.out).mono ?_
                rintro e w' ⟨rfl, (⟨j, o, ⟨rfl, rfl, hj, ho, ho32⟩, rfl⟩ | ⟨hno, rfl⟩)⟩
                · obtain ⟨h1, h2⟩ := rowP_at ds HFEW.out.byte j o hj ho
                  have d1 := HRn.out.c0 _ h1
                  have d2 := HRn.out.c1 _ h1
                  rw [h2] at d1 d2
                  simp only at d1 d2
                  have hx := fun W => HIX.out W (rowP ds j o) (by rw [HM.out]; exact h1)
                  have hixs := run_ix (P := Try.prog) 40 (by kernel_rfl) size_str ax ds.length cx HSn.out.at_ .i64
                  have hx2 := fun W => hixs W j hj
                  have d3 : World.cell? wn ⟨bOf ax, oOf ax + j, none⟩ = some (.string (sB (ds.getD j []))) := HSn.out.cell j hj
                  have hsz : (sB (ds.getD j [])).size = (ds.getD j []).length := sB_size _
                  have hlong := HOK.out.long _ (doc_mem hj)
                  generalize sB (ds.getD j []) = sd at *
                  generalize (ds.getD j []).length = dl at *
                  generalize rowP ds j o = r at *
                  have t1 : (j : Int) < (ds.length : Int) := by omega
                  have t2 : (o : Int) ≤ (dl : Int) := by omega
                  have t3 : ((o : Int) % 32 == 0) = true := by simp; omega
                  have t4 : (o : Int) % 32 = 0 := by omega
                  clear h1 h2 hixs t4
                  go_wp2_with (go_at_call 16; refine (awake13_any _).mono ?_; rintro e w8 ⟨rfl, hb8⟩)
                  go_ret
                  exact ⟨rfl, below_next HBn.out hb8 HBn.out.size⟩
                · by_cases c1 : doc < 0
                  · have t1 : decide (0 ≤ doc) = false := by simp; omega
                    clear hno
                    go_wp2_with (go_at_call 16; refine (awake13_any _).mono ?_; rintro e w8 ⟨rfl, hb8⟩)
                    go_ret
                    exact ⟨rfl, below_next HBn.out hb8 HBn.out.size⟩
                  · have t0 : (0 : Int) ≤ doc := by omega
                    by_cases c2 : doc < (ds.length : Int)
                    · by_cases c3 : off < 0
                      · have t1 : decide (0 ≤ off) = false := by simp; omega
                        clear hno
                        go_wp2_with (go_at_call 16; refine (awake13_any _).mono ?_; rintro e w8 ⟨rfl, hb8⟩)
                        go_ret
                        exact ⟨rfl, below_next HBn.out hb8 HBn.out.size⟩
                      · have t3 : (0 : Int) ≤ off := by omega
                        by_cases c4 : off % 32 = 0
                        · obtain ⟨j, rfl⟩ : ∃ j : Nat, doc = (j : Int) := ⟨doc.toNat, by omega⟩
                          obtain ⟨o, rfl⟩ : ∃ o : Nat, off = (o : Int) := ⟨off.toNat, by omega⟩
                          have hj : j < ds.length := by omega
                          have hol : ¬ o ≤ (ds.getD j []).length := fun h => hno j o ⟨rfl, rfl, hj, h, by omega⟩
                          have hixs := run_ix (P := Try.prog) 40 (by kernel_rfl) size_str ax ds.length cx HSn.out.at_ .i64
                          have hx2 := fun W => hixs W j hj
                          have d3 : World.cell? wn ⟨bOf ax, oOf ax + j, none⟩ = some (.string (sB (ds.getD j []))) := HSn.out.cell j hj
                          have hsz : (sB (ds.getD j [])).size = (ds.getD j []).length := sB_size _
                          have hlong := HOK.out.long _ (doc_mem hj)
                          generalize sB (ds.getD j []) = sd at *
                          generalize (ds.getD j []).length = dl at *
                          have t4 : ((o : Int) % 32 == 0) = true := by simp; omega
                          have t5 : decide (o ≤ dl) = false := by simp; omega
                          have t6 : decide ((o : Int) ≤ (dl : Int)) = false := by simp; omega
                          clear hno hixs c4 hol
                          go_wp2_with (go_at_call 16; refine (awake13_any _).mono ?_; rintro e w8 ⟨rfl, hb8⟩)
                          go_ret
                          exact ⟨rfl, below_next HBn.out hb8 HBn.out.size⟩
                        · have t4 : (off % 32 == 0) = false := by simp; omega
                          have t5 : (off.tmod 32 == 0) = false := by rw [Int.tmod_eq_emod_of_nonneg t3]; exact t4
                          clear hno
                          go_wp2_with (go_at_call 16; refine (awake13_any _).mono ?_; rintro e w8 ⟨rfl, hb8⟩)
                          go_ret
                          exact ⟨rfl, below_next HBn.out hb8 HBn.out.size⟩
                    · have t1 : decide (doc < (ds.length : Int)) = false := by simp; omega
                      clear hno
                      go_wp2_with (go_at_call 16; refine (awake13_any _).mono ?_; rintro e w8 ⟨rfl, hb8⟩)
                      go_ret
                      exact ⟨rfl, below_next HBn.out hb8 HBn.out.size⟩
              · have hrg : (i : Int) ≤ row := by omega
                have hrn2 : decide (row < 0) = false := by simp; omega
                clear hr0
                go_wp2_with fail
                refine HAN.out.mono ?_
                rintro e wn ⟨rfl, hbn⟩
                have HPn := Lib.hid (HPq.out.kept (KeepX.of_below hbn))
                have HSn := Lib.hid (HSq.out.kept hbn)
                have HRn := Lib.hid (HRq.out.kept hbn)
                have HBn : Hid (Below w.heap.size w wn) := below_next HBq.out hbn HBq.out.size
                clear hbn
                go_wp2_with fail
                refine (wrow_any wn ds HOK.out Y bp bq vS vZ _ _ HPn.out doc off HDW.out HOW.out).mono ?_
                rintro e w' ⟨rfl, (⟨j, o, ⟨rfl, rfl, hj, ho, ho32⟩, rfl⟩ | ⟨hno, rfl⟩)⟩
                · obtain ⟨h1, h2⟩ := rowP_at ds HFEW.out.byte j o hj ho
                  have d1 := HRn.out.c0 _ h1
                  have d2 := HRn.out.c1 _ h1
                  rw [h2] at d1 d2
                  simp only at d1 d2
                  have hx := fun W => HIX.out W (rowP ds j o) (by rw [HM.out]; exact h1)
                  have hixs := run_ix (P := Try.prog) 40 (by kernel_rfl) size_str ax ds.length cx HSn.out.at_ .i64
                  have hx2 := fun W => hixs W j hj
                  have d3 : World.cell? wn ⟨bOf ax, oOf ax + j, none⟩ = some (.string (sB (ds.getD j []))) := HSn.out.cell j hj
                  have hsz : (sB (ds.getD j [])).size = (ds.getD j []).length := sB_size _
                  have hlong := HOK.out.long _ (doc_mem hj)
                  generalize sB (ds.getD j []) = sd at *
                  generalize (ds.getD j []).length = dl at *
                  generalize rowP ds j o = r at *
                  have t1 : (j : Int) < (ds.length : Int) := by omega
                  have t2 : (o : Int) ≤ (dl : Int) := by omega
                  have t3 : ((o : Int) % 32 == 0) = true := by simp; omega
                  have t4 : (o : Int) % 32 = 0 := by omega
                  clear h1 h2 hixs t4
                  go_wp2_with (go_at_call 16; refine (awake13_any _).mono ?_; rintro e w8 ⟨rfl, hb8⟩)
                  go_ret
                  exact ⟨rfl, below_next HBn.out hb8 HBn.out.size⟩
                · by_cases c1 : doc < 0
                  · have t1 : decide (0 ≤ doc) = false := by simp; omega
                    clear hno
                    go_wp2_with (go_at_call 16; refine (awake13_any _).mono ?_; rintro e w8 ⟨rfl, hb8⟩)
                    go_ret
                    exact ⟨rfl, below_next HBn.out hb8 HBn.out.size⟩
                  · have t0 : (0 : Int) ≤ doc := by omega
                    by_cases c2 : doc < (ds.length : Int)
                    · by_cases c3 : off < 0
                      · have t1 : decide (0 ≤ off) = false := by simp; omega
                        clear hno
                        go_wp2_with (go_at_call 16; refine (awake13_any _).mono ?_; rintro e w8 ⟨rfl, hb8⟩)
                        go_ret
                        exact ⟨rfl, below_next HBn.out hb8 HBn.out.size⟩
                      · have t3 : (0 : Int) ≤ off := by omega
                        by_cases c4 : off % 32 = 0
                        · obtain ⟨j, rfl⟩ : ∃ j : Nat, doc = (j : Int) := ⟨doc.toNat, by omega⟩
                          obtain ⟨o, rfl⟩ : ∃ o : Nat, off = (o : Int) := ⟨off.toNat, by omega⟩
                          have hj : j < ds.length := by omega
                          have hol : ¬ o ≤ (ds.getD j []).length := fun h => hno j o ⟨rfl, rfl, hj, h, by omega⟩
                          have hixs := run_ix (P := Try.prog) 40 (by kernel_rfl) size_str ax ds.length cx HSn.out.at_ .i64
                          have hx2 := fun W => hixs W j hj
                          have d3 : World.cell? wn ⟨bOf ax, oOf ax + j, none⟩ = some (.string (sB (ds.getD j []))) := HSn.out.cell j hj
                          have hsz : (sB (ds.getD j [])).size = (ds.getD j []).length := sB_size _
                          have hlong := HOK.out.long _ (doc_mem hj)
                          generalize sB (ds.getD j []) = sd at *
                          generalize (ds.getD j []).length = dl at *
                          have t4 : ((o : Int) % 32 == 0) = true := by simp; omega
                          have t5 : decide (o ≤ dl) = false := by simp; omega
                          have t6 : decide ((o : Int) ≤ (dl : Int)) = false := by simp; omega
                          clear hno hixs c4 hol
                          go_wp2_with (go_at_call 16; refine (awake13_any _).mono ?_; rintro e w8 ⟨rfl, hb8⟩)
                          go_ret
                          exact ⟨rfl, below_next HBn.out hb8 HBn.out.size⟩
                        · have t4 : (off % 32 == 0) = false := by simp; omega
                          have t5 : (off.tmod 32 == 0) = false := by rw [Int.tmod_eq_emod_of_nonneg t3]; exact t4
                          clear hno
                          go_wp2_with (go_at_call 16; refine (awake13_any _).mono ?_; rintro e w8 ⟨rfl, hb8⟩)
                          go_ret
                          exact ⟨rfl, below_next HBn.out hb8 HBn.out.size⟩
                    · have t1 : decide (doc < (ds.length : Int)) = false := by simp; omega
                      clear hno
                      go_wp2_with (go_at_call 16; refine (awake13_any _).mono ?_; rintro e w8 ⟨rfl, hb8⟩)
                      go_ret
                      exact ⟨rfl, below_next HBn.out hb8 HBn.out.size⟩
            · have hrn2 : decide (row < 0) = false := by simp; omega
              have hrg2 : decide ((i : Int) ≤ row) = false := by simp; omega
              clear hr0
              go_wp2_with fail
              refine (wrow_any wq ds HOK.out Y bp bq vS vZ _ _ HPq.out doc off HDW.out HOW.out).mono ?_
              rintro e w' ⟨rfl, (⟨j, o, ⟨rfl, rfl, hj, ho, ho32⟩, rfl⟩ | ⟨hno, rfl⟩)⟩
              · obtain ⟨h1, h2⟩ := rowP_at ds HFEW.out.byte j o hj ho
                have d1 := HRq.out.c0 _ h1
                have d2 := HRq.out.c1 _ h1
                rw [h2] at d1 d2
                simp only at d1 d2
                have hx := fun W => HIX.out W (rowP ds j o) (by rw [HM.out]; exact h1)
                have hixs := run_ix (P := Try.prog) 40 (by kernel_rfl) size_str ax ds.length cx HSq.out.at_ .i64
                have hx2 := fun W => hixs W j hj
                have d3 : World.cell? wq ⟨bOf ax, oOf ax + j, none⟩ = some (.string (sB (ds.getD j []))) := HSq.out.cell j hj
                have hsz : (sB (ds.getD j [])).size = (ds.getD j []).length := sB_size _
                have hlong := HOK.out.long _ (doc_mem hj)
                generalize sB (ds.getD j []) = sd at *
                generalize (ds.getD j []).length = dl at *
                generalize rowP ds j o = r at *
                have t1 : (j : Int) < (ds.length : Int) := by omega
                have t2 : (o : Int) ≤ (dl : Int) := by omega
                have t3 : ((o : Int) % 32 == 0) = true := by simp; omega
                have t4 : (o : Int) % 32 = 0 := by omega
                clear h1 h2 hixs t4
                go_wp2_with (go_at_call 16; refine (awake13_any _).mono ?_; rintro e w8 ⟨rfl, hb8⟩)
                go_ret
                exact ⟨rfl, below_next HBq.out hb8 HBq.out.size⟩
              · by_cases c1 : doc < 0
                · have t1 : decide (0 ≤ doc) = false := by simp; omega
                  clear hno
                  go_wp2_with (go_at_call 16; refine (awake13_any _).mono ?_; rintro e w8 ⟨rfl, hb8⟩)
                  go_ret
                  exact ⟨rfl, below_next HBq.out hb8 HBq.out.size⟩
                · have t0 : (0 : Int) ≤ doc := by omega
                  by_cases c2 : doc < (ds.length : Int)
                  · by_cases c3 : off < 0
                    · have t1 : decide (0 ≤ off) = false := by simp; omega
                      clear hno
                      go_wp2_with (go_at_call 16; refine (awake13_any _).mono ?_; rintro e w8 ⟨rfl, hb8⟩)
                      go_ret
                      exact ⟨rfl, below_next HBq.out hb8 HBq.out.size⟩
                    · have t3 : (0 : Int) ≤ off := by omega
                      by_cases c4 : off % 32 = 0
                      · obtain ⟨j, rfl⟩ : ∃ j : Nat, doc = (j : Int) := ⟨doc.toNat, by omega⟩
                        obtain ⟨o, rfl⟩ : ∃ o : Nat, off = (o : Int) := ⟨off.toNat, by omega⟩
                        have hj : j < ds.length := by omega
                        have hol : ¬ o ≤ (ds.getD j []).length := fun h => hno j o ⟨rfl, rfl, hj, h, by omega⟩
                        have hixs := run_ix (P := Try.prog) 40 (by kernel_rfl) size_str ax ds.length cx HSq.out.at_ .i64
                        have hx2 := fun W => hixs W j hj
                        have d3 : World.cell? wq ⟨bOf ax, oOf ax + j, none⟩ = some (.string (sB (ds.getD j []))) := HSq.out.cell j hj
                        have hsz : (sB (ds.getD j [])).size = (ds.getD j []).length := sB_size _
                        have hlong := HOK.out.long _ (doc_mem hj)
                        generalize sB (ds.getD j []) = sd at *
                        generalize (ds.getD j []).length = dl at *
                        have t4 : ((o : Int) % 32 == 0) = true := by simp; omega
                        have t5 : decide (o ≤ dl) = false := by simp; omega
                        have t6 : decide ((o : Int) ≤ (dl : Int)) = false := by simp; omega
                        clear hno hixs c4 hol
                        go_wp2_with (go_at_call 16; refine (awake13_any _).mono ?_; rintro e w8 ⟨rfl, hb8⟩)
                        go_ret
                        exact ⟨rfl, below_next HBq.out hb8 HBq.out.size⟩
                      · have t4 : (off % 32 == 0) = false := by simp; omega
                        have t5 : (off.tmod 32 == 0) = false := by rw [Int.tmod_eq_emod_of_nonneg t3]; exact t4
                        clear hno
                        go_wp2_with (go_at_call 16; refine (awake13_any _).mono ?_; rintro e w8 ⟨rfl, hb8⟩)
                        go_ret
                        exact ⟨rfl, below_next HBq.out hb8 HBq.out.size⟩
                  · have t1 : decide (doc < (ds.length : Int)) = false := by simp; omega
                    clear hno
                    go_wp2_with (go_at_call 16; refine (awake13_any _).mono ?_; rintro e w8 ⟨rfl, hb8⟩)
                    go_ret
                    exact ⟨rfl, below_next HBq.out hb8 HBq.out.size⟩
end Go.Proofs.Ytjpoebmjfedecaa
