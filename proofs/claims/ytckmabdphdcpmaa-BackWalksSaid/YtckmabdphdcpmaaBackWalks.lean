/-
  The statement BackWalks: its walk.
-/
import Derived.Test.YtckmabdphdcpmaaBackWalkLaw
import Derived.Test.YtckmabdphdcpmaaRefRange
import Derived.Test.YtckmabdphdcpmaaSameInts
namespace Go.Proofs.Ytckmabdphdcpmaa
open Go.RowKit

/-- Steps from a row lead through the places ahead -/
theorem way_row (ds : List (List Nat)) (hb : ∀ d ∈ ds, ∀ c ∈ d, c < 256) (r d off : Nat) (hr : r < (rowsR ds).length) (he : (rowsR ds).getD r (0, 0) = (d, off)) : ∀ q, q ≤ off →
    itL (bwtOf ds) r q < (rowsR ds).length ∧ (rowsR ds).getD (itL (bwtOf ds) r q) (0, 0) = (d, off - q)
  | 0, _ => ⟨hr, by rw [itL_zero, he]; rfl⟩
  | q + 1, hq => by
    obtain ⟨h1, h2⟩ := way_row ds hb r d off hr he q (by omega)
    have hL := bwt_row ds _ h1
    rw [h2] at hL
    simp only at hL
    rw [if_neg (by omega)] at hL
    obtain ⟨g1, _, g3⟩ := row_step ds hb _ h1 (by rw [hL]; omega)
    rw [itL_succ]
    refine ⟨g1, ?_⟩
    rw [g3, h2]
    show (d, off - q - 1) = (d, off - (q + 1))
    rw [Nat.sub_sub]
theorem way_sym (ds : List (List Nat)) (hb : ∀ d ∈ ds, ∀ c ∈ d, c < 256) (r d off : Nat) (hr : r < (rowsR ds).length) (he : (rowsR ds).getD r (0, 0) = (d, off)) (q : Nat) (hq : q ≤ off) :
    (bwtOf ds).getD (itL (bwtOf ds) r q) 0 = if q < off then (ds.getD d []).getD (off - 1 - q) 0 + 1 else 0 := by
  obtain ⟨h1, h2⟩ := way_row ds hb r d off hr he q hq
  rw [bwt_row ds _ h1, h2]
  simp only
  by_cases c : q < off
  · rw [if_neg (by omega), if_pos c, show off - q - 1 = off - 1 - q by omega]
  · rw [if_pos (by omega), if_neg c]
theorem way_ends (ds : List (List Nat)) (hb : ∀ d ∈ ds, ∀ c ∈ d, c < 256) (r d off : Nat) (hr : r < (rowsR ds).length) (he : (rowsR ds).getD r (0, 0) = (d, off)) : EndsL (bwtOf ds) r off :=
  ⟨fun q hq => by rw [way_sym ds hb r d off hr he q (by omega), if_pos hq]; omega, by rw [way_sym ds hb r d off hr he off (Nat.le_refl _), if_neg (by omega)]⟩
theorem wkTo_at (L : List Nat) (r : Nat) {k n : Nat} (h : k < n) : (wkTo L r n)[k]? = some (itL L r (k + 1), byF (L.getD (itL L r k) 0 - 1)) := by
  have h1 := wkTo_take L r (show k + 1 ≤ n by omega)
  have h2 := congrArg (fun l => l[k]?) h1
  simp only [List.getElem?_take_of_lt (show k < k + 1 by omega)] at h2
  rw [h2, wkTo_succ, List.getElem?_append_right (by rw [wkTo_len]; exact Nat.le_refl _), wkTo_len]
  simp
theorem bytsW_at (L : List Nat) (r : Nat) {k n : Nat} (h : k < n) : (bytsW (wkTo L r n)).getD k 0 = (byF (L.getD (itL L r k) 0 - 1)).val := by
  unfold bytsW; rw [List.getD_eq_getElem?_getD, List.getElem?_map, wkTo_at L r h]; rfl
theorem bytsW_lt (l : List (Nat × Fin 256)) : ∀ c ∈ bytsW l, c < 256 := fun c hc => by
  unfold bytsW at hc
  obtain ⟨y, _, rfl⟩ := List.mem_map.1 hc
  exact y.2.isLt
theorem rowsW_row {w : World} {base cap n : Nat} {a : Option Addr} {L : List Nat} {r : Nat} (h : w.ownsRow base 3 1 (.slice a n cap) n (rowsW (wkTo L r n))) : Row w a n (fun k => .int .i64 ((itL L r (k + 1) : Nat) : Int)) := by
  refine (owns_row h).1.congr fun k hk => ?_
  rw [List.getD_eq_getElem?_getD]
  unfold rowsW
  rw [List.getElem?_map, wkTo_at L r hk]; rfl
theorem cut_toI (a : Option Addr) (n cap k : Nat) (h : k ≤ n) (hc : n ≤ cap) (h1 : n = 0 ∨ a = some ⟨bOf a, oOf a, none⟩) (h0 : a = none → cap = 0) : ∀ W : World, (Instr.slice 50 (.slice a n cap) none (some (.int .i64 (k : Int))) none).run Try.prog W = .ok (.slice a k cap) W := by
  intro W
  cases a with
  | none =>
    obtain rfl : cap = 0 := h0 rfl
    obtain rfl : n = 0 := by omega
    obtain rfl : k = 0 := by omega
    simp [Instr.slice, run_underlying Try.underlying50, Instr.sliceBounds, run_sliceBound]
  | some ad =>
    simp [Instr.slice, run_underlying Try.underlying50, Instr.sliceBounds, run_sliceBound, show (0 : Int) ≤ k by omega, show (k : Int) ≤ cap by omega]
    intro _
    cases ad
    simp [Addr.add]
theorem cut_toS (s : ByteArray) (k : Nat) (h : k ≤ s.size) : ∀ W : World, (Instr.slice 9 (.string s) none (some (.int .i64 (k : Int))) none).run Try.prog W = .ok (.string (s.extract 0 k)) W := by
  intro W
  simp [Instr.slice, run_underlying Try.underlying9, Instr.sliceBounds, run_sliceBound, show (0 : Int) ≤ k by omega, show (k : Int) ≤ s.size by omega]
set_option maxRecDepth 100000 in
set_option maxHeartbeats 4000000 in
theorem bwalks_walk (w : World) (a : Option Addr) (cap : Nat) (A : Nat → Option Addr) (C : Nat → Nat) (ds : List (List Nat)) (hin : DocsIn w a A C ds) (i : Int) (hiw : (Lit.int .i64 i).wf = true) (most : Int) (_ : (Lit.int .i64 most).wf = true) :
    Calls Try.prog 7 #[.slice a ds.length cap, .int .i64 i, .int .i64 most] w fun e w' => e = .returned (.bool true) ∧ Below w.heap.size w w' := by
  have hib := bounds_i64 hiw
  have HF := Lib.hid (few_any w a cap A C ds hin.many hin.docs hin.long)
  have HIN := Lib.hid hin
  clear hin hiw
  go_enter Try.func7, Try.ntmps7
  go_wp2_with fail
  refine HF.out.mono ?_
  rintro e w' ⟨b, rfl, hfew, rfl⟩
  cases b with
  | false =>
    clear hfew
    go_wp2_with (go_at_call 9; refine (awake12_any _).mono ?_; rintro e w1 ⟨rfl, hb⟩)
    go_ret
    exact ⟨rfl, hb⟩
  | true =>
    obtain ⟨hf1, hf2, hf3⟩ := hfew rfl
    have HFEW := Lib.hid (FewP.mk hf1 hf2 hf3 HIN.out.byte)
    clear hfew hf2 HF
    have HOK := Lib.hid HFEW.out.ok
    go_wp2_with fail
    refine (bmade_any w a cap A C ds HIN.out.docs HOK.out).mono ?_
    rintro e w1 ⟨bx, bm, al, cl, rfl, hi, hb1, hlo⟩
    have HI1 := Lib.hid hi
    have HB1 := Lib.hid hb1
    clear hi hb1 hlo
    go_wp2_with fail
    refine (strings_any w1 a cap A C ds (by omega) (HIN.out.docs.kept HB1.out)).mono ?_
    rintro e w2 ⟨ax, cx, rfl, hrs, hb2⟩
    have HS2 := Lib.hid hrs
    have HB2 : Hid (Below w.heap.size w w2) := below_next HB1.out hb2 HB1.out.size
    have HI2 := Lib.hid (HI1.out.kept hb2)
    clear hrs hb2 HB1 HI1
    go_wp2_with fail
    refine (rows_any w2 ax cx ds HS2.out HFEW.out.byte (by omega)).mono ?_
    rintro e w3 ⟨ar, cr, rfl, hcr, hrr, hb3⟩
    have HR3 := Lib.hid hrr
    have HS3 := Lib.hid (HS2.out.kept hb3)
    have HB3 : Hid (Below w.heap.size w w3) := below_next HB2.out hb3 HB2.out.size
    have HI3 := Lib.hid (HI2.out.kept hb3)
    have hRL : (rowsR ds).length = (bwtOf ds).length := by rw [rows_len, bwtOf_len]
    have hLl : (rowsR ds).length ≤ 3040 := by rw [rows_len]; exact hf3
    have HRL := Lib.hid hRL
    have em : bits .and .i64 most 15 = most % 16 := i64_mask most 4 (by omega)
    obtain ⟨mo, hmo, hmo2⟩ : ∃ mo : Nat, most % 16 = mo ∧ mo ≤ 15 := ⟨(most % 16).toNat, by omega, by omega⟩
    rw [hmo] at em
    clear hrr hb3 HS2 HB2 HI2 hRL hmo
    by_cases hin2 : 0 ≤ i ∧ i < ((rowsR ds).length : Int)
    · obtain ⟨r, hr⟩ : ∃ r : Nat, i = (r : Int) := ⟨i.toNat, by omega⟩
      subst hr
      have hrl : r < (rowsR ds).length := by omega
      obtain ⟨d, off, hdo⟩ : ∃ d off, (rowsR ds).getD r (0, 0) = (d, off) := ⟨_, _, rfl⟩
      have HDO := Lib.hid hdo
      have hv := rows_at ds r hrl
      rw [hdo] at hv
      obtain ⟨hv1, hv2⟩ := hv
      simp only at hv1 hv2
      have hol : off < (rowsR ds).length := by
        have := place_lt ds d _ hv1 (Nat.le_refl _)
        rw [rows_len]; omega
      have HWK : Hid (WkOf (bwtOf ds) (r : Int) (wkTo (bwtOf ds) r off)) := .inl ⟨r, off, rfl, by rw [← HRL.out]; exact hrl, way_ends ds HFEW.out.byte r d off hrl hdo, by rw [← HRL.out]; exact hol, rfl⟩
      clear hdo hin2
      go_wp2_with fail
      refine (lwalk_any w3 bx bm al cl _ HI3.out (by rw [← HRL.out]; omega) (r : Int) _ HWK.out 100000 (by omega)).mono ?_
      rintro e w4 ⟨v10, m4, rfl, hm4, ho4, hb4⟩
      rw [wkTo_len] at hm4
      obtain rfl : m4 = off := by omega
      rw [wkTo_take _ _ (Nat.le_refl _)] at ho4 ⊢
      obtain ⟨a10, c10, rfl, hc10, hn10, -⟩ := owns_clip ho4
      have HR10 := Lib.hid (rowsW_row ho4)
      have HR4 := Lib.hid (HR3.out.kept hb4)
      have HS4 := Lib.hid (HS3.out.kept hb4)
      have HI4 := Lib.hid (HI3.out.kept hb4)
      have HB4 : Hid (Below w.heap.size w w4) := below_next HB3.out hb4 HB3.out.size
      clear ho4 hb4 HR3 HS3 HI3 HB3 hm4
      have hixr := run_ix2 (P := Try.prog) 42 (by kernel_rfl) size_hit ar (rowsR ds).length cr HR4.out.at_
      have t0 : decide ((r : Int) < 0) = false := by simp
      have t1 : decide (((rowsR ds).length : Int) ≤ (r : Int)) = false := by simp; omega
      have t2 : decide ((rowsR ds).length ≤ r) = false := by simp; omega
      have e0 : w4.cell? ⟨bOf ar, oOf ar + 2 * r, none⟩ = some (.int .i64 ((d : Nat) : Int)) := (HR4.out.c0 r hrl).trans (by rw [HDO.out])
      have e1 : w4.cell? ⟨bOf ar, oOf ar + 2 * r + 1, none⟩ = some (.int .i64 ((m4 : Nat) : Int)) := (HR4.out.c1 r hrl).trans (by rw [HDO.out])
      have hsb : (sB (bytsW (wkTo (bwtOf ds) r m4))).size = m4 := by rw [sB_size, bytsW_len, wkTo_len]
      have hx := fun W => hixr W r hrl
      generalize hsg : sB (bytsW (wkTo (bwtOf ds) r m4)) = sg at *
      have HSG := Lib.hid hsg
      have HSZ := Lib.hid hsb
      clear hsg hsb
      have u1 : ((sg.size : Int) != (m4 : Int)) = false := by rw [HSZ.out]; simp
      have u2 : (sg.size != m4) = false := by rw [HSZ.out]; simp
      have f0 : (w4.alloc (.cells #[.int .i64 ((d : Nat) : Int), .int .i64 ((m4 : Nat) : Int)] 54)).cell? ⟨w4.heap.size, 0, none⟩ = some (.int .i64 ((d : Nat) : Int)) := by simp only [World.cell?, World.alloc_heap_new]; rfl
      have f1 : (w4.alloc (.cells #[.int .i64 ((d : Nat) : Int), .int .i64 ((m4 : Nat) : Int)] 54)).cell? ⟨w4.heap.size, 1, none⟩ = some (.int .i64 ((m4 : Nat) : Int)) := by simp only [World.cell?, World.alloc_heap_new]; rfl
      have HF0 := Lib.hid f0
      have HF1 := Lib.hid f1
      have HB5 : Hid (Below w4.heap.size w4 (w4.alloc (.cells #[.int .i64 ((d : Nat) : Int), .int .i64 ((m4 : Nat) : Int)] 54))) := (Below.refl _ _).alloc (Nat.le_refl _) _
      clear f0 f1
      go_wp2_with fail
      clear u1 u2 t0 t1 t2 e0 e1 hx
      generalize w4.alloc (.cells #[.int .i64 ((d : Nat) : Int), .int .i64 ((m4 : Nat) : Int)] 54) = w5 at *
      have HR5 := Lib.hid (HR4.out.kept HB5.out)
      have HS5 := Lib.hid (HS4.out.kept HB5.out)
      have HI5 := Lib.hid (HI4.out.kept HB5.out)
      have HX5 := Lib.hid (HR10.out.kept HB5.out)
      have HBw : Hid (Below w.heap.size w w5) := below_next HB4.out HB5.out HB4.out.size
      clear HR4 HS4 HI4 HB4 HB5 HR10 HIN HOK
      have hixs := run_ix (P := Try.prog) 38 (by kernel_rfl) size_str ax ds.length cx HS5.out.at_ .i64
      have hixa := run_ix (P := Try.prog) 50 (by kernel_rfl) size_int a10 m4 c10 HX5.out.at_ .i64
      have HXS := Lib.hid hixs
      have HXA := Lib.hid hixa
      have HXR := Lib.hid hixr
      clear hixs hixa hixr
      go_loopw [13] (fun v13 wr => ∃ k : Nat, k ≤ m4 ∧ v13 = .int .i64 (k : Int) ∧ ∃ q, wr = w5.drewN q) (fun v13 _ => m4 - (intOf v13).toNat)
      case atStart => exact ⟨0, Nat.zero_le _, rfl, 0, rfl⟩
      case round =>
        obtain ⟨k, hk, rfl, q, rfl⟩ := hrel
        have g0 : w5.cell? ⟨w4.heap.size, 0, none⟩ = some (.int .i64 ((d : Nat) : Int)) := HF0.out
        have g1 : w5.cell? ⟨w4.heap.size, 1, none⟩ = some (.int .i64 ((m4 : Nat) : Int)) := HF1.out
        by_cases hlt : k < m4
        · have hby : (ds.getD d []) ∈ ds := by rw [List.getD_eq_getElem?_getD, List.getElem?_eq_getElem hv1]; exact List.getElem_mem hv1
          have hbd := HFEW.out.byte _ hby
          have hsy := way_sym ds HFEW.out.byte r d m4 hrl HDO.out k (by omega)
          rw [if_pos hlt] at hsy
          obtain ⟨hrow2, hat2⟩ := way_row ds HFEW.out.byte r d m4 hrl HDO.out (k + 1) (by omega)
          have hbb : (bytsW (wkTo (bwtOf ds) r m4)).getD k 0 = (ds.getD d []).getD (m4 - 1 - k) 0 := by
            rw [bytsW_at _ _ hlt, hsy, Nat.add_sub_cancel]
            have := hbd _ (getD_mem' (show m4 - 1 - k < (ds.getD d []).length by omega))
            have := byF_val _ this
            omega
          have hi1 : ∀ W, (Instr.index 9 (.string sg) (.int .i64 (k : Int))).run Try.prog W = .ok (.int .u8 (((ds.getD d []).getD (m4 - 1 - k) 0 : Nat) : Int)) W := fun W => by
            rw [← HSG.out, run_indexB Try.prog W 9 Try.underlying9 _ (bytsW_lt _) k (by rw [bytsW_len, wkTo_len]; exact hlt), hbb]
          have hi2 : ∀ W, (Instr.index 9 (.string (sB (ds.getD d []))) (.int .i64 ((m4 - 1 - k : Nat) : Int))).run Try.prog W = .ok (.int .u8 (((ds.getD d []).getD (m4 - 1 - k) 0 : Nat) : Int)) W := fun W =>
            run_indexB Try.prog W 9 Try.underlying9 _ hbd (m4 - 1 - k) (by omega)
          have hi3 := fun W => HXS.out W d hv1
          have hi4 := fun W => HXA.out W k hlt
          have d1 : w5.cell? ⟨bOf ax, oOf ax + d, none⟩ = some (.string (sB (ds.getD d []))) := (HS5.out.cell d hv1)
          have d2 : w5.cell? ⟨bOf a10, oOf a10 + k, none⟩ = some (.int .i64 ((itL (bwtOf ds) r (k + 1) : Nat) : Int)) := HX5.out.cell k hlt
          have d3 := HR5.out.c0 _ hrow2
          have d4 := HR5.out.c1 _ hrow2
          rw [hat2] at d3 d4
          have hi5 := fun W => HXR.out W _ hrow2
          simp only at d3 d4
          rw [show m4 - (k + 1) = m4 - 1 - k by omega] at d4
          have y1 : IntKind.i64.wrap ((m4 : Int) - 1) = (m4 : Int) - 1 := IntWalk.i64_in _ (by omega)
          have y2 : IntKind.i64.wrap ((m4 : Int) - 1 - (k : Int)) = ((m4 - 1 - k : Nat) : Int) := by rw [show (m4 : Int) - 1 - (k : Int) = ((m4 - 1 - k : Nat) : Int) by omega]; exact IntWalk.i64_in _ (by omega)
          have y3 : decide (((itL (bwtOf ds) r (k + 1) : Nat) : Int) < 0) = false := by simp
          have y5 : decide ((rowsR ds).length ≤ itL (bwtOf ds) r (k + 1)) = false := by simp; omega
          have y4 : decide (((rowsR ds).length : Int) ≤ ((itL (bwtOf ds) r (k + 1) : Nat) : Int)) = false := by simp; omega
          clear hbb hsy hbd hby hat2
          generalize (ds.getD d []).getD (m4 - 1 - k) 0 = cc at *
          generalize sB (ds.getD d []) = sd at *
          generalize itL (bwtOf ds) r (k + 1) = r2 at *
          generalize m4 - 1 - k = j at *
          go_wp2_with fail
          go_quiet (fail)
          go_wp2
          go_roundw
          case rel => exact ⟨k + 1, by omega, by go_num, _, rfl⟩
          case measure => simp [intOf]; omega
        · obtain rfl : k = m4 := by omega
          have hkd : decide ((k : Int) < (k : Int)) = false := by simp
          have HBq : Hid (Below w5.heap.size w5 (w5.drewN q)) := below_drewN (Below.refl _ _) q
          have HF1q : (w5.drewN q).cell? ⟨w4.heap.size, 1, none⟩ = some (.int .i64 ((k : Nat) : Int)) := HF1.out
          by_cases hmk : mo ≤ k
          · have hmk2 : (mo : Int) ≤ (k : Int) := by omega
            have hnn : min mo k = mo := by omega
            have hnk : mo ≤ k := by omega
            have hcs := cut_toS sg mo (by rw [HSZ.out]; omega)
            rw [← HSG.out, sB_take, show (bytsW (wkTo (bwtOf ds) r k)).take mo = bytsW (wkTo (bwtOf ds) r mo) by unfold bytsW; rw [← List.map_take, wkTo_take _ _ hnk], HSG.out] at hcs
            have hci := cut_toI a10 k c10 mo hnk hc10 HX5.out.at_ hn10
            have HWL := Lib.hid (lwalk_any (w5.drewN q) bx bm al cl _ (HI5.out.kept HBq.out) (by rw [← HRL.out]; omega) (r : Int) _ HWK.out mo (by omega))
            have HNN := Lib.hid hnn
            clear hnn
            go_wp2_with fail
            refine HWL.out.mono ?_
            rintro e w6 ⟨v15, m6, rfl, hm6, ho6, hb6⟩
            rw [wkTo_len, HNN.out] at hm6
            obtain rfl : mo = m6 := hm6.symm
            rw [wkTo_take _ _ hnk] at ho6 ⊢
            obtain ⟨a15, c15, rfl, hc15, hn15, -⟩ := owns_clip ho6
            have HR15 := Lib.hid (rowsW_row ho6)
            have HX6 := Lib.hid ((HX5.out.kept (HBq.out)).kept hb6)
            have HB6 : Hid (Below w.heap.size w w6) := below_next (below_drewN HBw.out q) hb6 (by exact HBw.out.size)
            have HSI := Lib.hid (same_yes w6 a15 a10 mo c15 c10 (fun k => ((itL (bwtOf ds) r (k + 1) : Nat) : Int)) (by omega) HR15.out (HX6.out.take hnk))
            clear ho6 hb6
            generalize sB (bytsW (wkTo (bwtOf ds) r mo)) = s6 at *
            go_wp2_with (first
              | (go_at_call 26; refine HSI.out.mono ?_; rintro e w' ⟨rfl, q2, rfl⟩)
              | (go_at_call 9; refine (awake12_any _).mono ?_; rintro e w8 ⟨rfl, hb8⟩))
            go_ret
            exact ⟨rfl, below_next (below_drewN HB6.out q2) hb8 HB6.out.size⟩
          · have hmk2 : ¬ (mo : Int) ≤ (k : Int) := by omega
            have hmk3 : (k : Int) < (mo : Int) := by omega
            have hnn : min mo k = k := by omega
            have hnk : k ≤ k := by omega
            have hcs := cut_toS sg k (by rw [HSZ.out]; omega)
            rw [← HSG.out, sB_take, show (bytsW (wkTo (bwtOf ds) r k)).take k = bytsW (wkTo (bwtOf ds) r k) by unfold bytsW; rw [← List.map_take, wkTo_take _ _ hnk], HSG.out] at hcs
            have hci := cut_toI a10 k c10 k hnk hc10 HX5.out.at_ hn10
            have HWL := Lib.hid (lwalk_any (w5.drewN q) bx bm al cl _ (HI5.out.kept HBq.out) (by rw [← HRL.out]; omega) (r : Int) _ HWK.out mo (by omega))
            have HNN := Lib.hid hnn
            clear hnn
            go_wp2_with fail
            refine HWL.out.mono ?_
            rintro e w6 ⟨v15, m6, rfl, hm6, ho6, hb6⟩
            rw [wkTo_len, HNN.out] at hm6
            obtain rfl : k = m6 := hm6.symm
            rw [wkTo_take _ _ hnk] at ho6 ⊢
            obtain ⟨a15, c15, rfl, hc15, hn15, -⟩ := owns_clip ho6
            have HR15 := Lib.hid (rowsW_row ho6)
            have HX6 := Lib.hid ((HX5.out.kept (HBq.out)).kept hb6)
            have HB6 : Hid (Below w.heap.size w w6) := below_next (below_drewN HBw.out q) hb6 (by exact HBw.out.size)
            have HSI := Lib.hid (same_yes w6 a15 a10 k c15 c10 (fun k => ((itL (bwtOf ds) r (k + 1) : Nat) : Int)) (by omega) HR15.out (HX6.out.take hnk))
            clear ho6 hb6
            rw [HSG.out]
            go_wp2_with (first
              | (go_at_call 26; refine HSI.out.mono ?_; rintro e w' ⟨rfl, q2, rfl⟩)
              | (go_at_call 9; refine (awake12_any _).mono ?_; rintro e w8 ⟨rfl, hb8⟩))
            go_ret
            exact ⟨rfl, below_next (below_drewN HB6.out q2) hb8 HB6.out.size⟩
    · have hio : i < 0 ∨ ((bwtOf ds).length : Int) ≤ i := by rw [← HRL.out]; omega
      have t0 : i < 0 ∨ ((rowsR ds).length : Int) ≤ i := by rw [HRL.out]; exact hio
      have HWL := Lib.hid (lwalk_any w3 bx bm al cl _ HI3.out (by rw [← HRL.out]; omega) i [] (.inr ⟨hio, rfl⟩) 100000 (by omega))
      clear hin2 hio
      go_wp2_with fail
      refine HWL.out.mono ?_
      rintro e w4 ⟨v10, m4, rfl, hm4, ho4, hb4⟩
      obtain rfl : m4 = 0 := by simpa using hm4
      obtain ⟨a10, c10, rfl, hc10, hn10, -⟩ := owns_clip ho4
      have HB4 : Hid (Below w.heap.size w w4) := below_next HB3.out hb4 HB3.out.size
      clear ho4 hb4 hm4
      rw [show sB (bytsW (List.take 0 [])) = ⟨#[]⟩ by unfold sB bytsW; rfl]
      by_cases hi0 : i < 0
      · clear t0
        go_wp2_with (go_at_call 9; refine (awake12_any _).mono ?_; rintro e w8 ⟨rfl, hb8⟩)
        go_ret
        exact ⟨rfl, below_next HB4.out hb8 HB4.out.size⟩
      · have hi1 : ((rowsR ds).length : Int) ≤ i := by omega
        have hi2 : decide (i < 0) = false := by simp; omega
        clear t0
        go_wp2_with (go_at_call 9; refine (awake12_any _).mono ?_; rintro e w8 ⟨rfl, hb8⟩)
        go_ret
        exact ⟨rfl, below_next HB4.out hb8 HB4.out.size⟩
end Go.Proofs.Ytckmabdphdcpmaa
