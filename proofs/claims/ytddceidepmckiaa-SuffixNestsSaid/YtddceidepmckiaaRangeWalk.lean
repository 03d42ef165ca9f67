/-
  suffix.Range: the search of the rows that begin with a text.
-/
import Derived.Test.YtddceidepmckiaaRangeMath
import Derived.Test.YtddceidepmckiaaLcpMath
namespace Go.Proofs.Ytddceidepmckiaa
open Go.RowKit

set_option maxRecDepth 100000 in
set_option maxHeartbeats 1000000 in
theorem compare_any (w : World) (a : Option Addr) (n cap : Nat) (s : Nat → Nat) (T : List Nat) (hr : Row w a n (fun k => .int .u16 ((s k : Nat) : Int))) (hT : T.length < n) (hs : ∀ k, k ≤ T.length → s k = if k < T.length then T.getD k 0 + 1 else 0) (hb : ∀ c ∈ T, c < 256)
    (b : Option Addr) (cb : Nat) (P : List Nat) (hp : Row w b P.length (byteV P)) (hpb : ∀ c ∈ P, c < 256) (hpl : P.length ≤ 100000) :
    Calls Try.prog 57 #[.slice a n cap, .slice b P.length cb] w fun e w' => e = .returned (.int .i64 (cmpL T P)) ∧ w = w' := by
  have hix := run_ix (P := Try.prog) 52 (by kernel_rfl) size_u16 a n cap hr.at_ .i64
  have hiy := run_ix (P := Try.prog) 23 (by kernel_rfl) size_u8 b P.length cb hp.at_ .i64
  have HR := Lib.hid hr
  have HP := Lib.hid hp
  have HS := Lib.hid hs
  have HB := Lib.hid hb
  have HPB := Lib.hid hpb
  clear hr hp hs hb hpb
  go_enter Try.func57, Try.ntmps57
  go_wp2
  go_loop [10] (fun ii => ∃ i : Nat, i ≤ P.length ∧ i ≤ T.length ∧ ii = .int .i64 i ∧ cmpL T P = cmpL (T.drop i) (P.drop i)) (fun ii => P.length - (intOf ii).toNat)
  case atStart => exact ⟨0, Nat.zero_le _, Nat.zero_le _, rfl, rfl⟩
  case round =>
    obtain ⟨i, hi, hiT, rfl, hc⟩ := hrel
    by_cases hlt : i < P.length
    · have d0 : w.cell? ⟨bOf b, oOf b + i, none⟩ = some (.int .u8 ((P.getD i 0 : Nat) : Int)) := HP.out.cell i hlt
      have d1 : w.cell? ⟨bOf a, oOf a + i, none⟩ = some (.int .u16 ((s i : Nat) : Int)) := HR.out.cell i (by omega)
      have hin : i < n := by omega
      have hcb := HPB.out _ (getD_mem hlt)
      rw [drop_cons P i hlt] at hc
      have hs := HS.out i hiT
      by_cases hiT2 : i < T.length
      · rw [if_pos hiT2] at hs
        rw [drop_cons T i hiT2, cmpL_cons] at hc
        have hTb := HB.out _ (getD_mem hiT2)
        rw [hs] at d1
        clear hs
        generalize P.getD i 0 = c at *
        generalize T.getD i 0 = t at *
        have ec : ((t + 1 : Nat) : Int) = (t : Int) + 1 := by omega
        rw [ec] at d1
        have ew : IntKind.u16.wrap ((c : Int)) = (c : Int) := IntWalk.u16_in _ (by omega)
        have ew2 : IntKind.u16.wrap ((c : Int) + 1) = (c : Int) + 1 := IntWalk.u16_in _ (by omega)
        by_cases he : t = c
        · subst he
          rw [if_pos rfl] at hc
          have HC := Lib.hid hc
          clear hc ec
          go_wp2
          go_round
          case rel => exact ⟨i + 1, by omega, by omega, by go_num, HC.out⟩
          case measure => simp [intOf]; omega
        · rw [if_neg he] at hc
          have HC := Lib.hid hc
          have g1 : ((t : Int) + 1 == (c : Int) + 1) = false := by simp; omega
          have g2 : ((t : Int) == (c : Int)) = false := by simp; omega
          have g3 : ((t : Nat) == (c : Nat)) = false := by simp; omega
          clear hc ec
          go_wp2
          go_ret
          exact ⟨by rw [HC.out]; exact ret_int (by omega), rfl⟩
      · rw [if_neg hiT2] at hs
        have : T.drop i = [] := List.drop_of_length_le (by omega)
        rw [this, cmpL_end] at hc
        rw [hs] at d1
        have d1' : w.cell? ⟨bOf a, oOf a + i, none⟩ = some (.int .u16 0) := d1
        clear d1 hs this
        generalize P.getD i 0 = c at *
        have HC := Lib.hid hc
        have ew : IntKind.u16.wrap ((c : Int)) = (c : Int) := IntWalk.u16_in _ (by omega)
        have ew2 : IntKind.u16.wrap ((c : Int) + 1) = (c : Int) + 1 := IntWalk.u16_in _ (by omega)
        have g1 : ((0 : Int) == (c : Int) + 1) = false := by simp; omega
        clear hc
        go_wp2
        go_ret
        exact ⟨by rw [HC.out]; exact ret_int (by omega), rfl⟩
    · obtain rfl : i = P.length := by omega
      have hd : decide ((P.length : Int) < P.length) = false := by simp
      rw [List.drop_length, cmpL_nil] at hc
      have HC := Lib.hid hc
      clear hc
      go_wp2
      go_ret
      exact ⟨by rw [HC.out]; rfl, rfl⟩
def cutB (a : Option Addr) (cap k : Nat) : Option Addr := if cap = k then a else a.map (·.add (k * 1))
theorem cut16 (a : Option Addr) (n cap k : Nat) (h : k ≤ n) : ∀ W : World, (Instr.slice 52 (.slice a n cap) (some (.int .i64 (k : Int))) none none).run Try.prog W = .ok (.slice (cutB a cap k) (n - k) (cap - k)) W := by
  intro W
  have hs := size_u16 W
  unfold cutB
  simp [Instr.slice, run_underlying Try.underlying52, Instr.sliceBounds, run_sliceBound, show (0 : Int) ≤ k by omega, show (k : Int) ≤ n by omega]
theorem Row.from {w : World} {a : Option Addr} {n : Nat} {f : Nat → Value} (h : Row w a n f) (cap k : Nat) (hc : n ≤ cap) (hk : k < n) : Row w (cutB a cap k) (n - k) (fun j => f (k + j)) := by
  unfold cutB
  rw [if_neg (by omega)]
  rcases h.at_ with e | e
  · omega
  · have e2 : a.map (·.add (k * 1)) = some ⟨bOf a, oOf a + k, none⟩ := by
      conv => lhs; rw [e]
      rw [Option.map_some, Addr.add_lit, Nat.mul_one]
    rw [e2]
    refine ⟨.inr rfl, fun j hj => ?_⟩
    have := h.cell (k + j) (by omega)
    rw [← Nat.add_assoc] at this
    exact this
attribute [irreducible] cutB
/-- the row, the order and the text in their boxes -/
structure Boxes (w : World) (b1 b2 b3 : Nat) (x : TxP) (ds : List (List Nat)) (a : Option Addr) (ca : Nat) (b : Option Addr) (cb : Nat) (P : List Nat) : Prop where
  c1 : w.cell? ⟨b1, 0, none⟩ = some (.slice x.ar (rowOf ds).length x.cr)
  c2 : w.cell? ⟨b2, 0, none⟩ = some (.slice a (rowOf ds).length ca)
  c3 : w.cell? ⟨b3, 0, none⟩ = some (.slice b P.length cb)
  row : Row w x.ar (rowOf ds).length (fun p => .int .u16 (((rowOf ds).getD p 0 : Nat) : Int))
  sa : Row w a (rowOf ds).length (natV ((rowsR ds).map (placeOf ds)))
  txt : Row w b P.length (byteV P)
  cap : (rowOf ds).length ≤ x.cr
theorem Boxes.drewN {w : World} {b1 b2 b3 : Nat} {x : TxP} {ds : List (List Nat)} {a : Option Addr} {ca : Nat} {b : Option Addr} {cb : Nat} {P : List Nat} (h : Boxes w b1 b2 b3 x ds a ca b cb P) (k : Nat) : Boxes (w.drewN k) b1 b2 b3 x ds a ca b cb P :=
  ⟨h.c1, h.c2, h.c3, h.row.drewN k, h.sa.drewN k, h.txt.drewN k, h.cap⟩
set_option maxRecDepth 100000 in
set_option maxHeartbeats 1000000 in
theorem clos1 (w : World) (b1 b2 b3 : Nat) (x : TxP) (ds : List (List Nat)) (a : Option Addr) (ca : Nat) (b : Option Addr) (cb : Nat) (P : List Nat) (h : Boxes w b1 b2 b3 x ds a ca b cb P) (hby : ∀ d ∈ ds, ∀ c ∈ d, c < 256) (hpb : ∀ c ∈ P, c < 256) (hpl : P.length ≤ 100000) (i : Nat) (hi : i < (rowOf ds).length) :
    Calls Try.prog 56 #[.int .i64 (i : Int), .pointer (some ⟨b1, 0, none⟩), .pointer (some ⟨b2, 0, none⟩), .pointer (some ⟨b3, 0, none⟩)] w fun e w' => e = .returned (.bool (decide (0 ≤ cmpR ds P i))) ∧ ∃ j, w' = w.drewN j := by
  have hrl := rows_len ds
  have hva := rows_at ds i (by omega)
  have hmp := map_place ds i (by omega)
  have hix := run_ix (P := Try.prog) 28 (by kernel_rfl) size_int a (rowOf ds).length ca h.sa.at_ .i64
  have c1 := h.c1
  have c2 := h.c2
  have c3 := h.c3
  have d0 : w.cell? ⟨bOf a, oOf a + i, none⟩ = some (.int .i64 ((((rowsR ds).map (placeOf ds)).getD i 0 : Nat) : Int)) := h.sa.cell i hi
  rw [hmp] at d0
  have hpl2 := placeOf_lt ds _ hva
  have hrt := row_text ds _ hva
  have htb : ∀ c ∈ textAt ds ((rowsR ds).getD i (0, 0)), c < 256 := fun c hc => hby _ (doc_mem hva.1) c (List.mem_of_mem_drop hc)
  have htl : placeOf ds ((rowsR ds).getD i (0, 0)) + (textAt ds ((rowsR ds).getD i (0, 0))).length < (rowOf ds).length := by
    have h1 := place_lt ds _ _ hva.1 (Nat.le_refl _)
    have h2 := hva.2
    unfold placeOf textAt
    rw [List.length_drop]; omega
  have hcr : cmpR ds P i = cmpL (textAt ds ((rowsR ds).getD i (0, 0))) P := rfl
  rw [hcr]
  generalize (rowsR ds).getD i (0, 0) = p at *
  have hct := cut16 x.ar (rowOf ds).length x.cr (placeOf ds p) (by omega)
  have HCMP := Lib.hid (fun k => compare_any (w.drewN k) (cutB x.ar x.cr (placeOf ds p)) ((rowOf ds).length - placeOf ds p) (x.cr - placeOf ds p) (fun j => (rowOf ds).getD (placeOf ds p + j) 0) (textAt ds p) ((h.row.drewN k).from x.cr (placeOf ds p) h.cap hpl2) (by omega) hrt htb b cb P (h.txt.drewN k) hpb hpl)
  generalize placeOf ds p = q at *
  generalize (rowOf ds).length = n at *
  generalize cutB x.ar x.cr q = a' at *
  generalize cmpL (textAt ds p) P = v at *
  clear hrl hva hmp hrt htb htl hcr h hby hpb
  go_enter Try.func56, Try.ntmps56
  go_wp2_with fail
  go_quiet ((go_at_call 57; refine Calls.quiet_of ((HCMP.out _).mono fun _ _ ⟨he, hw⟩ => ⟨he, 0, hw.symm⟩)))
  go_wp2
  go_ret
  exact ⟨rfl, _, rfl⟩
set_option maxRecDepth 100000 in
set_option maxHeartbeats 1000000 in
theorem clos2 (w : World) (b1 b2 b3 : Nat) (x : TxP) (ds : List (List Nat)) (a : Option Addr) (ca : Nat) (b : Option Addr) (cb : Nat) (P : List Nat) (h : Boxes w b1 b2 b3 x ds a ca b cb P) (hby : ∀ d ∈ ds, ∀ c ∈ d, c < 256) (hpb : ∀ c ∈ P, c < 256) (hpl : P.length ≤ 100000) (i : Nat) (hi : i < (rowOf ds).length) :
    Calls Try.prog 58 #[.int .i64 (i : Int), .pointer (some ⟨b1, 0, none⟩), .pointer (some ⟨b2, 0, none⟩), .pointer (some ⟨b3, 0, none⟩)] w fun e w' => e = .returned (.bool (decide (0 < cmpR ds P i))) ∧ ∃ j, w' = w.drewN j := by
  have hrl := rows_len ds
  have hva := rows_at ds i (by omega)
  have hmp := map_place ds i (by omega)
  have hix := run_ix (P := Try.prog) 28 (by kernel_rfl) size_int a (rowOf ds).length ca h.sa.at_ .i64
  have c1 := h.c1
  have c2 := h.c2
  have c3 := h.c3
  have d0 : w.cell? ⟨bOf a, oOf a + i, none⟩ = some (.int .i64 ((((rowsR ds).map (placeOf ds)).getD i 0 : Nat) : Int)) := h.sa.cell i hi
  rw [hmp] at d0
  have hpl2 := placeOf_lt ds _ hva
  have hrt := row_text ds _ hva
  have htb : ∀ c ∈ textAt ds ((rowsR ds).getD i (0, 0)), c < 256 := fun c hc => hby _ (doc_mem hva.1) c (List.mem_of_mem_drop hc)
  have htl : placeOf ds ((rowsR ds).getD i (0, 0)) + (textAt ds ((rowsR ds).getD i (0, 0))).length < (rowOf ds).length := by
    have h1 := place_lt ds _ _ hva.1 (Nat.le_refl _)
    have h2 := hva.2
    unfold placeOf textAt
    rw [List.length_drop]; omega
  have hcr : cmpR ds P i = cmpL (textAt ds ((rowsR ds).getD i (0, 0))) P := rfl
  rw [hcr]
  generalize (rowsR ds).getD i (0, 0) = p at *
  have hct := cut16 x.ar (rowOf ds).length x.cr (placeOf ds p) (by omega)
  have HCMP := Lib.hid (fun k => compare_any (w.drewN k) (cutB x.ar x.cr (placeOf ds p)) ((rowOf ds).length - placeOf ds p) (x.cr - placeOf ds p) (fun j => (rowOf ds).getD (placeOf ds p + j) 0) (textAt ds p) ((h.row.drewN k).from x.cr (placeOf ds p) h.cap hpl2) (by omega) hrt htb b cb P (h.txt.drewN k) hpb hpl)
  generalize placeOf ds p = q at *
  generalize (rowOf ds).length = n at *
  generalize cutB x.ar x.cr q = a' at *
  generalize cmpL (textAt ds p) P = v at *
  clear hrl hva hmp hrt htb htl hcr h hby hpb
  go_enter Try.func58, Try.ntmps58
  go_wp2_with fail
  go_quiet ((go_at_call 57; refine Calls.quiet_of ((HCMP.out _).mono fun _ _ ⟨he, hw⟩ => ⟨he, 0, hw.symm⟩)))
  go_wp2
  go_ret
  exact ⟨rfl, _, rfl⟩
set_option maxRecDepth 100000 in
set_option maxHeartbeats 1000000 in
theorem search_any (g : Nat) (cb : Array Value) (n t : Nat) (p : Nat → Bool) (w : World) (hn : n ≤ 100000) (ht : t ≤ n) (hp : ∀ i, i < n → (p i = false ↔ i < t)) (eg : ∀ args w, (callFunc g args).run Try.prog w = .ok (.enter g args) w)
    (hf : ∀ (m i : Nat), i < n → Calls Try.prog g (#[.int .i64 (i : Int)] ++ cb) (w.drewN m) fun e w' => e = .returned (.bool (p i)) ∧ ∃ j, w' = (w.drewN m).drewN j) :
    Calls Try.prog 55 #[.int .i64 (n : Int), .func (.func g) #[] cb] w fun e w' => e = .returned (.int .i64 (t : Int)) ∧ ∃ j, w' = w.drewN j := by
  have HF := Lib.hid hf
  have HP := Lib.hid hp
  clear hf hp
  go_enter Try.func55, Try.ntmps55
  go_wp2
  go_loopw [5, 6] (fun ii jj wr => ∃ i j m : Nat, i ≤ t ∧ t ≤ j ∧ j ≤ n ∧ ii = .int .i64 i ∧ jj = .int .i64 j ∧ wr = w.drewN m) (fun ii jj _ => (intOf jj).toNat - (intOf ii).toNat)
  case atStart => exact ⟨0, n, 0, Nat.zero_le _, ht, Nat.le_refl _, rfl, rfl, rfl⟩
  case round =>
    obtain ⟨i, j, m, hi, hj, hjn, rfl, rfl, hw⟩ := hrel
    have HW := Lib.hid hw
    clear hw
    by_cases hij : (i : Int) < (j : Int)
    · obtain ⟨h, hh⟩ : ∃ h, h = (i + j) / 2 := ⟨_, rfl⟩
      have hhn : h < n := by omega
      have hlh := HP.out h hhn
      have hc := HF.out m h hhn
      rw [← HW.out] at hc
      have HC := Lib.hid hc
      have e1 : IntKind.u64.wrap ((i : Int) + (j : Int)) = (i : Int) + (j : Int) := IntWalk.u64_in _ (by omega)
      have e2 : ((i : Int) + (j : Int)) / 2 = (h : Int) := by omega
      have e3 : IntKind.i64.wrap (h : Int) = (h : Int) := IntWalk.i64_in _ (by omega)
      have hb1 : i ≤ h := by omega
      have hb2 : h < j := by omega
      clear hh hc
      cases hph : p h with
      | false =>
        have hht := hlh.1 hph
        rw [hph] at HC
        clear hlh hph
        go_wp2_with (go_at_fn g; refine HC.out.mono ?_; rintro e w' ⟨rfl, q, rfl⟩)
        go_roundw
        case rel => exact ⟨h + 1, j, m + q, by omega, hj, hjn, by go_num, rfl, by rw [HW.out, World.drewN_drewN]⟩
        case measure => simp [intOf]; omega
      | true =>
        have hht : t ≤ h := by
          rcases Nat.lt_or_ge h t with g | g
          · rw [hlh.2 g] at hph; cases hph
          · exact g
        rw [hph] at HC
        clear hlh hph
        go_wp2_with (go_at_fn g; refine HC.out.mono ?_; rintro e w' ⟨rfl, q, rfl⟩)
        go_roundw
        case rel => exact ⟨i, h, m + q, hi, hht, by omega, rfl, rfl, by rw [HW.out, World.drewN_drewN]⟩
        case measure => simp [intOf]; omega
    · obtain rfl : i = t := by omega
      obtain rfl : j = i := by omega
      go_wp2
      go_ret
      exact ⟨rfl, m, HW.out⟩
def RngPost (w : World) (ds : List (List Nat)) (P : List Nat) (e : Ending) (w' : World) : Prop :=
  ∃ lo hi, e = .returned (.tuple #[.int .i64 ((lo : Nat) : Int), .int .i64 ((hi : Nat) : Int)]) ∧ RangeP ds P lo hi ∧ Below w.heap.size w w'
set_option maxRecDepth 100000 in
set_option maxHeartbeats 1000000 in
theorem range_any (w : World) (bt : Nat) (x : TxP) (ds : List (List Nat)) (ht : TextAt w bt x ds) (hok : NewOk ds) (a : Option Addr) (cap : Nat) (sa : List Nat) (hr : Row w a (rowOf ds).length (natV sa)) (hsa : IsSA (ordS ds) (rowOf ds).length sa)
    (b : Option Addr) (cb : Nat) (P : List Nat) (hp : Row w b P.length (byteV P)) (hpb : ∀ c ∈ P, c < 256) (hpl : P.length ≤ 100000) :
    Calls Try.prog 28 #[.pointer (some ⟨bt, 0, none⟩), .slice a (rowOf ds).length cap, .slice b P.length cb] w (RngPost w ds P) := by
  obtain ⟨lo, hi, hR⟩ := range_is ds P
  obtain ⟨W, hW⟩ : ∃ W : World, W = ((w.alloc (.cells #[.slice a (rowOf ds).length cap] 28)).alloc (.cells #[.slice b P.length cb] 23)) := ⟨_, rfl⟩
  have hB : Below w.heap.size w W := by rw [hW]; exact ((Below.refl _ _).alloc (Nat.le_refl _) _).alloc (by simp) _
  have g1 : W.cell? ⟨w.heap.size, 0, none⟩ = some (.slice a (rowOf ds).length cap) := by rw [hW]; simp
  have g2 : W.cell? ⟨w.heap.size + 1, 0, none⟩ = some (.slice b P.length cb) := by rw [hW]; simp
  have hWs : W.heap.size = w.heap.size + 2 := by rw [hW]; simp
  have HOK := Lib.hid (ok_yes W bt x ds (ht.kept hB) hok a cap sa (hr.kept hB) hsa)
  have HT := Lib.hid (ht.kept hB)
  have HR := Lib.hid (hr.kept hB)
  have HP := Lib.hid (hp.kept hB)
  have HSE := Lib.hid (show sa = (rowsR ds).map (placeOf ds) from hsa.one (arrR_sa ds))
  have HBY := Lib.hid hok.byte
  have HPB := Lib.hid hpb
  have HB := Lib.hid hB
  have HRG := Lib.hid hR
  have HWW := Lib.hid hW
  have HWS := Lib.hid hWs
  have hall := hok.all
  clear ht hok hr hsa hp hpb hB hR hW hWs
  go_enter Try.func28, Try.ntmps28
  go_wp2_with fail
  rw [← HWW.out]
  refine HOK.out.mono ?_
  rintro e w1 ⟨rfl, hb1⟩
  have HT1 := Lib.hid (HT.out.kept hb1)
  have HR1 := Lib.hid (HR.out.kept hb1)
  have HP1 := Lib.hid (HP.out.kept hb1)
  have k1 : w1.cell? ⟨w.heap.size, 0, none⟩ = some (.slice a (rowOf ds).length cap) := (hb1.cell (p := ⟨w.heap.size, 0, none⟩) (by rw [HWS.out]; show w.heap.size < w.heap.size + 2; omega)).trans g1
  have k2 : w1.cell? ⟨w.heap.size + 1, 0, none⟩ = some (.slice b P.length cb) := (hb1.cell (p := ⟨w.heap.size + 1, 0, none⟩) (by rw [HWS.out]; show w.heap.size + 1 < w.heap.size + 2; omega)).trans g2
  have HB1 : Hid (Below w.heap.size w w1) := below_next HB.out hb1 HB.out.size
  have hs1 : w.heap.size + 2 ≤ w1.heap.size := by have := hb1.size; rw [HWS.out] at this; exact this
  clear hb1 g1 g2 HOK HT HR HP HB HWW HWS
  go_wp2_with fail
  refine (trow_any _ bt x ds HT1.out).mono ?_
  rintro e w' ⟨rfl, rfl⟩
  obtain ⟨W2, hW2⟩ : ∃ W2 : World, W2 = w1.alloc (.cells #[.slice x.ar (rowOf ds).length x.cr] 52) := ⟨_, rfl⟩
  have hb2 : Below w1.heap.size w1 W2 := by rw [hW2]; exact (Below.refl _ _).alloc (Nat.le_refl _) _
  have j1 : (w1.alloc (.cells #[.slice x.ar (rowOf ds).length x.cr] 52)).cell? ⟨w.heap.size, 0, none⟩ = some (.slice a (rowOf ds).length cap) := by rw [← hW2]; exact (hb2.cell (p := ⟨w.heap.size, 0, none⟩) (by show w.heap.size < w1.heap.size; omega)).trans k1
  have j2 : (w1.alloc (.cells #[.slice x.ar (rowOf ds).length x.cr] 52)).cell? ⟨w.heap.size + 1, 0, none⟩ = some (.slice b P.length cb) := by rw [← hW2]; exact (hb2.cell (p := ⟨w.heap.size + 1, 0, none⟩) (by show w.heap.size + 1 < w1.heap.size; omega)).trans k2
  have hbox : Boxes W2 w1.heap.size w.heap.size (w.heap.size + 1) x ds a cap b cb P := ⟨by rw [hW2]; simp, by rw [hW2]; exact j1, by rw [hW2]; exact j2, HT1.out.row.kept hb2, by rw [← HSE.out]; exact HR1.out.kept hb2, HP1.out.kept hb2, HT1.out.cap⟩
  have hrl := rows_len ds
  have hs1' := search_any 56 #[.pointer (some ⟨w1.heap.size, 0, none⟩), .pointer (some ⟨w.heap.size, 0, none⟩), .pointer (some ⟨w.heap.size + 1, 0, none⟩)] (rowOf ds).length lo (fun i => decide (0 ≤ cmpR ds P i)) W2 (by omega) (by have := HRG.out.len; have := HRG.out.le; omega) (fun i hi => by
    have := HRG.out.low i (by omega)
    rw [decide_eq_false_iff_not]
    constructor
    · intro h; exact this.1 (by omega)
    · intro h; have := this.2 h; omega) (enters_of Try.func56 (by kernel_rfl) rfl) (fun m i hi => clos1 _ _ _ _ x ds a cap b cb P (hbox.drewN m) HBY.out HPB.out hpl i hi)
  have hs2' := fun k => search_any 58 #[.pointer (some ⟨w1.heap.size, 0, none⟩), .pointer (some ⟨w.heap.size, 0, none⟩), .pointer (some ⟨w.heap.size + 1, 0, none⟩)] (rowOf ds).length hi (fun i => decide (0 < cmpR ds P i)) (W2.drewN k) (by omega) (by have := HRG.out.len; omega) (fun i hi => by
    have := HRG.out.high i (by omega)
    rw [decide_eq_false_iff_not]
    constructor
    · intro h; exact this.1 (by omega)
    · intro h; have := this.2 h; omega) (enters_of Try.func58 (by kernel_rfl) rfl) (fun m i hi => clos2 _ _ _ _ x ds a cap b cb P ((hbox.drewN k).drewN m) HBY.out HPB.out hpl i hi)
  have H1 := Lib.hid hs1'
  have H2 := Lib.hid hs2'
  have HW2 := Lib.hid hW2
  have HB2 : Hid (Below w.heap.size w W2) := below_next HB1.out hb2 HB1.out.size
  clear hs1' hs2' hW2 hb2 hbox hrl k1 k2
  go_wp2_with fail
  rw [← HW2.out]
  rw [← HW2.out] at j1 j2
  refine H1.out.mono ?_
  rintro e w3 ⟨rfl, m, rfl⟩
  have l1 : (W2.drewN m).cell? ⟨w.heap.size, 0, none⟩ = some (.slice a (rowOf ds).length cap) := j1
  clear j1 j2 H1
  go_wp2_with fail
  refine (H2.out m).mono ?_
  rintro e w4 ⟨rfl, m2, rfl⟩
  go_wp2
  go_ret2
  exact ⟨lo, hi, rfl, HRG.out, below_drewN HB2.out _⟩
end Go.Proofs.Ytddceidepmckiaa
