/-
  The statement SuffixRuns: its walk.
-/
import Derived.Test.YtddceidepmckiaaRefRows
import Derived.Test.YtddceidepmckiaaSufOk
namespace Go.Proofs.Ytddceidepmckiaa
open Go.RowKit

theorem make_u8 (N : Nat) (h : N ≤ 1000000) : ∀ W : World, (Instr.makeSlice 23 (.int .i64 (N : Int)) (.int .i64 (N : Int))).run Try.prog W = .ok (.slice (some ⟨W.heap.size, 0, none⟩) N N) (W.alloc (.cells (madeCells #[.int .u8 0] N) 5)) := by
  intro W
  obtain ⟨i0, hi, hz0, hz1, hz2⟩ := info_parts info_u8
  have := run_make (P := Try.prog) W 23 5 i0 _ Try.underlying23 hi hz0 .i64 .i64 N N (by omega) (by omega) (by rw [hz2]; omega) (by omega)
  rw [hz1] at this
  simpa [Value.cells] using this
def perD (per n : Nat) : List Nat := (List.range n).map fun i => 97 + i % per
theorem perD_len (per n : Nat) : (perD per n).length = n := by simp [perD]
theorem perD_at (per n j : Nat) (h : j < n) : (perD per n).getD j 0 = 97 + j % per := by simp [perD, List.getD_eq_getElem?_getD, h]
theorem perD_byte (per n : Nat) (h : 0 < per) (h5 : per ≤ 5) : ∀ c ∈ perD per n, c < 256 := by
  intro c hc
  obtain ⟨i, _, rfl⟩ := List.mem_map.1 hc
  have := Nat.mod_lt i h
  omega
attribute [irreducible] perD
theorem docs_three {w : World} {a b : Option Addr} {d e : List Nat} {ca cb : Nat} (h : Row w a d.length (byteV d)) (g : Row w b e.length (byteV e)) :
    DocsAt (w.alloc (.cells #[.slice a d.length ca, .slice b e.length cb, .slice a d.length ca] 23)) (some ⟨w.heap.size, 0, none⟩) (fun r => if r = 1 then b else a) (fun r => if r = 1 then cb else ca) [d, e, d] := by
  have r := row_marked w #[.slice a d.length ca, .slice b e.length cb, .slice a d.length ca] 23 (0, 0) (fun r => .slice (if r = 1 then b else a) (([d, e, d] : List (List Nat)).getD r []).length (if r = 1 then cb else ca)) (by
    intro i hi
    match i, hi with
    | 0, _ => rfl
    | 1, _ => rfl
    | 2, _ => rfl)
  refine ⟨r, fun r hr => ?_⟩
  match r, hr with
  | 0, _ => exact row_alloc h _
  | 1, _ => exact row_alloc g _
  | 2, _ => exact row_alloc h _
set_option maxRecDepth 100000 in
set_option maxHeartbeats 2000000 in
theorem sruns_walk (w : World) (n : Int) (_ : (Lit.int .i64 n).wf = true) (m : Int) (_ : (Lit.int .i64 m).wf = true) (p : Int) (_ : (Lit.int .i64 p).wf = true) :
    Calls Try.prog 4 #[.int .i64 n, .int .i64 m, .int .i64 p] w fun e w' => e = .returned (.bool true) ∧ Below w.heap.size w w' := by
  have en : bits .and .i64 n 511 = n % 512 := i64_mask n 9 (by omega)
  have em : bits .and .i64 m 255 = m % 256 := i64_mask m 8 (by omega)
  have ep : bits .and .i64 p 255 = p % 256 := i64_mask p 8 (by omega)
  obtain ⟨N, hN, hN2⟩ : ∃ N : Nat, n % 512 = N ∧ N ≤ 511 := ⟨(n % 512).toNat, by omega, by omega⟩
  obtain ⟨M, hM, hM2⟩ : ∃ M : Nat, m % 256 = M ∧ M ≤ 255 := ⟨(m % 256).toNat, by omega, by omega⟩
  obtain ⟨pr, hp, hp2⟩ : ∃ pr : Nat, p % 256 % 5 = pr ∧ pr ≤ 4 := ⟨(p % 256 % 5).toNat, by omega, by omega⟩
  have hp0 : 0 ≤ p % 256 := by omega
  rw [hN] at en
  rw [hM] at em
  have mk1 := make_u8 N (by omega)
  have mk2 := make_u8 M (by omega)
  obtain ⟨per, hpr⟩ : ∃ per, per = pr + 1 := ⟨_, rfl⟩
  have hper : 0 < per := by omega
  have hper5 : per ≤ 5 := by omega
  have eper : (pr : Int) + 1 = (per : Int) := by omega
  clear hN hM hpr
  go_enter Try.func4, Try.ntmps4
  go_upto_region 2 with fail
  go_cut [7, 8] (fun s7 s8 wx => ∃ b7 b8 : Nat, s7 = .slice (some ⟨b7, 0, none⟩) N N ∧ s8 = .slice (some ⟨b8, 0, none⟩) M M ∧ b7 ≠ b8 ∧ w.heap.size ≤ b7 ∧ w.heap.size ≤ b8 ∧ wx.rowIs b7 5 N (fun _ => .int .u8 0) ∧ wx.rowIs b8 5 M (fun _ => .int .u8 0) ∧ Below w.heap.size w wx)
  case first =>
    go_region
    · go_wp2
      go_meet
      have r1 := World.rowIs_made w (.int .u8 0) N 5
      have r2 := World.rowIs_made (w.alloc (.cells (madeCells #[.int .u8 0] N) 5)) (.int .u8 0) M 5
      simp only [World.size_alloc] at r2
      exact ⟨_, _, rfl, rfl, by omega, by omega, by omega, (r1.alloc _).drew, r2.drew, (((Below.refl _ w).alloc (Nat.le_refl _) _).alloc (by simp) _).drew⟩
    · go_wp2
      go_meet
      have r1 := World.rowIs_made w (.int .u8 0) M 5
      have r2 := World.rowIs_made (w.alloc (.cells (madeCells #[.int .u8 0] M) 5)) (.int .u8 0) N 5
      simp only [World.size_alloc] at r2
      exact ⟨_, _, rfl, rfl, by omega, by omega, by omega, r2.drew, (r1.alloc _).drew, (((Below.refl _ w).alloc (Nat.le_refl _) _).alloc (by simp) _).drew⟩
  case rest =>
    obtain ⟨b7, b8, rfl, rfl, hne, hb7, hb8, h7, h8, hbel⟩ := hcut
    have H70 := Lib.hid h7
    have H80 := Lib.hid h8
    have HB0 := Lib.hid hbel
    clear h7 h8 hbel mk1 mk2 en em ep hp hp0
    go_wp2_with fail
    go_loopw [28] (fun ii wr => ∃ i : Nat, i ≤ N ∧ ii = .int .i64 i ∧ wr.rowIs b7 5 N (fun j => if j < i then .int .u8 ((97 + j % per : Nat) : Int) else .int .u8 0) ∧ wr.rowIs b8 5 M (fun _ => .int .u8 0) ∧ Below w.heap.size w wr) (fun ii _ => N - (intOf ii).toNat)
    case atStart => exact ⟨0, Nat.zero_le _, rfl, H70.out.congr fun j _ => by simp, H80.out, HB0.out⟩
    case round =>
      obtain ⟨i, hi, rfl, h7, h8, hbel⟩ := hrel
      by_cases hlt : i < N
      · have d1 := h7.cell (i := i) hlt
        have d2 := h7.frozen i
        rw [if_neg (by omega)] at d1
        obtain ⟨r, er, hrl⟩ : ∃ r : Nat, (i : Int) % (per : Int) = (r : Int) ∧ r < per := ⟨i % per, by simp, Nat.mod_lt _ hper⟩
        have er' : r = i % per := by have := Int.natCast_emod i per; omega
        have ER := Lib.hid er'
        have ex : IntKind.u8.wrap (97 + (r : Int)) = 97 + (r : Int) := IntWalk.u8_in _ (by omega)
        have H7 := Lib.hid h7
        have H8 := Lib.hid h8
        have HBi := Lib.hid hbel
        clear h7 h8 hbel er'
        go_wp2
        go_roundw
        case rel => exact ⟨i + 1, by omega, by go_num, (H7.out.set i (.int .u8 (97 + (r : Int)))).congr fun j hj => by
          by_cases ej : j = i
          · subst ej; rw [if_pos rfl, if_pos (by omega), ← ER.out]; rfl
          · rw [if_neg ej]
            by_cases e2 : j < i
            · rw [if_pos e2, if_pos (by omega)]
            · rw [if_neg e2, if_neg (by omega)], H8.out.setOther (a := ⟨b7, i, none⟩) (by show b8 ≠ b7; omega) _, HBi.out.setCell (p := ⟨b7, i, none⟩) hb7 _⟩
        case measure => simp [intOf]; omega
      · obtain rfl : i = N := by omega
        have hd : decide ((i : Int) < i) = false := by simp
        have h7f := h7.congr (g := fun j => .int .u8 ((97 + j % per : Nat) : Int)) fun j hj => by rw [if_pos hj]
        have H71 := Lib.hid h7f
        have H81 := Lib.hid h8
        have HB1 := Lib.hid hbel
        clear h7 h8 hbel h7f H70 H80 HB0
        go_wp2_with fail
        go_loopw [42] (fun ii wr => ∃ j : Nat, j ≤ M ∧ ii = .int .i64 j ∧ wr.rowIs b7 5 i (fun k => .int .u8 ((97 + k % per : Nat) : Int)) ∧ wr.rowIs b8 5 M (fun k => if k < j then .int .u8 ((97 + k % per : Nat) : Int) else .int .u8 0) ∧ Below w.heap.size w wr) (fun ii _ => M - (intOf ii).toNat)
        case atStart => exact ⟨0, Nat.zero_le _, rfl, H71.out, H81.out.congr fun j _ => by simp, HB1.out⟩
        case round =>
          obtain ⟨j, hj, rfl, h7, h8, hbel⟩ := hrel
          obtain ⟨i0, hi0⟩ : ∃ i0, i0 = i := ⟨_, rfl⟩
          have hi02 : i0 ≤ 511 := by omega
          by_cases hlt : j < M
          · have d1 := h8.cell (i := j) hlt
            have d2 := h8.frozen j
            rw [if_neg (by omega)] at d1
            obtain ⟨r, er, hrl⟩ : ∃ r : Nat, (j : Int) % (per : Int) = (r : Int) ∧ r < per := ⟨j % per, by simp, Nat.mod_lt _ hper⟩
            have er' : r = j % per := by have := Int.natCast_emod j per; omega
            have ER := Lib.hid er'
            have ex : IntKind.u8.wrap (97 + (r : Int)) = 97 + (r : Int) := IntWalk.u8_in _ (by omega)
            have H7 := Lib.hid h7
            have H8 := Lib.hid h8
            have HBi := Lib.hid hbel
            clear h7 h8 hbel er' hi0
            go_wp2
            go_roundw
            case rel => exact ⟨j + 1, by omega, by go_num, H7.out.setOther (a := ⟨b8, j, none⟩) (by show b7 ≠ b8; omega) _, (H8.out.set j (.int .u8 (97 + (r : Int)))).congr fun k hk => by
              by_cases ej : k = j
              · subst ej; rw [if_pos rfl, if_pos (by omega), ← ER.out]; rfl
              · rw [if_neg ej]
                by_cases e2 : k < j
                · rw [if_pos e2, if_pos (by omega)]
                · rw [if_neg e2, if_neg (by omega)], HBi.out.setCell (p := ⟨b8, j, none⟩) hb8 _⟩
            case measure => simp [intOf]; omega
          · obtain rfl : j = M := by omega
            have hd : decide ((j : Int) < j) = false := by simp
            clear hi0
            have r7 : Row wr (some ⟨b7, 0, none⟩) (perD per i).length (byteV (perD per i)) := by
              rw [perD_len]; exact (Row.of_row h7 (Nat.le_refl _)).congr fun k hk => by show _ = Value.int .u8 (((perD per i).getD k 0 : Nat) : Int); rw [perD_at per i k hk]
            have r8 : Row wr (some ⟨b8, 0, none⟩) (perD per j).length (byteV (perD per j)) := by
              rw [perD_len]; exact (Row.of_row h8 (Nat.le_refl _)).congr fun k hk => by show _ = Value.int .u8 (((perD per j).getD k 0 : Nat) : Int); rw [perD_at per j k hk, if_pos hk]
            have hdoc := docs_three (ca := i) (cb := j) r7 r8
            rw [perD_len, perD_len] at hdoc
            have hok : NewOk [perD per i, perD per j, perD per i] := by
              refine ⟨by simp, ?_, ?_, ?_⟩
              · intro y hy; simp at hy; rcases hy with rfl | rfl | rfl <;> rw [perD_len] <;> omega
              · simp [rowOf, perD_len]; omega
              · intro y hy; simp at hy; rcases hy with rfl | rfl | rfl <;> exact perD_byte _ _ hper hper5
            have hB0 : Below w.heap.size w (wr.alloc (.cells #[.slice (some ⟨b7, 0, none⟩) i i, .slice (some ⟨b8, 0, none⟩) j j, .slice (some ⟨b7, 0, none⟩) i i] 23)) := hbel.alloc hbel.size _
            have hlen : ([perD per i, perD per j, perD per i] : List (List Nat)).length = 3 := rfl
            have hrowl : (rowOf [perD per i, perD per j, perD per i]).length ≤ 1300 := by simp [rowOf, perD_len]; omega
            generalize [perD per i, perD per j, perD per i] = ds at *
            obtain ⟨A, hA⟩ : ∃ A : Nat → Option Addr, A = (fun r => if r = 1 then some ⟨b8, 0, none⟩ else some ⟨b7, 0, none⟩) := ⟨_, rfl⟩
            obtain ⟨C, hC⟩ : ∃ C : Nat → Nat, C = (fun r => if r = 1 then j else i) := ⟨_, rfl⟩
            rw [← hA, ← hC] at hdoc
            have hmd := made_any _ _ 3 A C ds hdoc hok
            rw [hlen] at hmd
            have HMD := Lib.hid hmd
            have HDOC := Lib.hid hdoc
            have HOK := Lib.hid hok
            have HB := Lib.hid hB0
            have HLEN := Lib.hid hlen
            clear r7 r8 h7 h8 hbel hdoc hok hB0 hmd hlen hA hC H71 H81 HB1
            generalize hW : (wr.alloc (.cells #[.slice (some ⟨b7, 0, none⟩) i i, .slice (some ⟨b8, 0, none⟩) j j, .slice (some ⟨b7, 0, none⟩) i i] 23)) = W at *
            have HW := Lib.hid hW
            clear hW
            go_wp2_with fail
            rw [HW.out]
            refine HMD.out.mono ?_
            rintro e w1 ⟨bt, x, rfl, ht, hb1⟩
            have HT := Lib.hid ht
            have HD1 := Lib.hid (HDOC.out.kept hb1)
            have HB1 : Hid (Below w.heap.size w w1) := below_next HB.out hb1 HB.out.size
            clear ht hb1 HMD HDOC HB HW
            go_wp2_with fail
            refine (array_any w1 bt x ds HT.out HOK.out).mono ?_
            rintro e w2 ⟨aa, ca, sa, rfl, hra, hsa, hb2, hjk⟩
            have HRA := Lib.hid hra
            have HSA := Lib.hid hsa
            have HT2 := Lib.hid (HT.out.kept hb2)
            have hst := strings_any w2 _ 3 A C ds (by rw [HLEN.out]; omega) (HD1.out.kept hb2)
            rw [HLEN.out] at hst
            have HST := Lib.hid hst
            have HB2 : Hid (Below w.heap.size w w2) := below_next HB1.out hb2 HB1.out.size
            clear hra hsa hb2 hjk HT HB1 HD1 hst
            go_wp2_with fail
            refine HST.out.mono ?_
            rintro e w3 ⟨ax, cx, rfl, hrs, hb3⟩
            have hra2 := refarray_any w3 ax cx ds hrs HOK.out.byte (by omega)
            rw [HLEN.out] at hra2
            rw [HLEN.out]
            have HRF := Lib.hid hra2
            have HRA3 := Lib.hid (HRA.out.kept hb3)
            have HT3 := Lib.hid (HT2.out.kept hb3)
            have HB3 : Hid (Below w.heap.size w w3) := below_next HB2.out hb3 HB2.out.size
            clear hrs hb3 hra2 HST HRA HT2 HB2
            go_wp2_with fail
            refine HRF.out.mono ?_
            rintro e w4 ⟨ab, cb, sb, rfl, hrb, hsb, hb4, hjk⟩
            obtain rfl : sa = sb := HSA.out.one hsb
            have HRB := Lib.hid hrb
            have HRA4 := Lib.hid (HRA3.out.kept hb4)
            have HT4 := Lib.hid (HT3.out.kept hb4)
            have HB4 : Hid (Below w.heap.size w w4) := below_next HB3.out hb4 HB3.out.size
            clear hrb hsb hb4 hjk HRF HRA3 HT3 HB3
            go_wp2_with fail
            refine (same_yes w4 aa ab (rowOf ds).length ca cb (fun k => ((sa.getD k 0 : Nat) : Int)) (by omega) HRA4.out HRB.out).mono ?_
            rintro e w5 ⟨rfl, jj, rfl⟩
            go_wp2_with fail
            refine (ok_yes _ bt x ds (HT4.out.drewN jj) HOK.out aa ca sa (HRA4.out.drewN jj) HSA.out).mono ?_
            rintro e w6 ⟨rfl, hb6⟩
            have HB6 := Lib.hid hb6
            clear hb6
            go_wp2_with fail
            refine (awake10_any _).mono ?_
            rintro e w7 ⟨rfl, hb7'⟩
            have HB7 := Lib.hid hb7'
            clear hb7'
            go_wp2
            go_ret
            have hB5 : Below w.heap.size w (w4.drewN jj) := below_drewN HB4.out jj
            have hB6 := below_next hB5 HB6.out hB5.size
            exact ⟨rfl, below_next hB6 HB7.out hB6.size⟩
end Go.Proofs.Ytddceidepmckiaa
