/-
  The statement FmRuns: its walk.
-/
import Derived.Test.YtjpoebmjfedecaaFmAwake
import Derived.Test.YtjpoebmjfedecaaFmRunsL
import Derived.Test.YtjpoebmjfedecaaWalkLong
import Derived.Deep.CutBlock
namespace Go.Proofs.Ytjpoebmjfedecaa
open Go.RowKit

theorem docs_two {w : World} {a1 a2 : Option Addr} {d1 d2 : List Nat} {c1 c2 : Nat} (h1 : Row w a1 d1.length (byteV d1)) (h2 : Row w a2 d2.length (byteV d2)) :
    DocsAt (w.alloc (.cells #[.slice a1 d1.length c1, .slice a2 d2.length c2] 22)) (some ⟨w.heap.size, 0, none⟩) (fun r => if r = 0 then a1 else a2) (fun r => if r = 0 then c1 else c2) [d1, d2] := by
  have r := row_marked w #[.slice a1 d1.length c1, .slice a2 d2.length c2] 22 (0, 0) (fun r => .slice (if r = 0 then a1 else a2) (([d1, d2] : List (List Nat)).getD r []).length (if r = 0 then c1 else c2)) (by
    intro i hi
    match i, hi with
    | 0, _ => rfl
    | 1, _ => rfl)
  refine ⟨r, fun r hr => ?_⟩
  match r, hr with
  | 0, _ => exact row_alloc h1 _
  | 1, _ => exact row_alloc h2 _
theorem made_0 (W : World) (z : Value) (n : Nat) (t : TypeId) (B C : Obj) : (((W.alloc (.cells (madeCells #[z] n) t)).alloc B).alloc C).rowIs W.heap.size t n (fun _ => z) := ((World.rowIs_made W z n t).alloc B).alloc C
theorem made_1 (W : World) (z : Value) (n : Nat) (t : TypeId) (A C : Obj) : (((W.alloc A).alloc (.cells (madeCells #[z] n) t)).alloc C).rowIs (W.heap.size + 1) t n (fun _ => z) := by
  have := (World.rowIs_made (W.alloc A) z n t).alloc C
  rwa [World.size_alloc] at this
theorem made_2 (W : World) (z : Value) (n : Nat) (t : TypeId) (A B : Obj) : (((W.alloc A).alloc B).alloc (.cells (madeCells #[z] n) t)).rowIs (W.heap.size + 1 + 1) t n (fun _ => z) := by
  have := World.rowIs_made ((W.alloc A).alloc B) z n t
  rwa [World.size_alloc, World.size_alloc] at this
theorem below_3 (w : World) (A B C : Obj) : Below w.heap.size w (((w.alloc A).alloc B).alloc C).drew :=
  ((((Below.refl _ w).alloc (Nat.le_refl _) A).alloc (by simp) B).alloc (by simp; omega) C).drew
theorem row_rep {w : World} {b N c : Nat} {t : TypeId} (h : w.rowIs b t N (fun _ => .int .u8 (c : Int))) : Row w (some ⟨b, 0, none⟩) (List.replicate N c).length (byteV (List.replicate N c)) := by
  refine (Row.of_row h (by simp)).congr fun j hj => ?_
  rw [List.length_replicate] at hj
  unfold byteV
  rw [rep_getD _ _ _ hj]
set_option maxRecDepth 100000 in
set_option maxHeartbeats 2000000 in
theorem fmruns_walk (w : World) (n : Int) (_ : (Lit.int .i64 n).wf = true) (m : Int) (_ : (Lit.int .i64 m).wf = true) (k : Int) (_ : (Lit.int .i64 k).wf = true) (c0 : Int) (hc0 : (Lit.int .u8 c0).wf = true) :
    Calls Try.prog 6 #[.int .i64 n, .int .i64 m, .int .i64 k, .int .u8 c0] w fun e w' => e = .returned (.bool true) ∧ Below w.heap.size w w' := by
  have e1 : bits .and .i64 n 511 = n % 512 := i64_mask n 9 (by omega)
  have e2 : bits .and .i64 m 511 = m % 512 := i64_mask m 9 (by omega)
  have e3 : bits .and .i64 k 255 = k % 256 := i64_mask k 8 (by omega)
  obtain ⟨N, hN, hN2⟩ : ∃ N : Nat, n % 512 % 400 = N ∧ N < 400 := ⟨(n % 512 % 400).toNat, by omega, by omega⟩
  obtain ⟨M, hM, hM2⟩ : ∃ M : Nat, m % 512 % 400 = M ∧ M < 400 := ⟨(m % 512 % 400).toNat, by omega, by omega⟩
  obtain ⟨K, hK, hK1, hK2⟩ : ∃ K : Nat, k % 256 % 100 + 1 = K ∧ 1 ≤ K ∧ K ≤ 100 := ⟨(k % 256 % 100 + 1).toNat, by omega, by omega, by omega⟩
  have hp1 : 0 ≤ n % 512 := by omega
  have hp2 : 0 ≤ m % 512 := by omega
  have hp3 : 0 ≤ k % 256 := by omega
  have ew : IntKind.i64.wrap (k % 256 % 100 + 1) = (K : Int) := by rw [hK]; exact IntWalk.i64_in _ (by omega)
  have mk1 := make_u8L N (by omega)
  have mk2 := make_u8L M (by omega)
  have mk3 := make_u8L K (by omega)
  obtain ⟨c, rfl, hc⟩ : ∃ c : Nat, c0 = (c : Int) ∧ c < 256 := ⟨c0.toNat, by have := bounds_u8 hc0; omega, by have := bounds_u8 hc0; omega⟩
  clear hK hc0
  go_enter Try.func6, Try.ntmps6
  go_upto_region 2 with fail
  rw [hN, hM]
  clear e1 e2 e3 hN hM hp1 hp2 hp3 ew
  go_cut [9, 10, 11] (fun s9 s10 s11 wx => ∃ ba bb bp, s9 = .slice (some ⟨ba, 0, none⟩) N N ∧ s10 = .slice (some ⟨bb, 0, none⟩) M M ∧ s11 = .slice (some ⟨bp, 0, none⟩) K K ∧ (ba ≠ bb ∧ ba ≠ bp ∧ bb ≠ bp) ∧ (w.heap.size ≤ ba ∧ w.heap.size ≤ bb ∧ w.heap.size ≤ bp) ∧ wx.rowIs ba 5 N (fun _ => .int .u8 0) ∧ wx.rowIs bb 5 M (fun _ => .int .u8 0) ∧ wx.rowIs bp 5 K (fun _ => .int .u8 0) ∧ Below w.heap.size w wx)
  case first =>
    go_region
    all_goals
      go_wp2_with fail
      go_meet
      refine ⟨_, _, _, rfl, rfl, rfl, ⟨by omega, by omega, by omega⟩, ⟨by omega, by omega, by omega⟩, ?_, ?_, ?_, below_3 w _ _ _⟩
      all_goals
        first
          | exact made_0 w _ _ _ _ _
          | exact made_1 w _ _ _ _ _
          | exact made_2 w _ _ _ _ _
  case rest =>
    obtain ⟨ba, bb, bp, rfl, rfl, rfl, ⟨n1, n2, n3⟩, ⟨l1, l2, l3⟩, ra, rb, rp, hbel⟩ := hcut
    have HA := Lib.hid ra
    have HO1 := Lib.hid rb
    have HO2 := Lib.hid rp
    have HB := Lib.hid hbel
    clear ra rb rp hbel mk1 mk2 mk3
    have hix := run_ix (P := Try.prog) 22 (by kernel_rfl) size_u8 (some ⟨ba, 0, none⟩) N N (.inr rfl) .i64
    simp only [bOf, oOf, Option.map_some, Option.getD_some, Nat.zero_add] at hix
    have HIX := Lib.hid hix
    clear hix
    go_wp2_with fail
    go_loopw [12, 40] (fun _ v wr => ∃ i : Nat, i ≤ N ∧ v = .int .i64 (i : Int) ∧ wr.rowIs ba 5 N (fun j => if j < i then .int .u8 (c : Int) else .int .u8 0) ∧ (wr.rowIs bb 5 M (fun _ => .int .u8 0) ∧ wr.rowIs bp 5 K (fun _ => .int .u8 0)) ∧ Below w.heap.size w wr) (fun _ v _ => N - (intOf v).toNat)
    case atStart => exact ⟨0, Nat.zero_le _, rfl, HA.out.congr fun j _ => by simp, ⟨HO1.out, HO2.out⟩, HB.out⟩
    case round =>
      obtain ⟨i, hi, rfl, hrow, ⟨ho1, ho2⟩, hbel⟩ := hrel
      by_cases hlt : i < N
      · have d2 := hrow.cell (i := i) hlt
        rw [if_neg (by omega)] at d2
        have d3 := hrow.frozen i
        have hy := fun W => HIX.out W i hlt
        have HROW := Lib.hid hrow
        have HP1 := Lib.hid ho1
        have HP2 := Lib.hid ho2
        have HBL := Lib.hid hbel
        clear hrow ho1 ho2 hbel HIX
        go_wp2
        go_roundw
        case rel => exact ⟨i + 1, by omega, by go_num, (HROW.out.set i _).congr fun j hj => by
          by_cases ej : j = i
          · subst ej; rw [if_pos rfl, if_pos (by omega)]
          · rw [if_neg ej]
            by_cases e2 : j < i
            · rw [if_pos e2, if_pos (by omega)]
            · rw [if_neg e2, if_neg (by omega)], ⟨HP1.out.setOther (a := ⟨ba, i, none⟩) (fun e => n1 e.symm) _, HP2.out.setOther (a := ⟨ba, i, none⟩) (fun e => n2 e.symm) _⟩, HBL.out.setCell (p := ⟨ba, i, none⟩) (by first | exact l1 | exact l2 | exact l3) _⟩
        case measure => simp [intOf]; omega
      · obtain rfl : N = i := by omega
        have t1 : decide ((N : Int) < (N : Int)) = false := by simp
        clear hlt hi HIX HA HO1 HO2 HB
        have HA : Hid (wr.rowIs ba 5 N (fun _ => .int .u8 (c : Int))) := hrow.congr fun j hj => by rw [if_pos hj]
        have HO1 := Lib.hid ho1
        have HO2 := Lib.hid ho2
        have HB := Lib.hid hbel
        clear hrow ho1 ho2 hbel
        have T1 := HA
        have T2 := HO1
        have T3 := HO2
        clear HA HO1 HO2
        have HA := T2
        have HO1 := T1
        have HO2 := T3
        clear T1 T2 T3
        have hix := run_ix (P := Try.prog) 22 (by kernel_rfl) size_u8 (some ⟨bb, 0, none⟩) M M (.inr rfl) .i64
        simp only [bOf, oOf, Option.map_some, Option.getD_some, Nat.zero_add] at hix
        have HIX := Lib.hid hix
        clear hix
        go_wp2_with fail
        go_loopw [13, 50] (fun _ v wr => ∃ i : Nat, i ≤ M ∧ v = .int .i64 (i : Int) ∧ wr.rowIs bb 5 M (fun j => if j < i then .int .u8 (c : Int) else .int .u8 0) ∧ (wr.rowIs ba 5 N (fun _ => .int .u8 (c : Int)) ∧ wr.rowIs bp 5 K (fun _ => .int .u8 0)) ∧ Below w.heap.size w wr) (fun _ v _ => M - (intOf v).toNat)
        case atStart => exact ⟨0, Nat.zero_le _, rfl, HA.out.congr fun j _ => by simp, ⟨HO1.out, HO2.out⟩, HB.out⟩
        case round =>
          obtain ⟨i, hi, rfl, hrow, ⟨ho1, ho2⟩, hbel⟩ := hrel
          by_cases hlt : i < M
          · have d2 := hrow.cell (i := i) hlt
            rw [if_neg (by omega)] at d2
            have d3 := hrow.frozen i
            have hy := fun W => HIX.out W i hlt
            have HROW := Lib.hid hrow
            have HP1 := Lib.hid ho1
            have HP2 := Lib.hid ho2
            have HBL := Lib.hid hbel
            clear hrow ho1 ho2 hbel HIX
            go_wp2
            go_roundw
            case rel => exact ⟨i + 1, by omega, by go_num, (HROW.out.set i _).congr fun j hj => by
              by_cases ej : j = i
              · subst ej; rw [if_pos rfl, if_pos (by omega)]
              · rw [if_neg ej]
                by_cases e2 : j < i
                · rw [if_pos e2, if_pos (by omega)]
                · rw [if_neg e2, if_neg (by omega)], ⟨HP1.out.setOther (a := ⟨bb, i, none⟩) n1 _, HP2.out.setOther (a := ⟨bb, i, none⟩) (fun e => n3 e.symm) _⟩, HBL.out.setCell (p := ⟨bb, i, none⟩) (by first | exact l1 | exact l2 | exact l3) _⟩
            case measure => simp [intOf]; omega
          · obtain rfl : M = i := by omega
            have t1 : decide ((M : Int) < (M : Int)) = false := by simp
            clear hlt hi HIX HA HO1 HO2 HB
            have HA : Hid (wr.rowIs bb 5 M (fun _ => .int .u8 (c : Int))) := hrow.congr fun j hj => by rw [if_pos hj]
            have HO1 := Lib.hid ho1
            have HO2 := Lib.hid ho2
            have HB := Lib.hid hbel
            clear hrow ho1 ho2 hbel
            have T1 := HA
            have T2 := HO1
            have T3 := HO2
            clear HA HO1 HO2
            have HA := T3
            have HO1 := T2
            have HO2 := T1
            clear T1 T2 T3
            have hix := run_ix (P := Try.prog) 22 (by kernel_rfl) size_u8 (some ⟨bp, 0, none⟩) K K (.inr rfl) .i64
            simp only [bOf, oOf, Option.map_some, Option.getD_some, Nat.zero_add] at hix
            have HIX := Lib.hid hix
            clear hix
            go_wp2_with fail
            go_loopw [14, 60] (fun _ v wr => ∃ i : Nat, i ≤ K ∧ v = .int .i64 (i : Int) ∧ wr.rowIs bp 5 K (fun j => if j < i then .int .u8 (c : Int) else .int .u8 0) ∧ (wr.rowIs ba 5 N (fun _ => .int .u8 (c : Int)) ∧ wr.rowIs bb 5 M (fun _ => .int .u8 (c : Int))) ∧ Below w.heap.size w wr) (fun _ v _ => K - (intOf v).toNat)
            case atStart => exact ⟨0, Nat.zero_le _, rfl, HA.out.congr fun j _ => by simp, ⟨HO1.out, HO2.out⟩, HB.out⟩
            case round =>
              obtain ⟨i, hi, rfl, hrow, ⟨ho1, ho2⟩, hbel⟩ := hrel
              by_cases hlt : i < K
              · have d2 := hrow.cell (i := i) hlt
                rw [if_neg (by omega)] at d2
                have d3 := hrow.frozen i
                have hy := fun W => HIX.out W i hlt
                have HROW := Lib.hid hrow
                have HP1 := Lib.hid ho1
                have HP2 := Lib.hid ho2
                have HBL := Lib.hid hbel
                clear hrow ho1 ho2 hbel HIX
                go_wp2
                go_roundw
                case rel => exact ⟨i + 1, by omega, by go_num, (HROW.out.set i _).congr fun j hj => by
                  by_cases ej : j = i
                  · subst ej; rw [if_pos rfl, if_pos (by omega)]
                  · rw [if_neg ej]
                    by_cases e2 : j < i
                    · rw [if_pos e2, if_pos (by omega)]
                    · rw [if_neg e2, if_neg (by omega)], ⟨HP1.out.setOther (a := ⟨bp, i, none⟩) n2 _, HP2.out.setOther (a := ⟨bp, i, none⟩) n3 _⟩, HBL.out.setCell (p := ⟨bp, i, none⟩) (by first | exact l1 | exact l2 | exact l3) _⟩
                case measure => simp [intOf]; omega
              · obtain rfl : K = i := by omega
                have t1 : decide ((K : Int) < (K : Int)) = false := by simp
                clear hlt hi HIX HA HO1 HO2 HB
                have HA : Hid (wr.rowIs bp 5 K (fun _ => .int .u8 (c : Int))) := hrow.congr fun j hj => by rw [if_pos hj]
                have HO1 := Lib.hid ho1
                have HO2 := Lib.hid ho2
                have HB := Lib.hid hbel
                clear hrow ho1 ho2 hbel
                have HRP := Lib.hid (row_rep HA.out)
                have HRA := Lib.hid (row_rep HO1.out)
                have HRB := Lib.hid (row_rep HO2.out)
                clear HA HO1 HO2 t1 n1 n2 n3
                obtain ⟨P, hP⟩ : ∃ P, P = List.replicate K c := ⟨_, rfl⟩
                obtain ⟨d1, hd1⟩ : ∃ d1, d1 = List.replicate N c := ⟨_, rfl⟩
                obtain ⟨d2, hd2⟩ : ∃ d2, d2 = List.replicate M c := ⟨_, rfl⟩
                have hPb : ∀ x ∈ P, x < 256 := fun x hx => by rw [hP] at hx; rw [List.eq_of_mem_replicate hx]; exact hc
                have hb1 : ∀ x ∈ d1, x < 256 := fun x hx => by rw [hd1] at hx; rw [List.eq_of_mem_replicate hx]; exact hc
                have hb2 : ∀ x ∈ d2, x < 256 := fun x hx => by rw [hd2] at hx; rw [List.eq_of_mem_replicate hx]; exact hc
                rw [← hP] at HRP
                rw [← hd1] at HRA
                rw [← hd2] at HRB
                have hPl : P.length = K := by rw [hP, List.length_replicate]
                have hl1 : d1.length = N := by rw [hd1, List.length_replicate]
                have hl2 : d2.length = M := by rw [hd2, List.length_replicate]
                have HHT := Lib.hid (hits_run N M K c hK1)
                rw [← hd1, ← hd2, ← hP] at HHT
                have HPB := Lib.hid hPb
                clear hd1 hd2 hP hPb
                subst hPl hl1 hl2
                have hok : NewOk [d1, d2] := ⟨by simp, fun y hy => by rcases List.mem_cons.1 hy with rfl | hy; omega; simp at hy; subst hy; omega, by simp [rowOf]; omega, fun y hy => by rcases List.mem_cons.1 hy with rfl | hy; exact hb1; simp at hy; subst hy; exact hb2⟩
                have hdoc := docs_two (c1 := d1.length) (c2 := d2.length) HRA.out HRB.out
                have HB1 : Hid (Below w.heap.size w (wr.alloc (.cells #[.slice (some ⟨ba, 0, none⟩) d1.length d1.length, .slice (some ⟨bb, 0, none⟩) d2.length d2.length] 22))) := HB.out.alloc HB.out.size _
                have HMD := Lib.hid (fnew_any _ _ 2 _ _ [d1, d2] hdoc hok)
                have HRP1 := Lib.hid (HRP.out.kept ((Below.refl _ wr).alloc (Nat.le_refl _) (.cells #[.slice (some ⟨ba, 0, none⟩) d1.length d1.length, .slice (some ⟨bb, 0, none⟩) d2.length d2.length] 22)))
                have HOK := Lib.hid hok
                clear hdoc hok HRA HRB HRP HB hb1 hb2 hc l1 l2 l3
                go_wp2_with fail
                generalize wr.alloc (.cells #[.slice (some ⟨ba, 0, none⟩) d1.length d1.length, .slice (some ⟨bb, 0, none⟩) d2.length d2.length] 22) = w1 at *
                refine (show Calls Try.prog _ _ w1 _ from HMD.out.mono ?_)
                rintro e w2 ⟨bf, rfl, hf, hb2, -⟩
                have HF2 := Lib.hid hf
                have HB2 : Hid (Below w.heap.size w w2) := below_next HB1.out hb2 HB1.out.size
                have HRP2 := Lib.hid (HRP1.out.kept hb2)
                clear hf hb2 HRP1 HMD HB1
                obtain ⟨U, hU⟩ : ∃ U, U = d1.length + 1 - P.length := ⟨_, rfl⟩
                obtain ⟨V, hV⟩ : ∃ V, V = d2.length + 1 - P.length := ⟨_, rfl⟩
                rw [← hU, ← hV] at HHT
                have y1 : IntKind.i64.wrap ((d1.length : Int) - (P.length : Int)) = (d1.length : Int) - (P.length : Int) := IntWalk.i64_in _ (by omega)
                have y2 : IntKind.i64.wrap ((d1.length : Int) - (P.length : Int) + 1) = (d1.length : Int) - (P.length : Int) + 1 := IntWalk.i64_in _ (by omega)
                have y3 : IntKind.i64.wrap ((d2.length : Int) - (P.length : Int)) = (d2.length : Int) - (P.length : Int) := IntWalk.i64_in _ (by omega)
                have y4 : IntKind.i64.wrap ((d2.length : Int) - (P.length : Int) + 1) = (d2.length : Int) - (P.length : Int) + 1 := IntWalk.i64_in _ (by omega)
                have x1 : max ((d1.length : Int) - (P.length : Int) + 1) 0 = (U : Int) := by omega
                have x2 : max ((d2.length : Int) - (P.length : Int) + 1) 0 = (V : Int) := by omega
                have y5 : IntKind.i64.wrap ((U : Int) + (V : Int)) = ((U + V : Nat) : Int) := by rw [show (U : Int) + (V : Int) = ((U + V : Nat) : Int) by omega]; exact IntWalk.i64_in _ (by omega)
                have hUl : U ≤ 400 := by omega
                have hVl : V ≤ 400 := by omega
                have HTL : Hid ((runH 0 U ++ runH 1 V).length = U + V) := by show _ = _; rw [List.length_append, runH_len, runH_len]
                have hcv := conv_str w2 _ P P.length HRP2.out
                have hloc : (locL [d1, d2] P).take 100000 = runH 0 U ++ runH 1 V := by
                  have hn : P ≠ [] := fun h => by rw [h] at hK1; exact absurd hK1 (by simp)
                  have h1 : locL [d1, d2] P = hitL [d1, d2] P := if_neg hn
                  rw [h1, HHT.out, List.take_of_length_le (by rw [HTL.out]; omega)]
                have HHR := fhits_any w2 bf [d1, d2] HF2.out HOK.out P HPB.out (by omega) 100000 (by omega)
                unfold FHitsPost at HHR
                rw [hloc, HTL.out] at HHR
                have HHS := Lib.hid HHR
                have hlc := hitL_len [d1, d2] P _ _ (bkR_is [d1, d2] HOK.out.byte P)
                rw [HHT.out, HTL.out] at hlc
                have HLC := Lib.hid hlc
                have HAT := Lib.hid (runs_at U V)
                clear hlc HHR hloc HHT hU hV
                generalize runH 0 U ++ runH 1 V = T at *
                obtain ⟨N, hN⟩ : ∃ N, N = U + V := ⟨_, rfl⟩
                rw [← hN] at HTL HHS HLC HAT y5
                have HN := Lib.hid hN
                have hNl : N ≤ 800 := by omega
                clear hN
                go_wp2_with fail
                refine HHS.out.mono ?_
                rintro e9 w4 ⟨a4, c4, rfl, hr4, hb4⟩
                have HR4 := Lib.hid hr4
                have HF4 := Lib.hid (HF2.out.kept hb4)
                have HRW4 := Lib.hid (HRP2.out.kept hb4)
                have HB4 : Hid (Below w.heap.size w w4) := below_next HB2.out hb4 HB2.out.size
                have HCTE := fcount_any w4 bf [d1, d2] HF4.out (some ⟨bp, 0, none⟩) P.length P (by omega) HPB.out HRW4.out (by omega)
                rw [← HLC.out] at HCTE
                have HCT := Lib.hid HCTE
                clear hr4 hb4 hcv HHS HF2 HRP2 HB2 HCTE HLC
                go_wp2_with fail
                refine HCT.out.mono ?_
                rintro e8 w5 ⟨rfl, hb5⟩
                have HR5 := Lib.hid (HR4.out.kept hb5)
                have HB5 : Hid (Below w.heap.size w w5) := below_next HB4.out hb5 HB4.out.size
                clear hb5 HCT HR4 HF4 HRW4 HB4
                have HIXT := Lib.hid (run_ix2 (P := Try.prog) 44 (by kernel_rfl) size_hit' a4 T.length c4 HR5.out.at_)
                rw [HTL.out] at HIXT
                go_wp2_with fail
                go_loopw [19, 20, 21] (fun v19 _ _ wr => ∃ i : Nat, i ≤ N ∧ v19 = .int .i64 (i : Int) ∧ Below w5.heap.size w5 wr) (fun v19 _ _ _ => N - (intOf v19).toNat)
                case atStart => exact ⟨0, Nat.zero_le _, rfl, Below.refl _ _⟩
                case round =>
                  obtain ⟨i, hi, rfl, hbel⟩ := hrel
                  have HRr := Lib.hid (HR5.out.kept hbel)
                  have HBr := Lib.hid hbel
                  clear hbel
                  by_cases hlt : i < N
                  · have q1 := HRr.out.c0 i (by rw [HTL.out]; exact hlt)
                    have q2 := HRr.out.c1 i (by rw [HTL.out]; exact hlt)
                    rw [HAT.out i hlt] at q1 q2
                    have hx := fun W => HIXT.out W i hlt
                    by_cases hiU : i < U
                    · rw [if_pos hiU] at q1 q2
                      simp only at q1 q2
                      have g1 : decide ((U : Int) ≤ (i : Int)) = false := by simp; omega
                      have g2 : decide (U ≤ i) = false := by simp; omega
                      go_wp2_with fail
                      exact ⟨⟨i + 1, by omega, by go_num, HBr.out⟩, by simp [intOf]; omega⟩
                    · rw [if_neg hiU] at q1 q2
                      simp only at q1 q2
                      have g1 : (U : Int) ≤ (i : Int) := by omega
                      have y6 : IntKind.i64.wrap ((i : Int) - (U : Int)) = ((i - U : Nat) : Int) := by rw [show (i : Int) - (U : Int) = ((i - U : Nat) : Int) by omega]; exact IntWalk.i64_in _ (by omega)
                      go_wp2_with fail
                      exact ⟨⟨i + 1, by omega, by go_num, HBr.out⟩, by simp [intOf]; omega⟩
                  · obtain rfl : N = i := by omega
                    have hd : decide ((N : Int) < (N : Int)) = false := by simp
                    go_wp2_with (go_at_call 28; refine (awake14_any _).mono ?_; rintro e7 w7 ⟨rfl, hb7⟩)
                    go_ret
                    exact ⟨rfl, below_next (below_next HB5.out HBr.out HB5.out.size) hb7 (below_next HB5.out HBr.out HB5.out.size).size⟩
end Go.Proofs.Ytjpoebmjfedecaa
