/-
  The statement FmPieces: its walk.
-/
import Derived.Test.YtjpoebmjfedecaaFmAwake
import Derived.Test.YtjpoebmjfedecaaFmPiece
import Derived.Lib.SmallJoins
namespace Go.Proofs.Ytjpoebmjfedecaa
open Go.RowKit

theorem sB_app (x y : List Nat) : sB x ++ sB y = sB (x ++ y) := by
  unfold sB
  rw [List.map_append]
  apply ByteArray.ext
  rw [ByteArray.data_append]
  simp
set_option maxRecDepth 100000 in
set_option maxHeartbeats 800000 in
theorem fpieces_walk (w : World) (a : Option Addr) (cap : Nat) (A : Nat → Option Addr) (C : Nat → Nat) (ds : List (List Nat)) (hin : DocsIn w a A C ds) (n : Int) (_ : (Lit.int .i64 n).wf = true) :
    Calls Try.prog 7 #[.slice a ds.length cap, .int .i64 n] w fun e w' => e = .returned (.bool true) ∧ Below w.heap.size w w' := by
  have HF := Lib.hid (few_any w a cap A C ds hin.many hin.docs hin.long)
  have HIN := Lib.hid hin
  clear hin
  go_enter Try.func7, Try.ntmps7
  go_wp2_with fail
  refine HF.out.mono ?_
  rintro e w' ⟨b, rfl, hfew, rfl⟩
  cases b with
  | false =>
    clear hfew
    go_wp2_with (go_at_call 28; refine (awake14_any _).mono ?_; rintro e w1 ⟨rfl, hb⟩)
    go_ret
    exact ⟨rfl, hb⟩
  | true =>
    obtain ⟨hf1, hf2, hf3⟩ := hfew rfl
    have HFEW := Lib.hid (FewP.mk hf1 hf2 hf3 HIN.out.byte)
    clear hfew hf2 HF
    have HOK := Lib.hid HFEW.out.ok
    go_wp2_with fail
    refine (fnew_any w a cap A C ds HIN.out.docs HOK.out).mono ?_
    rintro e w1 ⟨bf, rfl, hf, hb1, -⟩
    have HF1 := Lib.hid hf
    have HB1 := Lib.hid hb1
    have HD1 := Lib.hid (HIN.out.docs.kept hb1)
    clear hf hb1
    have em : bits .and .i64 n 31 = n % 32 := i64_mask n 5 (by omega)
    obtain ⟨m, hm⟩ : ∃ m : Nat, (n % 32) + 1 = (m : Int) := ⟨(n % 32 + 1).toNat, by omega⟩
    have hm1 : 1 ≤ m := by omega
    have hm2 : m ≤ 32 := by omega
    have ew : IntKind.i64.wrap (n % 32 + 1) = (m : Int) := by rw [hm]; exact IntWalk.i64_in _ (by omega)
    have HIX := Lib.hid (run_ix (P := Try.prog) 25 (by kernel_rfl) size_bytes a ds.length cap HIN.out.docs.top.at_ .i64)
    clear hm
    go_wp2_with fail
    clear em ew
    go_loopw [7] (fun v7 wr => ∃ i : Nat, i ≤ ds.length ∧ v7 = .int .i64 (i : Int) ∧ Below w1.heap.size w1 wr) (fun v7 _ => ds.length - (intOf v7).toNat)
    case atStart => exact ⟨0, Nat.zero_le _, rfl, Below.refl _ _⟩
    case round =>
      obtain ⟨i, hi, rfl, hbel⟩ := hrel
      have HFr := Lib.hid (HF1.out.kept hbel)
      have HDr := Lib.hid (HD1.out.kept hbel)
      have HBr := Lib.hid hbel
      clear hbel
      by_cases hlt : i < ds.length
      · have hx := fun W => HIX.out W i hlt
        have hc := HDr.out.top.cell i hlt
        have hdl := HOK.out.long _ (doc_mem hlt)
        have HC := Lib.hid (fun W (h : DocsAt W a A C ds) => h.top.cell i hlt)
        have HDI := Lib.hid (fun W (h : DocsAt W a A C ds) => h.each i hlt)
        have HFP := Lib.hid (fun W (h : FmAt W bf ds) (k : Nat) (hk : (Lit.int .i64 (k : Int)).wf = true) => fpiece_any W bf ds HOK.out h i hlt k m hk (WalkArith.wf_i64 ⟨by omega, by omega⟩))
        generalize hd : ds.getD i [] = d at *
        have HD := Lib.hid hd
        clear hd
        go_wp2_with fail
        clear hc
        go_loopw [8, 9] (fun v8 v9 wo => ∃ k : Nat, k ≤ d.length + m ∧ v9 = .int .i64 (k : Int) ∧ v8 = .string (sB (d.take k)) ∧ Below w1.heap.size w1 wo) (fun _ v9 _ => d.length + m - (intOf v9).toNat)
        case atStart => exact ⟨0, Nat.zero_le _, rfl, by rw [List.take_zero]; unfold sB; rfl, HBr.out⟩
        case round =>
          obtain ⟨k, hk, rfl, rfl, hbel⟩ := hrel
          have HFo := Lib.hid (HF1.out.kept hbel)
          have HDo := Lib.hid (HD1.out.kept hbel)
          have HBo := Lib.hid hbel
          clear hbel
          have hc := HC.out _ HDo.out
          by_cases hlk : k < d.length
          · have HPC := Lib.hid (HFP.out _ HFo.out k (WalkArith.wf_i64 ⟨by omega, by omega⟩))
            have hpl := pieceL_len d k m
            go_wp2_with fail
            refine HPC.out.mono ?_
            rintro e w5 ⟨ap, rfl, hrp, hb5⟩
            have HB5 : Hid (Below w1.heap.size w1 w5) := below_next HBo.out hb5 HBo.out.size
            have HD5 := Lib.hid (HD1.out.kept HB5.out)
            have hcv := conv_str w5 ap (pieceL d k m) (pieceL d k m).length hrp
            have hc5 := HC.out _ HD5.out
            have HTK : Hid (sB (d.take k) ++ sB (pieceL d k m) = sB (d.take (k + m))) := by
              show _ = _
              rw [sB_app]
              unfold pieceL
              rw [List.take_add]
            have hsz := sB_size (pieceL d k m)
            have g6 : (sB (d.take k)).size = k := by rw [sB_size, List.length_take]; omega
            have HPL := Lib.hid hpl
            have y1 : IntKind.i64.wrap ((k : Int) + (m : Int)) = ((k + m : Nat) : Int) := by rw [show (k : Int) + (m : Int) = ((k + m : Nat) : Int) by omega]; exact IntWalk.i64_in _ (by omega)
            have y2 : IntKind.i64.wrap ((d.length : Int) - (k : Int)) = ((d.length - k : Nat) : Int) := by rw [show (d.length : Int) - (k : Int) = ((d.length - k : Nat) : Int) by omega]; exact IntWalk.i64_in _ (by omega)
            clear hpl hrp hb5 hc HPC
            generalize (pieceL d k m).length = pl at *
            generalize sB (pieceL d k m) = sp at *
            rcases Nat.lt_or_ge (d.length - k) m with g1 | g1
            · obtain rfl : pl = d.length - k := by have := HPL.out; omega
              have g2 : ((d.length - k : Nat) : Int) < (m : Int) := by omega
              have g5 : (((d.length - k : Nat) : Int) != min (m : Int) ((d.length - k : Nat) : Int)) = false := by simp; omega
              go_wp2_with fail
              go_roundw
              case rel => exact ⟨k + m, by omega, by go_num, by rw [HTK.out], HB5.out⟩
              case measure => simp [intOf]; omega
            · obtain rfl : pl = m := by have := HPL.out; omega
              have g2 : decide (((d.length - k : Nat) : Int) < (pl : Int)) = false := by simp; omega
              have g3 : decide (d.length - k < pl) = false := by simp; omega
              have g5 : ((pl : Int) != min (pl : Int) ((d.length - k : Nat) : Int)) = false := by simp; omega
              go_wp2_with fail
              go_roundw
              case rel => exact ⟨k + pl, by omega, by go_num, by rw [HTK.out], HB5.out⟩
              case measure => simp [intOf]; omega
          · have hd2 : decide ((k : Int) < (d.length : Int)) = false := by simp; omega
            have htk : d.take k = d := List.take_of_length_le (by omega)
            have hcv := conv_str wr (A i) d (C i) (HDI.out _ HDo.out)
            rw [htk]
            go_wp2_with fail
            go_roundw
            case rel => exact ⟨i + 1, by omega, by go_num, HBo.out⟩
            case measure => simp [intOf]; omega
      · obtain rfl : i = ds.length := by omega
        have hd : decide ((ds.length : Int) < (ds.length : Int)) = false := by simp
        go_wp2_with (go_at_call 28; refine (awake14_any _).mono ?_; rintro e w9 ⟨rfl, hb9⟩)
        go_ret
        exact ⟨rfl, below_next (below_next HB1.out HBr.out HB1.out.size) hb9 (below_next HB1.out HBr.out HB1.out.size).size⟩
end Go.Proofs.Ytjpoebmjfedecaa
