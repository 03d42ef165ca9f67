/-
  What the document fixes of indexes of documents: concordancelaw14.awake.
-/
import Derived.Test.YtjpoebmjfedecaaFmHitsLPut
import Derived.Test.YtjpoebmjfedecaaSameHits
namespace Go.Proofs.Ytjpoebmjfedecaa
open Go.RowKit

theorem baA_loc : (locL baA [97]).take 9 = [(0, 1), (1, 0)] := by
  unfold locL hitL
  rw [if_neg (by decide)]
  unfold foundL
  decide +kernel
set_option maxRecDepth 100000 in
set_option maxHeartbeats 1000000 in
theorem awake14_any (w : World) : Calls Try.prog 28 #[] w fun e w' => e = .returned (.bool true) ∧ Below w.heap.size w w' := by
  have hs := fnew_any _ _ 2 _ _ baA (baA_at w) baA_ok
  have HS := Lib.hid hs
  have HB0 := Lib.hid (baW_below w)
  have hcv1 := Lib.run_convert_bytes_const (P := Try.prog) w 22 5 #[.int .u8 98, .int .u8 97] 2 2 Try.underlying22 Try.underlying5
  have hcv2 := Joins.run_convert_bytes_const_at (P := Try.prog) (w.alloc (.cells #[.int .u8 98, .int .u8 97] 5 (2, 3))) 22 5 #[.int .u8 97] 1 1 (w.heap.size + 1) (by simp) Try.underlying22 Try.underlying5
  simp only [List.size_toArray, List.length_cons, List.length_nil, Nat.zero_add, Nat.reduceAdd] at hcv1 hcv2
  clear hs
  go_enter Try.func28, Try.ntmps28
  go_wp2_with fail
  clear hcv1 hcv2
  refine (show Calls Try.prog _ _ (baW w) _ from HS.out.mono ?_)
  rintro e w1 ⟨bf, rfl, hf, hb, hlo⟩
  have HB1 : Hid (Below w.heap.size w w1) := below_next HB0.out hb HB0.out.size
  have HF1 := Lib.hid hf
  clear hf hb HS HB0 hlo
  have hcv3 := Lib.run_convert_bytes_const (P := Try.prog) w1 22 5 #[.int .u8 97] 1 1 Try.underlying22 Try.underlying5
  simp only [List.size_toArray, List.length_cons, List.length_nil, Nat.zero_add, Nat.reduceAdd] at hcv3
  have hb3 : Below w1.heap.size w1 (w1.alloc (.cells #[.int .u8 97] 5 (1, 2))) := (Below.refl _ _).alloc (Nat.le_refl _) _
  have hrow : Row (w1.alloc (.cells #[.int .u8 97] 5 (1, 2))) (some ⟨w1.heap.size, 0, none⟩) [97].length (byteV [97]) := row_marked w1 #[.int .u8 97] 5 (1, 2) (byteV [97]) (by
    intro i hi
    match i, hi with
    | 0, _ => rfl)
  have hct := fcount_any _ bf baA (HF1.out.kept hb3) (some ⟨w1.heap.size, 0, none⟩) 1 [97] (by decide) (by decide) hrow (by decide)
  rw [baA_bwt, baA_bk] at hct
  have HCT := Lib.hid hct
  have HB3 : Hid (Below w.heap.size w (w1.alloc (.cells #[.int .u8 97] 5 (1, 2)))) := below_next HB1.out hb3 HB1.out.size
  have HF3 := Lib.hid (HF1.out.kept hb3)
  clear hct hrow hb3 HB1 HF1
  go_wp2_with fail
  refine (show Calls Try.prog _ _ (w1.alloc (.cells #[.int .u8 97] 5 (1, 2))) _ from HCT.out.mono ?_)
  rintro e w4 ⟨rfl, hb4⟩
  have HB4 : Hid (Below w.heap.size w w4) := below_next HB3.out hb4 HB3.out.size
  have HF4 := Lib.hid (HF3.out.kept hb4)
  clear hb4 HB3 HF3 HCT hcv3
  have hfi := fhits_any w4 bf baA HF4.out baA_ok [97] (by decide) (by decide) 9 (by decide)
  unfold FHitsPost at hfi
  rw [baA_loc, show sB [97] = ⟨#[97]⟩ by unfold sB; rfl] at hfi
  have HFI := Lib.hid hfi
  clear hfi
  simp only [Nat.reduceSub]
  go_wp2_with fail
  refine HFI.out.mono ?_
  rintro e w5 ⟨a, cap, rfl, hr5, hb5⟩
  have hrl : HRow (w5.alloc (.cells #[.int .i64 0, .int .i64 1, .int .i64 1, .int .i64 0] 47)) (some ⟨w5.heap.size, 0, none⟩) [(0, 1), (1, 0)] :=
    ⟨row_marked w5 #[.int .i64 0, .int .i64 1, .int .i64 1, .int .i64 0] 47 (0, 0) (fun j => (hitVs [(0, 1), (1, 0)]).getD j undef) (by
      intro i hi
      simp only [hitVs_cons, hitVs_nil]
      match i, hi with
      | 0, _ => rfl
      | 1, _ => rfl
      | 2, _ => rfl
      | 3, _ => rfl)⟩
  have hb6 : Below w5.heap.size w5 (w5.alloc (.cells #[.int .i64 0, .int .i64 1, .int .i64 1, .int .i64 0] 47)) := (Below.refl _ _).alloc (Nat.le_refl _) _
  have HSA := Lib.hid (samehits_any _ a (some ⟨w5.heap.size, 0, none⟩) cap 2 [(0, 1), (1, 0)] (by decide) (hr5.kept hb6) hrl)
  have HB5 : Hid (Below w.heap.size w w5) := below_next HB4.out hb5 HB4.out.size
  have HB6 : Hid (Below w.heap.size w (w5.alloc (.cells #[.int .i64 0, .int .i64 1, .int .i64 1, .int .i64 0] 47))) := below_next HB5.out hb6 HB5.out.size
  clear hrl hb6 hr5 hb5 HB5
  go_wp2_with fail
  refine HSA.out.mono ?_
  rintro e w7 ⟨rfl, j2, rfl⟩
  go_wp2
  go_ret
  exact ⟨rfl, below_drewN HB6.out j2⟩
end Go.Proofs.Ytjpoebmjfedecaa
