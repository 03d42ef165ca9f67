/-
  What the document fixes of indexes: concordancelaw12.awake.
-/
import Derived.Test.YtckmabdphdcpmaaBackRange
import Derived.Test.YtckmabdphdcpmaaBwtAwake
import Derived.Lib.SlBytesConst
namespace Go.Proofs.Ytckmabdphdcpmaa
open Go.RowKit

theorem baA_bwt : bwtOf baA = [98, 98, 99, 0, 0] := by
  have e : saOf baA = [2, 4, 1, 3, 0] := (saOf_sa baA).one (by have := baA_sa; exact this)
  unfold bwtOf
  rw [e]; rfl
theorem baA_st : stC [98, 98, 99, 0, 0] 1 = 2 := by unfold stC below; rfl
theorem baA_bk : bkR [98, 98, 99, 0, 0] [97] = (2, 4) := by
  rw [bkR_cons, bkR_nil]
  have e1 : stC [98, 98, 99, 0, 0] (97 + 1) = 2 := by unfold stC below; rfl
  have e2 : rkC [98, 98, 99, 0, 0] (97 + 1) 0 = 0 := rkC_zero _ _
  have e3 : rkC [98, 98, 99, 0, 0] (97 + 1) 5 = 2 := by unfold rkC inK; rfl
  simp only [e1, e2]
  show (2, 2 + rkC [98, 98, 99, 0, 0] (97 + 1) 5) = _
  rw [e3]
set_option maxRecDepth 100000 in
set_option maxHeartbeats 400000 in
theorem bnew_one (w : World) : Calls Try.prog 12 #[.slice (some ⟨w.heap.size, 0, none⟩) 1 1] (w.alloc (.cells #[.int .u16 98] 57)) fun e w' => e = .returned (.tuple #[.pointer none, .int .i64 3]) ∧ Below w.heap.size w w' := by
  have hb0 : Below w.heap.size w (w.alloc (.cells #[.int .u16 98] 57)) := (Below.refl _ w).alloc (Nat.le_refl _) _
  have HD := Lib.hid (docs_any _ _ 1 [98] (by decide) (Nat.le_trans (stC_le _ _) (by decide)) (syms1 w))
  have HB0 := Lib.hid hb0
  clear hb0
  go_enter Try.func12, Try.ntmps12
  go_wp2_with fail
  refine HD.out.mono ?_
  rintro e w1 (⟨a1, A1, es, rfl, -, hl, -, -, hb1⟩ | ⟨rfl, hg, hb⟩ | ⟨rfl, hg, hno, hb⟩)
  · exact (docs_one es hl).elim
  · rw [great1] at hg; cases hg
  · have HB1 : Hid (Below w.heap.size w w1) := below_next HB0.out hb HB0.out.size
    clear hg hno hb HD
    go_wp2
    go_ret2
    exact ⟨rfl, HB1.out⟩
set_option maxRecDepth 100000 in
set_option maxHeartbeats 1000000 in
theorem awake12_any (w : World) : Calls Try.prog 9 #[] w fun e w' => e = .returned (.bool true) ∧ Below w.heap.size w w' := by
  have hs := bmade_any _ _ 2 _ _ baA (baA_at w) baA_ok
  have e2 : baA.length = 2 := rfl
  rw [e2, baA_bwt] at hs
  have HS := Lib.hid hs
  have HB0 := Lib.hid (baW_below w)
  have hcv1 := Lib.run_convert_bytes_const (P := Try.prog) w 23 5 #[.int .u8 98, .int .u8 97] 2 2 Try.underlying23 Try.underlying5
  have hcv2 := Joins.run_convert_bytes_const_at (P := Try.prog) (w.alloc (.cells #[.int .u8 98, .int .u8 97] 5 (2, 3))) 23 5 #[.int .u8 97] 1 1 (w.heap.size + 1) (by simp) Try.underlying23 Try.underlying5
  simp only [List.size_toArray, List.length_cons, List.length_nil, Nat.zero_add, Nat.reduceAdd] at hcv1 hcv2
  clear hs e2
  go_enter Try.func9, Try.ntmps9
  go_wp2_with fail
  clear hcv1 hcv2
  refine (show Calls Try.prog _ _ (baW w) _ from HS.out.mono ?_)
  rintro e w1 ⟨bx, bm, al, cap, rfl, hi, hb, hlo⟩
  have HB1 : Hid (Below w.heap.size w w1) := below_next HB0.out hb HB0.out.size
  have HI1 := Lib.hid hi
  clear hi hb HS HB0 hlo
  go_wp2_with fail
  refine (show Calls Try.prog _ _ (w1.alloc (.cells #[.int .u16 98] 57)) _ from (bnew_one w1).mono ?_)
  rintro e w2 ⟨rfl, hb2⟩
  have HB2 : Hid (Below w.heap.size w w2) := below_next HB1.out hb2 HB1.out.size
  have HI2 := Lib.hid (HI1.out.kept hb2)
  clear hb2 HB1 HI1
  have hcv3 := Lib.run_convert_bytes_const (P := Try.prog) w2 23 5 #[.int .u8 97] 1 1 Try.underlying23 Try.underlying5
  simp only [List.size_toArray, List.length_cons, List.length_nil, Nat.zero_add, Nat.reduceAdd] at hcv3
  have hb3 : Below w2.heap.size w2 (w2.alloc (.cells #[.int .u8 97] 5 (1, 2))) := (Below.refl _ _).alloc (Nat.le_refl _) _
  have hrow : Row (w2.alloc (.cells #[.int .u8 97] 5 (1, 2))) (some ⟨w2.heap.size, 0, none⟩) [97].length (byteV [97]) := row_marked w2 #[.int .u8 97] 5 (1, 2) (byteV [97]) (by
    intro i hi
    match i, hi with
    | 0, _ => rfl)
  have hct := bcount_any _ bx bm al cap _ (HI2.out.kept hb3) (some ⟨w2.heap.size, 0, none⟩) 1 [97] (by decide) (by decide) hrow (by decide)
  rw [baA_bk] at hct
  have HCT := Lib.hid hct
  have HB3 : Hid (Below w.heap.size w (w2.alloc (.cells #[.int .u8 97] 5 (1, 2)))) := below_next HB2.out hb3 HB2.out.size
  have HI3 := Lib.hid (HI2.out.kept hb3)
  clear hct hrow hb3 HB2 HI2
  go_wp2_with fail
  clear hcv3
  refine (show Calls Try.prog _ _ (w2.alloc (.cells #[.int .u8 97] 5 (1, 2))) _ from HCT.out.mono ?_)
  rintro e w4 ⟨rfl, hb4⟩
  have HB4 : Hid (Below w.heap.size w w4) := below_next HB3.out hb4 HB3.out.size
  have HI4 := Lib.hid (HI3.out.kept hb4)
  have HDO := Lib.hid (bdocs_any w4 bx bm al cap _ HI4.out)
  rw [baA_st] at HDO
  have HLN := Lib.hid (blen_any w4 bx bm al cap _ HI4.out)
  clear hb4 HB3 HI3 HCT
  go_wp2_with fail
  refine HDO.out.mono ?_
  rintro e w' ⟨rfl, rfl⟩
  go_wp2_with fail
  refine HLN.out.mono ?_
  rintro e w' ⟨rfl, rfl⟩
  go_wp2
  go_ret
  exact ⟨rfl, HB4.out⟩
end Go.Proofs.Ytckmabdphdcpmaa
