/-
  query.Quote: bytes in quotes.
-/
import Derived.Test.YtdcobmoeligdkaaGreatDoorCmShape
import Derived.Test.YtdcobmoeligdkaaGreatDoorSeqX
namespace Go.Proofs.YtdcobmoeligdkaaGreatDoor
open Go.RowKit Go.Shelf

theorem size_u8c (w : World) : (sizeOf (Tryz.prog.elem 22)).run Tryz.prog w = .ok 1 w := by kernel_rfl
def hexD (d : Nat) : UInt8 := hexL.getD d 0
def escL (c : UInt8) : List UInt8 := if plainB c then [c] else [92, hexD (c.toNat / 16), hexD (c.toNat % 16)]
/-- bytes in quotes -/
def quoteL (b : List UInt8) : List UInt8 := 34 :: (b.flatMap escL ++ [34])
theorem escL_len (c : UInt8) : (escL c).length ≤ 3 := by unfold escL; split <;> simp
theorem flat_len (b : List UInt8) : (b.flatMap escL).length ≤ 3 * b.length := by
  induction b with
  | nil => simp
  | cons c b ih => have := escL_len c; simp only [List.flatMap_cons, List.length_append, List.length_cons]; omega
theorem quoteL_len (b : List UInt8) : (quoteL b).length ≤ 3 * b.length + 2 := by
  unfold quoteL
  have := flat_len b
  simp only [List.length_cons, List.length_append, List.length_nil]; omega
theorem strCells_uS (l : List UInt8) : Lib.strCells (uS l) = Lib.byteCells l := by
  unfold Lib.strCells Lib.byteCells
  first | rfl | (rw [uS_toList])
theorem and15 : ∀ n : Fin 256, bits .and .u8 (n.1 : Int) 15 = ((n.1 % 16 : Nat) : Int) := by decide +kernel
theorem add_uS (a b : List UInt8) (h : a.length + b.length ≤ 1000000000) : ∀ W : World, (Op.stringOp .add (uS a) (uS b)).run Tryz.prog W = .ok (.string (uS (a ++ b))) W := by
  intro W
  rw [run_string_add_sum (P := Tryz.prog) W (uS a) (uS b) (by rw [uS_size, uS_size]; omega), uS_app]
theorem hex_ext : ∀ d : Fin 16, ((⟨#[48, 49, 50, 51, 52, 53, 54, 55, 56, 57, 97, 98, 99, 100, 101, 102]⟩ : ByteArray).extract d.1 (d.1 + 1)).data = (uS [hexD d.1]).data := by decide +kernel
theorem hex_slice (d : Nat) (hd : d < 16) : ∀ W : World, (Instr.slice 9 (.string ⟨#[48, 49, 50, 51, 52, 53, 54, 55, 56, 57, 97, 98, 99, 100, 101, 102]⟩) (some (.int .u8 (d : Int))) (some (.int .u8 ((d : Int) + 1))) none).run Tryz.prog W = .ok (.string (uS [hexD d])) W := by
  intro W
  have hz : (⟨#[48, 49, 50, 51, 52, 53, 54, 55, 56, 57, 97, 98, 99, 100, 101, 102]⟩ : ByteArray).size = 16 := rfl
  rw [run_slice_string (P := Tryz.prog) W 9 _ .u8 .u8 (d : Int) ((d : Int) + 1) (by kernel_rfl) (by omega) (by omega) (by rw [hz]; omega)]
  have h1 : ((d : Int)).toNat = d := by omega
  have h2 : ((d : Int) + 1).toNat = d + 1 := by omega
  rw [h1, h2]
  congr 2
  exact ByteArray.ext (hex_ext ⟨d, hd⟩)
set_option maxRecDepth 100000 in
set_option maxHeartbeats 2000000 in
theorem quote_any (w : World) (a : Option Addr) (cap : Nat) (b : List UInt8) (hn : b.length ≤ 1000000) (hr : Row w a b.length (bV b)) :
    Calls Tryz.prog 12 #[.slice a b.length cap] w fun e w' => e = .returned (.string (uS (quoteL b))) ∧ Below w.heap.size w w' := by
  have hix := run_ix (P := Tryz.prog) 22 (by kernel_rfl) size_u8c a b.length cap hr.at_ .i64
  have HR := Lib.hid hr
  clear hr
  go_enter Tryz.func12, Tryz.ntmps12
  go_wp2_with fail
  have hB0 := Lib.hid (Lib.IsBuilderF.of (Lib.fresh_isBuilder 66 5 w))
  have hb0 : Below w.heap.size w (w.alloc (.cells #[.pointer none, .slice none 0 0] 66)) := (Below.refl _ _).alloc (Nat.le_refl _) _
  have hs0 : w.heap.size ≤ (w.alloc (.cells #[.pointer none, .slice none 0 0] 66)).heap.size := hb0.size
  refine (Tryz.Builder_WriteByte_k w.heap.size w.heap.size [] 34 _ hB0.out (by simp) hs0).mono ?_
  rintro e w1 ⟨rfl, hI1, hb1, -⟩
  have HI1 : Hid (Lib.IsBuilderF 66 5 w.heap.size w.heap.size (Lib.byteCells (34 :: ([] : List UInt8).flatMap escL)) w1) := .inr hI1
  have HB1 : Hid (Below w.heap.size w w1) := hb0.trans hb1
  clear hI1 hb0 hb1 hs0 hB0
  go_wp2_with fail
  go_loopw [9] (fun i wr => ∃ k : Nat, k ≤ b.length ∧ i = .int .i64 k ∧ Lib.IsBuilderF 66 5 w.heap.size w.heap.size (Lib.byteCells (34 :: (b.take k).flatMap escL)) wr ∧ Below w.heap.size w wr) (fun i _ => b.length - (intOf i).toNat)
  case atStart => exact ⟨0, Nat.zero_le _, rfl, HI1.out, HB1.out⟩
  case round =>
    obtain ⟨k, hk, rfl, hI, hbw⟩ := hrel
    have HI := Lib.hid hI
    have HB := Lib.hid hbw
    clear hI hbw
    by_cases hlt : k < b.length
    · have d1 : wr.cell? ⟨bOf a, oOf a + k, none⟩ = some (.int .u8 ((b.getD k 0).toNat : Int)) := (HR.out.kept HB.out).cell k hlt
      obtain ⟨c, hc⟩ : ∃ c, c = b.getD k 0 := ⟨_, rfl⟩
      have hfl := flat_len (b.take k)
      rw [List.length_take] at hfl
      have HT : Hid ((b.take (k + 1)).flatMap escL = (b.take k).flatMap escL ++ escL c) := by
        show _ = _
        rw [List.take_succ_eq_append_getElem hlt, List.flatMap_append, List.flatMap_singleton, hc, List.getD_eq_getElem?_getD, List.getElem?_eq_getElem hlt]; rfl
      rw [← hc] at d1
      clear hc
      have HPL := Lib.hid (plain_any c)
      have hcl := c.toNat_lt
      have hs1 := HB.out.size
      by_cases ep : plainB c = true
      · have he : escL c = [c] := if_pos ep
        have HE := Lib.hid he
        rw [ep] at HPL
        have HW := Lib.hid (Tryz.Builder_WriteByte_k w.heap.size w.heap.size (Lib.byteCells (34 :: (b.take k).flatMap escL)) (c.toNat : Int) wr HI.out (by rw [Lib.byteCells_length]; simp only [List.length_cons]; omega) hs1)
        have HBC : Hid (Lib.byteCells (34 :: (b.take (k + 1)).flatMap escL) = Lib.byteCells (34 :: (b.take k).flatMap escL) ++ [.int .u8 (c.toNat : Int)]) := by
          show _ = _
          rw [HT.out, HE.out]; simp [Lib.byteCells]
        clear he ep HT HE
        generalize c.toNat = cn at *
        go_wp2_with (first
          | (go_at_call 26; refine (HPL.out _).mono ?_; rintro e w4 ⟨rfl, rfl⟩)
          | (go_at_call 25; refine HW.out.mono ?_; rintro e w5 ⟨rfl, hI5, hb5, -⟩; have HI5 := Lib.hid hI5; have HB5 := Lib.hid hb5; clear hI5 hb5))
        go_roundw
        case rel => exact ⟨k + 1, by omega, by go_num, by rw [HBC.out]; exact .inr HI5.out, HB.out.trans HB5.out⟩
        case measure => simp [intOf]; omega
      · have he : escL c = [92, hexD (c.toNat / 16), hexD (c.toNat % 16)] := if_neg ep
        rw [Bool.eq_false_iff.2 ep] at HPL
        have HBC : Hid (Lib.byteCells (34 :: (b.take (k + 1)).flatMap escL) = Lib.byteCells (34 :: (b.take k).flatMap escL) ++ Lib.strCells (uS [92, hexD (c.toNat / 16), hexD (c.toNat % 16)])) := by
          show _ = _
          rw [HT.out, he, strCells_uS]; simp [Lib.byteCells]
        have h15 := and15 ⟨c.toNat, hcl⟩
        simp only at h15
        have hq : ((c.toNat : Nat) : Int) / 16 = ((c.toNat / 16 : Nat) : Int) := by omega
        have hd1 : c.toNat / 16 < 16 := by omega
        have hd2 : c.toNat % 16 < 16 := by omega
        clear he ep HT
        generalize c.toNat / 16 = d1n at *
        generalize c.toNat % 16 = d2n at *
        generalize c.toNat = cn at *
        have hs16 := hex_slice d1n hd1
        have hs17 := hex_slice d2n hd2
        have hw1 : IntKind.u8.wrap ((d1n : Int) + 1) = (d1n : Int) + 1 := IntWalk.u8_in _ (by omega)
        have hw2 : IntKind.u8.wrap ((d2n : Int) + 1) = (d2n : Int) + 1 := IntWalk.u8_in _ (by omega)
        generalize hexD d1n = x1 at *
        generalize hexD d2n = x2 at *
        have ha1 : ∀ W : World, (Op.stringOp .add ⟨#[92]⟩ (uS [x1])).run Tryz.prog W = .ok (.string (uS [92, x1])) W := add_uS [92] [x1] (by simp)
        have ha2 : ∀ W : World, (Op.stringOp .add (uS [92, x1]) (uS [x2])).run Tryz.prog W = .ok (.string (uS [92, x1, x2])) W := add_uS [92, x1] [x2] (by simp)
        have HW := Lib.hid (fun W => Tryz.Builder_WriteString_k w.heap.size w.heap.size (Lib.byteCells (34 :: (b.take k).flatMap escL)) (uS [92, x1, x2]) W)
        go_wp2_with (go_at_call 26; refine (HPL.out _).mono ?_; rintro e w4 ⟨rfl, rfl⟩)
        refine wp_region_still_tail 14 (by kernel_rfl) (by kernel_rfl) ?_
        simp only [List.take_succ_cons, List.take_zero, List.drop_succ_cons, List.drop_zero]
        change wpStill _ _ wr.drew (fun a' => wpList _ _ _ _ a' wr.drew) _ _
        repeat still_step
        refine wpStill_nil ?_
        change wpList _ _ _ _ _ wr.drew
        have HId : Hid (Lib.IsBuilderF 66 5 w.heap.size w.heap.size (Lib.byteCells (34 :: (b.take k).flatMap escL)) wr.drew) := HI.out
        have hlenB : (Lib.byteCells (34 :: (b.take k).flatMap escL)).length + (uS [92, x1, x2]).size ≤ 140737488355328 := by rw [Lib.byteCells_length, uS_size]; simp only [List.length_cons, List.length_nil]; omega
        have HLB := Lib.hid hlenB
        clear hlenB
        go_wp2_with (go_at_call 27; refine (HW.out _ HId.out HLB.out hs1).mono ?_; rintro e w5 ⟨rfl, hI5, hb5, -⟩; have HI5 := Lib.hid hI5; have HB5 := Lib.hid hb5; clear hI5 hb5)
        go_roundw
        case rel => exact ⟨k + 1, by omega, by go_num, by rw [HBC.out]; exact .inr HI5.out, (HB.out.drew).trans HB5.out⟩
        case measure => simp [intOf]; omega
    · obtain rfl : k = b.length := by omega
      have hd : decide ((b.length : Int) < (b.length : Int)) = false := by simp
      have hs1 := HB.out.size
      have hfl := flat_len b
      have HTA : Hid (b.take b.length = b) := by show _ = _; exact List.take_length
      rw [HTA.out] at HI
      have HW := Lib.hid (Tryz.Builder_WriteByte_k w.heap.size w.heap.size (Lib.byteCells (34 :: b.flatMap escL)) 34 wr HI.out (by rw [Lib.byteCells_length]; simp only [List.length_cons]; omega) hs1)
      have HBC : Hid (Lib.byteCells (34 :: b.flatMap escL) ++ [.int .u8 34] = Lib.byteCells (quoteL b)) := by show _ = _; unfold quoteL; simp [Lib.byteCells]
      go_wp2_with (first
        | (go_at_call 25; refine HW.out.mono ?_; rintro e w5 ⟨rfl, hI5, hb5, -⟩; rw [HBC.out] at hI5; have HI5 : Hid (Lib.IsBuilderF 66 5 w.heap.size w.heap.size (Lib.byteCells (quoteL b)) w5) := .inr hI5; have HB5 := Lib.hid (HB.out.trans hb5); clear hI5 hb5)
        | (go_at_call 28; refine (Tryz.Builder_String_any_k w.heap.size w.heap.size (quoteL b) _ HI5.out HB5.out.size).mono ?_; rintro e w6 ⟨rfl, -, hb6, -⟩; have HB6 := Lib.hid (HB5.out.trans hb6); clear hb6))
      go_ret
      exact ⟨rfl, HB6.out⟩
end Go.Proofs.YtdcobmoeligdkaaGreatDoor
