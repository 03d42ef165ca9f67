/-
  concordanceref23.Quote: bytes in quotes.
-/
import Derived.Test.YtdcobmoeligdkaaGreatDoorCmTok
namespace Go.Proofs.YtdcobmoeligdkaaGreatDoor
open Go.RowKit Go.Shelf

theorem hex_sliceI (d : Nat) (hd : d < 16) : ∀ W : World, (Instr.slice 9 (.string ⟨#[48, 49, 50, 51, 52, 53, 54, 55, 56, 57, 97, 98, 99, 100, 101, 102]⟩) (some (.int .i64 (d : Int))) (some (.int .i64 ((d : Int) + 1))) none).run Tryz.prog W = .ok (.string (uS [hexD d])) W := by
  intro W
  have hz : (⟨#[48, 49, 50, 51, 52, 53, 54, 55, 56, 57, 97, 98, 99, 100, 101, 102]⟩ : ByteArray).size = 16 := rfl
  rw [run_slice_string (P := Tryz.prog) W 9 _ .i64 .i64 (d : Int) ((d : Int) + 1) (by kernel_rfl) (by omega) (by omega) (by rw [hz]; omega)]
  have h1 : ((d : Int)).toNat = d := by omega
  have h2 : ((d : Int) + 1).toNat = d + 1 := by omega
  rw [h1, h2]
  congr 2
  exact ByteArray.ext (hex_ext ⟨d, hd⟩)
theorem one_slice (b : List UInt8) (k : Nat) (c : UInt8) (h : b[k]? = some c) : ∀ W : World, (Instr.slice 9 (.string (uS b)) (some (.int .i64 (k : Int))) (some (.int .i64 ((k : Int) + 1))) none).run Tryz.prog W = .ok (.string (uS [c])) W := by
  intro W
  obtain ⟨hk, he⟩ := List.getElem?_eq_some_iff.1 h
  have hz := uS_size b
  rw [run_slice_string (P := Tryz.prog) W 9 _ .i64 .i64 (k : Int) ((k : Int) + 1) (by kernel_rfl) (by omega) (by omega) (by rw [hz]; omega)]
  have h1 : ((k : Int)).toNat = k := by omega
  have h2 : ((k : Int) + 1).toNat = k + 1 := by omega
  rw [h1, h2, uS_cut]
  congr 3
  rw [show k + 1 - k = 1 by omega, List.take_one, List.head?_drop, h]; rfl
set_option maxRecDepth 100000 in
set_option maxHeartbeats 2000000 in
theorem rquote_any (w : World) (b : List UInt8) (hn : b.length ≤ 100000) : Calls Tryz.prog 36 #[.string (uS b)] w fun e w' => e = .returned (.string (uS (quoteL b))) ∧ Below w.heap.size w w' := by
  have hsz := uS_size b
  have e34 : (⟨#[34]⟩ : ByteArray) = uS (34 :: ([] : List UInt8).flatMap escL) := rfl
  go_enter Tryz.func36, Tryz.ntmps36
  go_wp2
  go_loopw [3, 4] (fun v3 v4 wr => ∃ k : Nat, k ≤ b.length ∧ v3 = .string (uS (34 :: (b.take k).flatMap escL)) ∧ v4 = .int .i64 (k : Int) ∧ Below w.heap.size w wr) (fun _ v4 _ => b.length - (intOf v4).toNat)
  case atStart => exact ⟨0, Nat.zero_le _, by rw [e34]; rfl, rfl, Below.refl _ _⟩
  case round =>
    obtain ⟨k, hk, rfl, rfl, hb⟩ := hrel
    have HB := Lib.hid hb
    clear hb e34
    by_cases hlt : k < b.length
    · obtain ⟨c, hc⟩ : ∃ c, b[k]? = some c := ⟨b[k], List.getElem?_eq_getElem hlt⟩
      have hix := ixS b k c hc k rfl
      have hfl := flat_len (b.take k)
      rw [List.length_take] at hfl
      have HT : Hid ((b.take (k + 1)).flatMap escL = (b.take k).flatMap escL ++ escL c) := by
        show _ = _
        rw [List.take_succ_eq_append_getElem hlt, List.flatMap_append, List.flatMap_singleton]
        rw [Option.some.inj ((List.getElem?_eq_getElem hlt).symm.trans hc)]
      have hsl := one_slice b k c hc
      have hcl := c.toNat_lt
      have HPL : Hid (plainB c = (decide (32 ≤ c.toNat) && decide (c.toNat ≤ 126) && !decide (c.toNat = 34) && !decide (c.toNat = 92))) := rfl
      clear hc
      by_cases h1 : (32 : Int) ≤ (c.toNat : Int)
      · by_cases h2 : (c.toNat : Int) ≤ 126
        · by_cases h3 : (c.toNat : Int) = 34
          · have h3' : c.toNat = 34 := by omega
            have h3b : ((c.toNat : Int) != 34) = false := by rw [h3]; rfl
            have HBC : Hid (34 :: (b.take (k + 1)).flatMap escL = (34 :: (b.take k).flatMap escL) ++ [92] ++ [hexD (c.toNat / 16)] ++ [hexD (c.toNat % 16)]) := by
              show _ = _
              rw [HT.out, show escL c = [92, hexD (c.toNat / 16), hexD (c.toNat % 16)] from if_neg (by rw [HPL.out]; simp [*])]; simp
            clear h3 h3'
            have h15 := and15 ⟨c.toNat, hcl⟩
            simp only at h15
            have hq : ((c.toNat : Nat) : Int) / 16 = ((c.toNat / 16 : Nat) : Int) := by omega
            have hd1 : c.toNat / 16 < 16 := by omega
            have hd2 : c.toNat % 16 < 16 := by omega
            have hlen3 : (34 :: (b.take k).flatMap escL).length ≤ 400000 := by simp only [List.length_cons]; omega
            clear HT HPL hfl
            generalize c.toNat / 16 = d1n at *
            generalize c.toNat % 16 = d2n at *
            generalize c.toNat = cn at *
            generalize (34 :: (b.take k).flatMap escL) = acc at *
            have hs16 := hex_sliceI d1n hd1
            have hs17 := hex_sliceI d2n hd2
            generalize hexD d1n = x1 at *
            generalize hexD d2n = x2 at *
            have ha0 : ∀ W : World, (Op.stringOp .add (uS acc) ⟨#[92]⟩).run Tryz.prog W = .ok (.string (uS (acc ++ [92]))) W := add_uS acc [92] (by simp; omega)
            have ha1 := add_uS (acc ++ [92]) [x1] (by simp; omega)
            have ha2 := add_uS (acc ++ [92] ++ [x1]) [x2] (by simp; omega)
            generalize acc ++ [92] ++ [x1] ++ [x2] = l3 at *
            generalize acc ++ [92] ++ [x1] = l2 at *
            generalize acc ++ [92] = l1 at *
            go_wp2
            go_region
            go_wp2
            go_roundw
            case rel => exact ⟨k + 1, by omega, by rw [HBC.out], by go_num, by have := HB.out; exact below_drewN this _⟩
            case measure => simp [intOf]; omega
          · have h3' : ¬ c.toNat = 34 := by omega
            have h3b : ((c.toNat : Int) != 34) = true := by rw [bne_iff_ne]; exact h3
            by_cases h4 : (c.toNat : Int) = 92
            · have h4' : c.toNat = 92 := by omega
              have h4b : ((c.toNat : Int) != 92) = false := by rw [h4]; rfl
              have HBC : Hid (34 :: (b.take (k + 1)).flatMap escL = (34 :: (b.take k).flatMap escL) ++ [92] ++ [hexD (c.toNat / 16)] ++ [hexD (c.toNat % 16)]) := by
                show _ = _
                rw [HT.out, show escL c = [92, hexD (c.toNat / 16), hexD (c.toNat % 16)] from if_neg (by rw [HPL.out]; simp [*])]; simp
              clear h4 h4'
              have h15 := and15 ⟨c.toNat, hcl⟩
              simp only at h15
              have hq : ((c.toNat : Nat) : Int) / 16 = ((c.toNat / 16 : Nat) : Int) := by omega
              have hd1 : c.toNat / 16 < 16 := by omega
              have hd2 : c.toNat % 16 < 16 := by omega
              have hlen3 : (34 :: (b.take k).flatMap escL).length ≤ 400000 := by simp only [List.length_cons]; omega
              clear HT HPL hfl
              generalize c.toNat / 16 = d1n at *
              generalize c.toNat % 16 = d2n at *
              generalize c.toNat = cn at *
              generalize (34 :: (b.take k).flatMap escL) = acc at *
              have hs16 := hex_sliceI d1n hd1
              have hs17 := hex_sliceI d2n hd2
              generalize hexD d1n = x1 at *
              generalize hexD d2n = x2 at *
              have ha0 : ∀ W : World, (Op.stringOp .add (uS acc) ⟨#[92]⟩).run Tryz.prog W = .ok (.string (uS (acc ++ [92]))) W := add_uS acc [92] (by simp; omega)
              have ha1 := add_uS (acc ++ [92]) [x1] (by simp; omega)
              have ha2 := add_uS (acc ++ [92] ++ [x1]) [x2] (by simp; omega)
              generalize acc ++ [92] ++ [x1] ++ [x2] = l3 at *
              generalize acc ++ [92] ++ [x1] = l2 at *
              generalize acc ++ [92] = l1 at *
              go_wp2
              go_region
              go_wp2
              go_roundw
              case rel => exact ⟨k + 1, by omega, by rw [HBC.out], by go_num, by have := HB.out; exact below_drewN this _⟩
              case measure => simp [intOf]; omega
            · have h4' : ¬ c.toNat = 92 := by omega
              have h4b : ((c.toNat : Int) != 92) = true := by rw [bne_iff_ne]; exact h4
              have HBC : Hid (34 :: (b.take (k + 1)).flatMap escL = (34 :: (b.take k).flatMap escL) ++ [c]) := by
                show _ = _
                rw [HT.out, show escL c = [c] from if_pos (by rw [HPL.out]; simp; omega)]; simp
              have hlen3 : (34 :: (b.take k).flatMap escL).length ≤ 400000 := by simp only [List.length_cons]; omega
              have ha0 := add_uS (34 :: (b.take k).flatMap escL) [c] (by simp only [List.length_singleton]; omega)
              generalize (34 :: (b.take k).flatMap escL) = acc at *
              generalize c.toNat = cn at *
              clear HT HPL hfl
              go_wp2
              go_roundw
              case rel => exact ⟨k + 1, by omega, by rw [HBC.out], by go_num, HB.out⟩
              case measure => simp [intOf]; omega
        · have h2' : ¬ c.toNat ≤ 126 := by omega
          have HBC : Hid (34 :: (b.take (k + 1)).flatMap escL = (34 :: (b.take k).flatMap escL) ++ [92] ++ [hexD (c.toNat / 16)] ++ [hexD (c.toNat % 16)]) := by
            show _ = _
            rw [HT.out, show escL c = [92, hexD (c.toNat / 16), hexD (c.toNat % 16)] from if_neg (by rw [HPL.out]; simp [*])]; simp
          clear h2'
          have h15 := and15 ⟨c.toNat, hcl⟩
          simp only at h15
          have hq : ((c.toNat : Nat) : Int) / 16 = ((c.toNat / 16 : Nat) : Int) := by omega
          have hd1 : c.toNat / 16 < 16 := by omega
          have hd2 : c.toNat % 16 < 16 := by omega
          have hlen3 : (34 :: (b.take k).flatMap escL).length ≤ 400000 := by simp only [List.length_cons]; omega
          clear HT HPL hfl
          generalize c.toNat / 16 = d1n at *
          generalize c.toNat % 16 = d2n at *
          generalize c.toNat = cn at *
          generalize (34 :: (b.take k).flatMap escL) = acc at *
          have hs16 := hex_sliceI d1n hd1
          have hs17 := hex_sliceI d2n hd2
          generalize hexD d1n = x1 at *
          generalize hexD d2n = x2 at *
          have ha0 : ∀ W : World, (Op.stringOp .add (uS acc) ⟨#[92]⟩).run Tryz.prog W = .ok (.string (uS (acc ++ [92]))) W := add_uS acc [92] (by simp; omega)
          have ha1 := add_uS (acc ++ [92]) [x1] (by simp; omega)
          have ha2 := add_uS (acc ++ [92] ++ [x1]) [x2] (by simp; omega)
          generalize acc ++ [92] ++ [x1] ++ [x2] = l3 at *
          generalize acc ++ [92] ++ [x1] = l2 at *
          generalize acc ++ [92] = l1 at *
          go_wp2
          go_region
          go_wp2
          go_roundw
          case rel => exact ⟨k + 1, by omega, by rw [HBC.out], by go_num, by have := HB.out; exact below_drewN this _⟩
          case measure => simp [intOf]; omega
      · have h1' : ¬ 32 ≤ c.toNat := by omega
        have HBC : Hid (34 :: (b.take (k + 1)).flatMap escL = (34 :: (b.take k).flatMap escL) ++ [92] ++ [hexD (c.toNat / 16)] ++ [hexD (c.toNat % 16)]) := by
          show _ = _
          rw [HT.out, show escL c = [92, hexD (c.toNat / 16), hexD (c.toNat % 16)] from if_neg (by rw [HPL.out]; simp [*])]; simp
        clear h1'
        have h15 := and15 ⟨c.toNat, hcl⟩
        simp only at h15
        have hq : ((c.toNat : Nat) : Int) / 16 = ((c.toNat / 16 : Nat) : Int) := by omega
        have hd1 : c.toNat / 16 < 16 := by omega
        have hd2 : c.toNat % 16 < 16 := by omega
        have hlen3 : (34 :: (b.take k).flatMap escL).length ≤ 400000 := by simp only [List.length_cons]; omega
        clear HT HPL hfl
        generalize c.toNat / 16 = d1n at *
        generalize c.toNat % 16 = d2n at *
        generalize c.toNat = cn at *
        generalize (34 :: (b.take k).flatMap escL) = acc at *
        have hs16 := hex_sliceI d1n hd1
        have hs17 := hex_sliceI d2n hd2
        generalize hexD d1n = x1 at *
        generalize hexD d2n = x2 at *
        have ha0 : ∀ W : World, (Op.stringOp .add (uS acc) ⟨#[92]⟩).run Tryz.prog W = .ok (.string (uS (acc ++ [92]))) W := add_uS acc [92] (by simp; omega)
        have ha1 := add_uS (acc ++ [92]) [x1] (by simp; omega)
        have ha2 := add_uS (acc ++ [92] ++ [x1]) [x2] (by simp; omega)
        generalize acc ++ [92] ++ [x1] ++ [x2] = l3 at *
        generalize acc ++ [92] ++ [x1] = l2 at *
        generalize acc ++ [92] = l1 at *
        go_wp2
        go_region
        go_wp2
        go_roundw
        case rel => exact ⟨k + 1, by omega, by rw [HBC.out], by go_num, by have := HB.out; exact below_drewN this _⟩
        case measure => simp [intOf]; omega
    · obtain rfl : k = b.length := by omega
      have hd : decide ((b.length : Int) < (b.length : Int)) = false := by simp
      have hfl := flat_len b
      have ha := add_uS (34 :: b.flatMap escL) [34] (by simp only [List.length_cons, List.length_nil]; omega)
      have HTA : b.take b.length = b := List.take_length
      rw [HTA]
      have HQ : Hid (quoteL b = (34 :: b.flatMap escL) ++ [34]) := by show _ = _; unfold quoteL; simp
      generalize (34 :: b.flatMap escL) = acc at *
      generalize acc ++ [34] = l1 at *
      clear HTA hfl
      have ha' : ∀ W : World, (Op.stringOp .add (uS acc) ⟨#[34]⟩).run Tryz.prog W = .ok (.string (uS l1)) W := ha
      clear ha
      go_wp2
      go_ret
      exact ⟨by rw [HQ.out]; rfl, HB.out⟩
end Go.Proofs.YtdcobmoeligdkaaGreatDoor
