/-
  concordanceref17.Digits: a number's numeral.
-/
import Derived.Test.YtdcobmoeligdkaaGreatDoorCmAwake
namespace Go.Proofs.YtdcobmoeligdkaaGreatDoor
open Go.RowKit Go.Shelf

theorem dig_ext : ∀ d : Fin 10, ((⟨#[48, 49, 50, 51, 52, 53, 54, 55, 56, 57]⟩ : ByteArray).extract d.1 (d.1 + 1)).data = (uS [UInt8.ofNat (48 + d.1)]).data := by decide +kernel
theorem dig_slice (d : Nat) (hd : d < 10) : ∀ W : World, (Instr.slice 9 (.string ⟨#[48, 49, 50, 51, 52, 53, 54, 55, 56, 57]⟩) (some (.int .i64 (d : Int))) (some (.int .i64 ((d : Int) + 1))) none).run Tryz.prog W = .ok (.string (uS [UInt8.ofNat (48 + d)])) W := by
  intro W
  have hz : (⟨#[48, 49, 50, 51, 52, 53, 54, 55, 56, 57]⟩ : ByteArray).size = 10 := rfl
  rw [run_slice_string (P := Tryz.prog) W 9 _ .i64 .i64 (d : Int) ((d : Int) + 1) (by kernel_rfl) (by omega) (by omega) (by rw [hz]; omega)]
  have h1 : ((d : Int)).toNat = d := by omega
  have h2 : ((d : Int) + 1).toNat = d + 1 := by omega
  rw [h1, h2]
  congr 2
  exact ByteArray.ext (dig_ext ⟨d, hd⟩)
set_option maxRecDepth 100000 in
set_option maxHeartbeats 1000000 in
theorem digits_any (w : World) (n : Nat) (hn : n < 9223372036854775808) : Calls Tryz.prog 39 #[.int .i64 (n : Int)] w fun e w' => e = .returned (.string (uS (Lib.decDigits n))) ∧ w' = w := by
  have hl : (Lib.decDigits n).length ≤ 20 := by rw [dec_len]; exact Lib.nDigits_le20 n (by omega)
  have HL := Lib.hid hl
  clear hl
  go_enter Tryz.func39, Tryz.ntmps39
  go_wp2
  go_loopw [0, 3] (fun v0 v3 wr => ∃ (m : Nat) (acc : List UInt8), m < 9223372036854775808 ∧ v0 = .int .i64 (m : Int) ∧ v3 = .string (uS acc) ∧ wr = w ∧ Hid (Lib.decDigits n = Lib.decDigits m ++ acc)) (fun v0 _ _ => (intOf v0).toNat)
  case atStart => exact ⟨n, [], hn, rfl, rfl, rfl, by show _ = _; rw [List.append_nil]⟩
  case round =>
    obtain ⟨m, acc, hm, rfl, rfl, rfl, HD⟩ := hrel
    have hal : acc.length ≤ 20 := by have := HL.out; rw [HD.out, List.length_append] at this; omega
    by_cases h9 : (9 : Int) < (m : Int)
    · obtain ⟨d, hd⟩ : ∃ d, d = m % 10 := ⟨_, rfl⟩
      have hd10 : d < 10 := by rw [hd]; exact Nat.mod_lt _ (by omega)
      have HN : Hid (Lib.decDigits n = Lib.decDigits (m / 10) ++ ([UInt8.ofNat (48 + d)] ++ acc)) := by
        show _ = _
        rw [HD.out, dec_big (by omega), List.append_assoc, hd]
      have hr : (m : Int).tmod 10 = (d : Int) := by rw [Int.tmod_eq_emod_of_nonneg (by omega)]; omega
      have hq : (m : Int).tdiv 10 = ((m / 10 : Nat) : Int) := by rw [Int.tdiv_eq_ediv_of_nonneg (by omega)]; omega
      have hsl := dig_slice d hd10
      have hadd := add_uS [UInt8.ofNat (48 + d)] acc (by simp; omega)
      have hm10 : m / 10 < m := by omega
      generalize m / 10 = m2 at *
      generalize [UInt8.ofNat (48 + d)] ++ acc = acc2 at *
      generalize uS [UInt8.ofNat (48 + d)] = ds at *
      clear hd HD
      go_wp2
      go_roundw
      case rel => exact ⟨m2, acc2, by omega, rfl, rfl, trivial, HN⟩
      case measure => simp [intOf]; omega
    · have hm9 : m < 10 := by omega
      have HN : Hid (Lib.decDigits n = [UInt8.ofNat (48 + m)] ++ acc) := by
        show _ = _
        rw [HD.out, dec_small hm9]
      have hsl := dig_slice m hm9
      have hadd := add_uS [UInt8.ofNat (48 + m)] acc (by simp; omega)
      generalize [UInt8.ofNat (48 + m)] ++ acc = acc2 at *
      generalize uS [UInt8.ofNat (48 + m)] = ds at *
      clear HD HL
      go_wp2
      go_ret
      refine ⟨?_, rfl⟩
      rw [HN.out]; rfl
end Go.Proofs.YtdcobmoeligdkaaGreatDoor
