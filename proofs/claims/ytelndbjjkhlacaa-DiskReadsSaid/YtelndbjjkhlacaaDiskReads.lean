/-
  The statement DiskReads: its walk.
-/
import Derived.Test.YtelndbjjkhlacaaDkStr
import Derived.OpenShut
namespace Go.Proofs.Ytelndbjjkhlacaa
open Go.RowKit Go.Maps

abbrev sF : ByteArray := ⟨#[102]⟩
abbrev sG : ByteArray := ⟨#[103]⟩
theorem sG_ne : sG ≠ sF := by decide
/-- a disk with one file of these bytes -/
def rdS (q : Int) (fn : Nat) (d : List Nat) : DSt := appendS (createS (newS q) sF fn) fn d
theorem rdS_names (q : Int) (fn : Nat) (d : List Nat) : (rdS q fn d).names = .map [(kl sF, enc fn)] := rfl
theorem rdS_fb (q : Int) (fn : Nat) (d : List Nat) : (rdS q fn d).fb fn = d := by
  unfold rdS
  rw [appendS_fb, createS_fb]
  rfl
set_option maxRecDepth 100000 in
set_option maxHeartbeats 1000000 in
theorem dreads_walk (w : World) (long : Int) (_ : (Lit.int .i64 long).wf = true) (at' : Int) (hat : (Lit.int .i64 at').wf = true) (n : Int) (hn : (Lit.int .i64 n).wf = true) :
    Calls Try.prog 3 #[.int .i64 long, .int .i64 at', .int .i64 n] w fun e w' => e = .returned (.bool true) ∧ Below w.heap.size w w' := by
  have hab := bounds_i64 hat
  have hnb := bounds_i64 hn
  clear hat hn
  have en : bits .and .i64 long 1023 = long % 1024 := i64_mask long 10 (by omega)
  obtain ⟨L, hL, hL2⟩ : ∃ L : Nat, long % 1024 = (L : Int) ∧ L < 1024 := ⟨(long % 1024).toNat, by omega, by omega⟩
  rw [hL] at en
  clear hL
  have HN := Lib.hid (dnew_any w 1048576 (by omega))
  have HB1 := Lib.hid (newW_below w 1048576)
  have HA1 := Lib.hid (new_at w 1048576).av
  go_enter Try.func3, Try.ntmps3
  go_wp2_with fail
  refine HN.out.mono ?_
  rintro e w1 ⟨rfl, hw1⟩
  rw [← hw1] at HB1 HA1
  clear hw1 HN
  go_wp2_with fail
  refine (bytes4_any w1 5 L (by omega) (by omega)).mono ?_
  rintro e w2 ⟨rfl, hb2⟩
  have HD := Lib.hid (bysL_byte 5 L)
  have HDL := Lib.hid (bysL_len 5 L)
  generalize bysL 5 L = d at *
  have HB2 : Hid (Below w.heap.size w w2) := HB1.out.trans (hb2.mono HB1.out.size)
  have HA2 := Lib.hid (HA1.out.below hb2)
  clear hb2 en
  go_wp2_with fail
  refine (create_at w.heap.size w2 (w.heap.size + 2) (newS 1048576) (fun _ => False) HA2.out (fun b h => h.elim) (newS_lv 1048576 (by omega)) HB2.out.size (by show (0 : Int) < 100000; omega) sF (by decide) rfl (by show 0 < 64; omega)).mono ?_
  rintro e w3 ⟨fn, -, rfl, hlv, hav, hb3, -⟩
  have HB3 : Hid (Below w.heap.size w w3) := HB2.out.trans hb3
  obtain ⟨cap, w4, hcv, hcap, hrow, hb4, hs4⟩ := str_bytes w3 d HD.out
  have hs3 := HB3.out.size
  have hbd := hav.bd_lt
  have hne : (createS (newS 1048576) sF fn).names = .map [(kl sF, enc fn)] := rfl
  have HAP := Lib.hid (append_at w.heap.size w4 (w.heap.size + 2) (createS (newS 1048576) sF fn) (fun _ => False) (hav.below hb4) (fun b h => h.elim) hlv (by have := hb4.size; omega) (by show (0 : Int) + 1 < 100000; omega) sF (by decide) fn (by rw [hne]; exact fileOf_one sF fn) (some ⟨w3.heap.size, 0, none⟩) cap d hrow (.inr (by show w3.heap.size ≠ _; omega)) HD.out
    (by rw [createS_fb, HDL.out]; show 0 + L ≤ 200000; omega) (by
      rw [used_one _ sF fn hne hlv.dead, createS_fb, HDL.out]
      show ((0 : Nat) : Int) + (L : Int) ≤ 1048576
      omega))
  have HB4 : Hid (Below w.heap.size w w4) := HB3.out.trans (hb4.mono hs3)
  clear hlv hav hb3 hcap hrow hb4 hs4 hs3 hbd hne HB1 HA1 HB2 HA2 HB3
  go_wp2_with fail
  clear hcv
  refine HAP.out.mono ?_
  rintro e w5 ⟨rfl, hlv, hav, hb5, -⟩
  change Lv (rdS 1048576 fn d) at hlv
  change DiskAv w.heap.size w5 (w.heap.size + 2) (rdS 1048576 fn d) (fun _ => False) at hav
  have HB5 : Hid (Below w.heap.size w w5) := HB4.out.trans hb5
  have hfy : fileOf (rdS 1048576 fn d).names sF = some fn := fileOf_one sF fn
  have hfn : fileOf (rdS 1048576 fn d).names sG = none := fileOf_one_no sG_ne fn
  have hrd := read_any w.heap.size w5 (w.heap.size + 2) _ hav.at hlv.ok sF (by decide) at' n (by omega)
  unfold ReadPost at hrd
  rw [readF_yes (by decide) hlv.dead hfy, rdS_fb] at hrd
  have HRD := Lib.hid hrd
  have HLV := Lib.hid hlv
  have HAV := Lib.hid hav
  have HFN := Lib.hid hfn
  clear hlv hav hb5 hfy hfn hrd HAP HB4
  by_cases hng : at' < 0 ∨ n < 0
  · have HR2 : Hid (Calls Try.prog 16 #[.pointer (some ⟨w.heap.size + 2, 0, none⟩), .string sF, .int .i64 at', .int .i64 n] w5 fun e w' => ∃ a cap, e = .returned (.tuple #[.slice a 0 cap, .int .i64 1]) ∧ Below w5.heap.size w5 w') := by
      refine HRD.out.mono ?_
      rintro e w' ⟨a, cap, rfl, _, hb⟩
      rw [if_pos hng]
      exact ⟨a, cap, rfl, hb⟩
    clear HRD
    have hl1 : at' < 0 ∨ decide (at' < 0) = false ∧ n < 0 := by
      rcases hng with h | h
      · exact .inl h
      · by_cases h2 : at' < 0
        · exact .inl h2
        · exact .inr ⟨by simpa using h2, h⟩
    clear hng
    rcases hl1 with h1 | ⟨h1, h2⟩
    all_goals
      go_wp2_with fail
      refine HR2.out.mono ?_
      rintro e w6 ⟨a, cap2, rfl, hb6⟩
      have HB6 : Hid (Below w.heap.size w w6) := HB5.out.trans (hb6.mono HB5.out.size)
      clear hb6 HR2
      go_wp2_with fail
      refine (awake4_any _).mono ?_
      rintro e w7 ⟨rfl, hb7⟩
      have HB7 : Hid (Below w.heap.size w w7) := HB6.out.trans (hb7.mono HB6.out.size)
      clear hb7
      go_wp2
      go_ret
      exact ⟨rfl, HB7.out⟩
  · obtain ⟨k, rfl⟩ : ∃ k : Nat, at' = (k : Int) := ⟨at'.toNat, by omega⟩
    obtain ⟨m, rfl⟩ : ∃ m : Nat, n = (m : Int) := ⟨n.toNat, by omega⟩
    have HR2 : Hid (Calls Try.prog 16 #[.pointer (some ⟨w.heap.size + 2, 0, none⟩), .string sF, .int .i64 (k : Int), .int .i64 (m : Int)] w5 fun e w' => ∃ a cap, e = .returned (.tuple #[.slice a (pieceL d k m).length cap, .int .i64 0]) ∧ (∀ W, Below w'.heap.size w' W → (convert 28 9 (.slice a (pieceL d k m).length cap)).run Try.prog W = .ok (.string (sB (pieceL d k m))) W) ∧ Below w5.heap.size w5 w') := by
      refine HRD.out.mono ?_
      rintro e w' ⟨a, cap, rfl, hr, hb⟩
      rw [if_neg hng, Int.toNat_natCast, Int.toNat_natCast] at hr ⊢
      exact ⟨a, cap, rfl, fun W hW => conv_str W a (pieceL d k m) cap (hr.kept hW), hb⟩
    have g1 : decide ((k : Int) < 0) = false := by simp
    have g2 : decide ((m : Int) < 0) = false := by simp
    have hsz := sB_size d
    rw [HDL.out] at hsz
    clear hng HRD hab hnb
    by_cases hk : k < L
    · obtain ⟨e5, he5⟩ : ∃ e, e = min m (L - k) := ⟨_, rfl⟩
      have hcu : (sB d).extract k (k + e5) = sB (pieceL d k m) := by
        rw [sB_cut]
        refine congrArg sB ?_
        unfold pieceL
        rw [List.take_eq_take_iff, List.length_drop, HDL.out]
        omega
      have em5 : min (m : Int) ((L - k : Nat) : Int) = (e5 : Int) := by omega
      have y1 : IntKind.i64.wrap ((L : Int) - (k : Int)) = ((L - k : Nat) : Int) := by rw [show (L : Int) - (k : Int) = ((L - k : Nat) : Int) by omega]; exact IntWalk.i64_in _ (by omega)
      have y2 : IntKind.i64.wrap ((k : Int) + (e5 : Int)) = ((k + e5 : Nat) : Int) := by rw [show (k : Int) + (e5 : Int) = ((k + e5 : Nat) : Int) by omega]; exact IntWalk.i64_in _ (by omega)
      have t5 : (k : Int) < (L : Int) := by omega
      have hke : k + e5 ≤ L := by omega
      have em6 : (if L - k < m then ((L - k : Nat) : Int) else (m : Int)) = (e5 : Int) := by split <;> omega
      clear he5
      generalize (pieceL d k m).length = pl at *
      generalize sB (pieceL d k m) = sp at *
      generalize sB d = sd at *
      go_wp2_with fail
      refine HR2.out.mono ?_
      rintro e w6 ⟨a, cap2, rfl, hcv6, hb6⟩
      have HB6 : Hid (Below w.heap.size w w6) := HB5.out.trans (hb6.mono HB5.out.size)
      have hav6 := HAV.out.below hb6
      have HCL := Lib.hid (calls_any w.heap.size w6 (w.heap.size + 2) _ hav6.at)
      have hrg := read_any w.heap.size w6 (w.heap.size + 2) _ hav6.at HLV.out.ok sG (by decide) 0 1 (by omega)
      unfold ReadPost at hrg
      rw [readF_no (by decide) HLV.out.dead HFN.out] at hrg
      have HRG := Lib.hid hrg
      have HA6 := Lib.hid hav6
      have HCV6 := Lib.hid hcv6
      clear hb6 hav6 hrg HB5 HAV HR2 hcv6
      go_wp2_with fail
      refine HCL.out.mono ?_
      rintro e w' ⟨rfl, rfl⟩
      go_wp2_with fail
      refine HRG.out.mono ?_
      rintro e w7 ⟨a7, cap7, rfl, -, hb7⟩
      have HB7 : Hid (Below w.heap.size w w7) := HB6.out.trans (hb7.mono HB6.out.size)
      have hcv7 := HCV6.out w7 hb7
      have HCL7 := Lib.hid (calls_any w.heap.size w7 (w.heap.size + 2) _ (HA6.out.below hb7).at)
      have hc2 : (rdS 1048576 fn d).calls = 2 := rfl
      rw [hc2] at HCL7 ⊢
      clear hb7 hc2 HCL HRG HA6 HCV6 HB6
      simp only [List.length_nil] at *
      go_wp2_with fail
      refine HCL7.out.mono ?_
      rintro e w' ⟨rfl, rfl⟩
      clear hcv7 HCL7
      go_wp2_with fail
      refine (awake4_any _).mono ?_
      rintro e w8 ⟨rfl, hb8⟩
      have HB8 : Hid (Below w.heap.size w w8) := HB7.out.trans (hb8.mono HB7.out.size)
      clear hb8
      go_wp2
      go_ret
      exact ⟨rfl, HB8.out⟩
    · have t5 : decide ((k : Int) < (L : Int)) = false := by simp; omega
      have t6 : decide (k < L) = false := by simp; omega
      have hp : pieceL d k m = [] := by
        unfold pieceL
        rw [List.drop_of_length_le (by rw [HDL.out]; omega)]
        simp
      have hs0 := sB_nil
      rw [hp, hs0] at HR2
      clear hp hs0 hk
      simp only [List.length_nil] at HR2
      generalize sB d = sd at *
      go_wp2_with fail
      refine HR2.out.mono ?_
      rintro e w6 ⟨a, cap2, rfl, hcv6, hb6⟩
      have HB6 : Hid (Below w.heap.size w w6) := HB5.out.trans (hb6.mono HB5.out.size)
      have hav6 := HAV.out.below hb6
      have HCL := Lib.hid (calls_any w.heap.size w6 (w.heap.size + 2) _ hav6.at)
      have hrg := read_any w.heap.size w6 (w.heap.size + 2) _ hav6.at HLV.out.ok sG (by decide) 0 1 (by omega)
      unfold ReadPost at hrg
      rw [readF_no (by decide) HLV.out.dead HFN.out] at hrg
      have HRG := Lib.hid hrg
      have HA6 := Lib.hid hav6
      have HCV6 := Lib.hid hcv6
      clear hb6 hav6 hrg HB5 HAV HR2 hcv6
      go_wp2_with fail
      refine HCL.out.mono ?_
      rintro e w' ⟨rfl, rfl⟩
      go_wp2_with fail
      refine HRG.out.mono ?_
      rintro e w7 ⟨a7, cap7, rfl, -, hb7⟩
      have HB7 : Hid (Below w.heap.size w w7) := HB6.out.trans (hb7.mono HB6.out.size)
      have hcv7 := HCV6.out w7 hb7
      have HCL7 := Lib.hid (calls_any w.heap.size w7 (w.heap.size + 2) _ (HA6.out.below hb7).at)
      have hc2 : (rdS 1048576 fn d).calls = 2 := rfl
      rw [hc2] at HCL7 ⊢
      clear hb7 hc2 HCL HRG HA6 HCV6 HB6
      simp only [List.length_nil] at *
      go_wp2_with fail
      refine HCL7.out.mono ?_
      rintro e w' ⟨rfl, rfl⟩
      clear hcv7 HCL7
      go_wp2_with fail
      refine (awake4_any _).mono ?_
      rintro e w8 ⟨rfl, hb8⟩
      have HB8 : Hid (Below w.heap.size w w8) := HB7.out.trans (hb8.mono HB7.out.size)
      clear hb8
      go_wp2
      go_ret
      exact ⟨rfl, HB8.out⟩
end Go.Proofs.Ytelndbjjkhlacaa
