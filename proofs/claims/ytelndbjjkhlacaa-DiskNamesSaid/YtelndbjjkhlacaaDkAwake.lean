/-
  awake of the disk's statements.
-/
import Derived.Test.YtelndbjjkhlacaaDkCrash
import Derived.Test.YtelndbjjkhlacaaDkOk
import Derived.Test.YtelndbjjkhlacaaSufLaw
import Derived.Lib.SlBytesConst
import Derived.Lib.SmallJoins
namespace Go.Proofs.Ytelndbjjkhlacaa
open Go.RowKit Go.Maps

abbrev sA : ByteArray := ⟨#[97]⟩
theorem okN_a : okN sA = true := by decide
theorem newS_lv (q : Int) (h : 0 ≤ q ∧ q ≤ 2000000) : Lv (newS q) := ⟨new_ok q h, rfl, (by show (-1 : Int) ≤ 0; omega), Int.le_refl 0⟩
theorem put_nil (k : Lit) (d : DT) : (DataW.map [] : DT).put k d = .map [(k, d)] := rfl
theorem fileOf_one (s : ByteArray) (f : Nat) : fileOf (.map [(kl s, enc f)]) s = some f := by
  rw [← put_nil]
  exact fileOf_put_same ⟨[], rfl⟩ s f
theorem inD_one (s : ByteArray) (f g : Nat) : inD (.map [(kl s, enc f)]) g = decide (f = g) := by
  unfold inD
  simp [decF_enc]
  rfl
theorem used_one (S : DSt) (s : ByteArray) (f : Nat) (hn : S.names = .map [(kl s, enc f)]) (hd : S.dead = false) : usedS S = (S.fb f).length := by
  unfold usedS
  rw [hd, hn]
  simp [sumD, sumL, cntF, decF_enc]
theorem used_none (S : DSt) (hn : S.names = .map []) : usedS S = 0 := by
  unfold usedS
  rw [hn]
  split <;> rfl
def awS1 (fn : Nat) : DSt := createS (newS 1000) sA fn
def awS (fn : Nat) : DSt := syncdirS (appendS (awS1 fn) fn [120, 121, 122])
theorem awS1_names (fn : Nat) : (awS1 fn).names = .map [(kl sA, enc fn)] := rfl
theorem awS_names (fn : Nat) : (awS fn).names = .map [(kl sA, enc fn)] := rfl
theorem awS_fb (fn : Nat) : (awS fn).fb fn = [120, 121, 122] := by
  show updN (awS1 fn).fb fn ((awS1 fn).fb fn ++ [120, 121, 122]) fn = _
  rw [updN_same]
  show updN (newS 1000).fb fn [] fn ++ _ = _
  rw [updN_same]
  rfl
theorem awS_fl (fn : Nat) : (awS fn).fl fn = 0 := by
  show updN (newS 1000).fl fn 0 fn = 0
  rw [updN_same]
theorem awS_open (fn : Nat) : openB (awS fn) fn = true := by
  unfold openB comeB
  rw [awS_fb, awS_fl, awS_names, inD_one]
  simp
theorem awC_fb (fn : Nat) : (crashS (awS fn) [2] []).fb fn = [120, 121] := by
  show truncL (awS fn).fl ((awS fn).files.filter (openB (awS fn))) [2] (awS fn).fb fn = _
  have hf : (awS fn).files = [fn] := rfl
  rw [hf, List.filter_cons_of_pos (awS_open fn)]
  show cutAt (awS fn).fl (awS fn).fb fn 2 fn = _
  unfold cutAt
  rw [if_pos rfl, awS_fb, awS_fl]
  decide
theorem awC_names (fn : Nat) : (crashS (awS fn) [2] []).names = .map [(kl sA, enc fn)] := rfl
theorem awC_read (fn : Nat) : readF (crashS (awS fn) [2] []) sA 0 9 = ([120, 121], 0) := by
  have ha : askF (crashS (awS fn) [2] []) sA = (some fn, 0) := by
    unfold askF
    rw [okN_a, awC_names, fileOf_one]
    rfl
  unfold readF
  rw [ha]
  simp only
  rw [if_neg (by omega), awC_fb]
  rfl
theorem awC_calls (fn : Nat) : (crashS (awS fn) [2] []).calls = 3 := rfl
set_option maxRecDepth 100000 in
set_option maxHeartbeats 1000000 in
theorem awake4_any (w : World) : Calls Try.prog 17 #[] w fun e w' => e = .returned (.bool true) ∧ Below w.heap.size w w' := by
  have hav := (new_at w 1000).av
  have hlv := newS_lv 1000 (by omega)
  have hb1 := newW_below w 1000
  have HCR := Lib.hid (create_at w.heap.size (newW w 1000) (w.heap.size + 2) (newS 1000) (fun _ => False) hav (fun b h => h.elim) hlv hb1.size (by show (0 : Int) < 100000; omega) sA okN_a rfl (by show 0 < 64; omega))
  have HN := Lib.hid (dnew_any w 1000 (by omega))
  have HB1 := Lib.hid hb1
  clear hav hlv hb1
  go_enter Try.func17, Try.ntmps17
  go_wp2_with fail
  refine HN.out.mono ?_
  rintro e w1 ⟨rfl, hw1⟩
  rw [← hw1] at HCR HB1
  clear hw1 HN
  go_wp2_with fail
  refine HCR.out.mono ?_
  rintro e w2 ⟨fn, -, rfl, hlv, hav, hb2, -⟩
  have HB2 : Hid (Below w.heap.size w w2) := HB1.out.trans hb2
  have hcv1 := Lib.run_convert_bytes_const (P := Try.prog) w2 28 5 #[.int .u8 120, .int .u8 121, .int .u8 122] 3 3 Try.underlying28 Try.underlying5
  simp only [List.size_toArray, List.length_cons, List.length_nil, Nat.zero_add, Nat.reduceAdd] at hcv1
  have hb3 : Below w2.heap.size w2 (w2.alloc (.cells #[.int .u8 120, .int .u8 121, .int .u8 122] 5 (3, 4))) := (Below.refl _ _).alloc (Nat.le_refl _) _
  have hrow : Row (w2.alloc (.cells #[.int .u8 120, .int .u8 121, .int .u8 122] 5 (3, 4))) (some ⟨w2.heap.size, 0, none⟩) [120, 121, 122].length (byteV [120, 121, 122]) := row_marked w2 #[.int .u8 120, .int .u8 121, .int .u8 122] 5 (3, 4) (byteV [120, 121, 122]) (by
    intro i hi
    match i, hi with
    | 0, _ => rfl
    | 1, _ => rfl
    | 2, _ => rfl)
  have hs2 := HB2.out.size
  have hbd : w2.heap.size ≠ w.heap.size + 2 := by
    obtain ⟨ρ, vf, vt, bn, bl, V, hd, _⟩ := hav
    have := hd.lt
    omega
  have hne : (createS (newS 1000) sA fn).names = .map [(kl sA, enc fn)] := awS1_names fn
  have hfb0 : ((createS (newS 1000) sA fn).fb fn).length = 0 := by
    show (updN (newS 1000).fb fn [] fn).length = 0
    rw [updN_same]; rfl
  have HAP := Lib.hid (append_at w.heap.size _ (w.heap.size + 2) (createS (newS 1000) sA fn) (fun _ => False) (hav.below hb3) (fun b h => h.elim) hlv (by have := hb3.size; omega) (by show (0 : Int) + 1 < 100000; omega) sA okN_a fn (by rw [hne]; exact fileOf_one sA fn) (some ⟨w2.heap.size, 0, none⟩) 3 [120, 121, 122] hrow (.inr hbd) (by decide) (by rw [hfb0]; decide) (by
    rw [used_one _ sA fn hne hlv.dead, hfb0]
    show ((0 : Nat) : Int) + ((3 : Nat) : Int) ≤ 1000
    omega))
  have HB3 : Hid (Below w.heap.size w (w2.alloc (.cells #[.int .u8 120, .int .u8 121, .int .u8 122] 5 (3, 4)))) := HB2.out.trans (hb3.mono hs2)
  clear hlv hav hb2 hb3 hrow hs2 hbd hne hfb0 HB2 HB1
  go_wp2_with fail
  clear hcv1
  refine (show Calls Try.prog _ _ (w2.alloc (.cells #[.int .u8 120, .int .u8 121, .int .u8 122] 5 (3, 4))) _ from HAP.out.mono ?_)
  rintro e w4 ⟨rfl, hlv, hav, hb4, -⟩
  have HB4 : Hid (Below w.heap.size w w4) := HB3.out.trans hb4
  have HSD := Lib.hid (syncdir_at w.heap.size w4 (w.heap.size + 2) _ (fun _ => False) hav (fun b h => h.elim) hlv HB4.out.size (by show (0 : Int) + 1 + 1 < 100000; omega))
  clear hlv hav hb4 HAP HB3
  go_wp2_with fail
  refine HSD.out.mono ?_
  rintro e w5 ⟨rfl, hlv, hav, hb5, -⟩
  have HB5 : Hid (Below w.heap.size w w5) := HB4.out.trans hb5
  clear HSD HB4
  change Lv (awS fn) at hlv
  change DiskAv w.heap.size w5 (w.heap.size + 2) (awS fn) (fun _ => False) at hav
  have hb6 : Below w5.heap.size w5 (w5.alloc (.cells #[.int .i64 2] 3)) := (Below.refl _ _).alloc (Nat.le_refl _) _
  have hs5 := HB5.out.size
  have hrow : Row (w5.alloc (.cells #[.int .i64 2] 3)) (some ⟨w5.heap.size, 0, none⟩) [(2 : Int)].length (intA [2]) := ⟨.inr rfl, fun k hk => by
    have : k = 0 := by simp at hk; omega
    subst this
    exact (Boxed.new w5 3 (.int .i64 2)).cell⟩
  have hcr := crash_any w.heap.size (w5.alloc (.cells #[.int .i64 2] 3)) (w.heap.size + 2) (awS fn) (fun b => b = w5.heap.size) ((hav.avoid hb6 (fun b => b = w5.heap.size) (fun b hb => Nat.le_of_eq hb.symm)).mono fun b hb => .inr hb) (fun b hb => by simp; omega) hlv.ok (by show 0 < 1; omega) (by have := hb6.size; omega)
    [2] (some ⟨w5.heap.size, 0, none⟩) 1 hrow ⟨Nat.le_refl 1, trivial⟩ (.inr rfl) [] none 0 (Row.nil _ _ _) (by decide) (.inl rfl)
  have HCR2 := Lib.hid hcr
  have HOK5 := Lib.hid hlv.ok
  have HT5 := Lib.hid hav.tidy
  have HB6 : Hid (Below w.heap.size w (w5.alloc (.cells #[.int .i64 2] 3))) := HB5.out.trans (hb6.mono hs5)
  clear hlv hav hb5 hb6 hs5 hrow hcr HB5
  go_wp2_with fail
  refine (show Calls Try.prog _ _ (w5.alloc (.cells #[.int .i64 2] 3)) _ from HCR2.out.mono ?_)
  rintro e w6 ⟨rfl, hav, hb7, -⟩
  have HB7 : Hid (Below w.heap.size w w6) := HB6.out.trans hb7
  have hok6 : DOk (crashS (awS fn) [2] []) := crash_ok HOK5.out [2] [] HT5.out.2 (by
    obtain ⟨ρ, vf, vt, bn, bl, V, hd, _⟩ := hav
    exact hd.names.canon)
  have hrd := read_any w.heap.size w6 (w.heap.size + 2) _ hav.at hok6 sA (by decide) 0 9 (by decide)
  have HRD := Lib.hid hrd
  have HAV := Lib.hid hav
  clear hav hb7 hok6 hrd HOK5 HT5 HCR2 HB6
  go_wp2_with fail
  refine HRD.out.mono ?_
  rintro e w7 ⟨a, cap, rfl, hr, hb8⟩
  rw [awC_read] at hr ⊢
  have HB8 : Hid (Below w.heap.size w w7) := HB7.out.trans (hb8.mono HB7.out.size)
  have hcv : ∀ W, Below w7.heap.size w7 W → (convert 28 9 (.slice a 2 cap)).run Try.prog W = .ok (.string ⟨#[120, 121]⟩) W := fun W hW => by
    have := conv_str W a [120, 121] cap (hr.kept hW)
    have e : sB [120, 121] = ⟨#[120, 121]⟩ := by unfold sB; rfl
    rw [e] at this
    exact this
  have hcv7 := hcv w7 (Below.refl _ _)
  have hav7 := HAV.out.below hb8
  have HCL := Lib.hid (calls_any w.heap.size w7 (w.heap.size + 2) _ hav7.at)
  rw [awC_calls] at HCL
  clear hr hb8 hcv hav7 HAV HRD HB7
  go_wp2_with (first | (go_at_call 18; refine HCL.out.mono ?_; rintro e w8 ⟨rfl, rfl⟩) | fail)
  go_ret
  exact ⟨rfl, HB8.out⟩
end Go.Proofs.Ytelndbjjkhlacaa
