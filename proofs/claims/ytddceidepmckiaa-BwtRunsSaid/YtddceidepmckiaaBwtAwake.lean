/-
  What the statements on ends ask at every input: concordancelaw11.awake.
-/
import Derived.Test.YtddceidepmckiaaBwtDocs
namespace Go.Proofs.Ytddceidepmckiaa
open Go.RowKit

def baB : List (List Nat) := [[98, 97]]
theorem baB_ok : NewOk baB := ⟨by decide, by decide, by decide, by decide⟩
theorem baB_sa : IsSA (ordS baB) (rowOf baB).length [2, 1, 0] := by
  have h1 : ltS (ordS baB) 2 1 := ⟨0, by decide +kernel, fun i hi => by omega⟩
  have h2 : ltS (ordS baB) 1 0 := ⟨0, by decide +kernel, fun i hi => by omega⟩
  have e : (rowOf baB).length = 3 := rfl
  rw [e]
  refine ⟨rfl, fun x => ?_, ?_⟩
  · simp; omega
  · simp only [List.pairwise_cons, List.mem_cons, List.not_mem_nil, or_false, forall_eq_or_imp, forall_eq, List.Pairwise.nil, and_true, false_implies, implies_true]
    exact ⟨⟨h1, ltS_trans h1 h2⟩, h2⟩
theorem baB_bwt : bwtOf baB = [98, 99, 0] := by
  have e : saOf baB = [2, 1, 0] := (saOf_sa baB).one baB_sa
  unfold bwtOf
  rw [e]; rfl
theorem docs_one : ∀ ds, ¬ DocsL [98] ds := fun ds h => by
  have h1 := h.1.many
  have h2 := h.1.all
  have e : stC [98] 1 = 0 := by unfold stC below; rfl
  rw [e] at h1
  have : ds = [] := List.eq_nil_of_length_eq_zero h1
  subst this
  simp [rowOf_nil] at h2
def baX (w : World) : World := (w.alloc (.cells #[.int .u8 98, .int .u8 97] 5 (2, 3))).alloc (.cells #[.slice (some ⟨w.heap.size, 0, none⟩) 2 2] 23)
theorem baX_at (w : World) : DocsAt (baX w) (some ⟨w.heap.size + 1, 0, none⟩) (fun _ => some ⟨w.heap.size, 0, none⟩) (fun _ => 2) baB := by
  have r1 := row_marked w #[.int .u8 98, .int .u8 97] 5 (2, 3) (byteV [98, 97]) (by
    intro i hi
    match i, hi with
    | 0, _ => rfl
    | 1, _ => rfl)
  have r3 := row_marked (w.alloc (.cells #[.int .u8 98, .int .u8 97] 5 (2, 3))) #[.slice (some ⟨w.heap.size, 0, none⟩) 2 2] 23 (0, 0)
    (fun r => .slice (some ⟨w.heap.size, 0, none⟩) (baB.getD r []).length 2) (by
    intro i hi
    match i, hi with
    | 0, _ => rfl)
  simp only [World.size_alloc] at r3
  refine ⟨r3, fun r hr => ?_⟩
  match r, hr with
  | 0, _ => exact row_alloc r1 _
theorem baX_below (w : World) : Below w.heap.size w (baX w) := ((Below.refl _ w).alloc (Nat.le_refl _) _).alloc (by simp) _
theorem syms3 (w : World) : Row (w.alloc (.cells #[.int .u16 98, .int .u16 99, .int .u16 0] 56)) (some ⟨w.heap.size, 0, none⟩) [98, 99, 0].length (symV [98, 99, 0]) :=
  row_marked w #[.int .u16 98, .int .u16 99, .int .u16 0] 56 (0, 0) (symV [98, 99, 0]) (by
    intro i hi
    match i, hi with
    | 0, _ => rfl
    | 1, _ => rfl
    | 2, _ => rfl)
theorem syms1 (w : World) : Row (w.alloc (.cells #[.int .u16 98] 56)) (some ⟨w.heap.size, 0, none⟩) [98].length (symV [98]) :=
  row_marked w #[.int .u16 98] 56 (0, 0) (symV [98]) (by
    intro i hi
    match i, hi with
    | 0, _ => rfl)
theorem great3 : anyGreat [98, 99, 0] = false := by unfold anyGreat; rfl
theorem great1 : anyGreat [98] = false := by unfold anyGreat; rfl
set_option maxRecDepth 100000 in
set_option maxHeartbeats 1000000 in
theorem awake11_any (w : World) : Calls Try.prog 32 #[] w fun e w' => e = .returned (.bool true) ∧ Below w.heap.size w w' := by
  have hs := tnew_any _ _ 1 _ _ baB (baX_at w) baB_ok
  have e2 : baB.length = 1 := rfl
  rw [e2] at hs
  have HS := Lib.hid hs
  have HB0 := Lib.hid (baX_below w)
  have hcv1 := Lib.run_convert_bytes_const (P := Try.prog) w 23 5 #[.int .u8 98, .int .u8 97] 2 2 Try.underlying23 Try.underlying5
  simp only [List.size_toArray, List.length_cons, List.length_nil, Nat.zero_add, Nat.reduceAdd] at hcv1
  clear hs e2
  go_enter Try.func32, Try.ntmps32
  go_wp2_with fail
  clear hcv1
  refine (show Calls Try.prog _ _ (baX w) _ from HS.out.mono ?_)
  rintro e w1 ⟨bt, x, rfl, ht, hb1⟩
  have HO := Lib.hid (of_any w1 bt x baB ht baB_ok)
  have HB1 : Hid (Below w.heap.size w w1) := below_next HB0.out hb1 HB0.out.size
  clear ht hb1 HS HB0
  go_wp2_with fail
  refine HO.out.mono ?_
  rintro e w2 ⟨a2, rfl, hr2, hb2, _⟩
  rw [baB_bwt] at hr2
  rw [baB_bwt]
  have e3 : [98, 99, 0].length = 3 := rfl
  have hB2 : Below w.heap.size w w2 := below_next HB1.out hb2 HB1.out.size
  have hB3 : Below w2.heap.size w2 (w2.alloc (.cells #[.int .u16 98, .int .u16 99, .int .u16 0] 56)) := (Below.refl _ _).alloc (Nat.le_refl _) _
  have hsm := samesyms_any _ a2 (some ⟨w2.heap.size, 0, none⟩) 3 3 [98, 99, 0] [98, 99, 0] (by decide) (by decide) (hr2.kept hB3) (syms3 w2)
  have edt : decide (([98, 99, 0] : List Nat) = [98, 99, 0]) = true := by simp
  rw [edt] at hsm
  rw [e3] at hsm
  have HSM := Lib.hid hsm
  have HB3 : Hid (Below w.heap.size w (w2.alloc (.cells #[.int .u16 98, .int .u16 99, .int .u16 0] 56))) := below_next hB2 hB3 hB2.size
  clear hr2 hb2 hB2 hB3 hsm edt HO HB1
  rw [e3]
  clear e3
  go_wp2_with fail
  refine HSM.out.mono ?_
  rintro e w3 ⟨rfl, j, rfl⟩
  have HB4 : Hid (Below w.heap.size w ((w2.alloc (.cells #[.int .u16 98, .int .u16 99, .int .u16 0] 56)).drewN j)) := below_drewN HB3.out j
  generalize (w2.alloc (.cells #[.int .u16 98, .int .u16 99, .int .u16 0] 56)).drewN j = w3 at *
  have hb4 : Below w.heap.size w (w3.alloc (.cells #[.int .u16 98, .int .u16 99, .int .u16 0] 56)) := HB4.out.alloc HB4.out.size _
  have HK := Lib.hid (ok_any _ _ 3 [98, 99, 0] (by decide) (Nat.le_trans (stC_le _ _) (by decide)) (syms3 w3))
  have HB5 := Lib.hid hb4
  clear hb4 HSM HB3
  go_wp2_with fail
  refine (show Calls Try.prog _ _ (w3.alloc (.cells #[.int .u16 98, .int .u16 99, .int .u16 0] 56)) _ from HK.out.mono ?_)
  rintro e w5 ⟨⟨b, rfl, hyes, hno⟩, hb5⟩
  have hbt : b = true := by
    cases b with
    | true => rfl
    | false =>
      rcases hno rfl with h | h
      · rw [great3] at h; cases h
      · exact (h baB (by rw [← baB_bwt]; exact docs_bwt baB baB_ok)).elim
  subst hbt
  have HB6 : Hid (Below w.heap.size w w5) := below_next HB5.out hb5 HB5.out.size
  have HK1 := Lib.hid (ok_any _ _ 1 [98] (by decide) (Nat.le_trans (stC_le _ _) (by decide)) (syms1 w5))
  have HB7 : Hid (Below w.heap.size w (w5.alloc (.cells #[.int .u16 98] 56))) := HB6.out.alloc HB6.out.size _
  clear hyes hno hb5 HK HB5
  go_wp2_with fail
  refine (show Calls Try.prog _ _ (w5.alloc (.cells #[.int .u16 98] 56)) _ from HK1.out.mono ?_)
  rintro e w6 ⟨⟨b, rfl, hyes, hno⟩, hb6⟩
  have hbf : b = false := by
    cases b with
    | false => rfl
    | true =>
      obtain ⟨_, ds, h⟩ := hyes rfl
      exact (docs_one ds h).elim
  subst hbf
  have HB8 : Hid (Below w.heap.size w w6) := below_next HB7.out hb6 HB7.out.size
  clear hyes hno hb6 HK1
  go_wp2
  go_ret
  exact ⟨rfl, HB8.out⟩
end Go.Proofs.Ytddceidepmckiaa
