/-
  Samples, Sizes, Row; walk.New(nil); what the document fixes of places: concordancelaw13.awake.
-/
import Derived.Test.YtjpoebmjfedecaaWalkNew
import Derived.Test.YtjpoebmjfedecaaSameInts
import Derived.Test.YtjpoebmjfedecaaBackAwake
namespace Go.Proofs.Ytjpoebmjfedecaa
open Go.RowKit Go.Shelf

set_option maxRecDepth 100000 in
set_option maxHeartbeats 400000 in
theorem cloneI_any (w : World) (a : Option Addr) (n cap : Nat) (f : Nat → Value) (hn : n ≤ 1000000) (h1 : ∀ k, k < n → (f k).oneCell' = true) (hr : Row w a n f) :
    Calls Try.prog 46 #[.slice a n cap] w fun e w' => ∃ v a' cap', e = .returned v ∧ v = .slice a' n cap' ∧ n ≤ cap' ∧ (a' = none → cap' = 0) ∧ Row w' a' n f ∧ Below w.heap.size w w' ∧ (n = 0 ∨ w.heap.size ≤ bOf a') ∧ (a ≠ none → w'.ownsRow w.heap.size 3 1 v n ((List.range n).map f)) ∧ (a = none → a' = none) := by
  have hnil := fun W => Lib.run_eql_slice_nil (P := Try.prog) W 30 3 a n cap 0 0 Try.underlying30
  obtain ⟨i0, hi, hz0, hz1, hz2⟩ := info_parts info_intP
  cases a with
  | none =>
    have hn0 : n = 0 := by rcases hr.at_ with h | h; · exact h
                           · cases h
    subst hn0
    have e1 : Option.isNone (none : Option Addr) = true := rfl
    clear hr h1
    go_enter Try.func46, Try.ntmps46
    go_wp2
    go_ret
    exact ⟨_, none, 0, rfl, rfl, Nat.le_refl _, fun _ => rfl, Row.nil _ _ _, Below.refl _ _, by simp, fun h => (h rfl).elim, fun _ => rfl⟩
  | some ad =>
    have hx0 := owns_empty w w.heap.size 3 (Nat.le_refl _)
    have hb0 : Below w.heap.size w (w.alloc (.cells #[] 3)) := (Below.refl _ w).alloc (Nat.le_refl _) _
    obtain ⟨v3, w3, hrun3, hown3, hg3, _⟩ := run_append_row (P := Try.prog) (w.alloc (.cells #[] 3)) w.heap.size 30 30 3 i0 _ 8 Try.underlying30 hi hz0 hz1 hz2 rfl _ 0 [] hx0 (some ad) n cap _ (hr.kept hb0) h1 (by simp only [maxLen]; omega) (by omega) (by simp)
    have hB3 : Below w.heap.size w w3 := hb0.grown hg3 (by simp) (fun k hk => by simp [Value.ownBlock] at hk; omega)
    rw [Nat.zero_add, List.nil_append] at hown3
    have hcap0 : ∀ c, v3 = .slice none n c → c = 0 := fun c hc => by
      rcases hown3.2 with ⟨e, _⟩ | ⟨g, cap, cur, e, _⟩
      · rw [hc] at e; injection e
      · rw [hc] at e; cases e
    have HO3 := Lib.hid hown3
    obtain ⟨a3, cap3, rfl, hc3, hr3, hlow3, _⟩ := Row.of_owns hown3
    have hr3' : Row w3 a3 n f := hr3.congr fun k hk => by simp [List.getD_eq_getElem?_getD, hk]
    have hcc : a3 = none → cap3 = 0 := fun e => hcap0 cap3 (by rw [e])
    have R3 := Lib.hid hrun3
    have HR3 := Lib.hid hr3'
    have HB3 := Lib.hid hB3
    have HCC := Lib.hid hcc
    clear hr hx0 hb0 hrun3 hown3 hg3 hB3 hr3 hr3' h1 hcap0 hcc
    go_enter Try.func46, Try.ntmps46
    go_wp2_with ((with_reducible refine wpList_append_run rfl _ _ _ rfl R3.out rfl rfl ?_); clear R3)
    go_ret
    exact ⟨_, a3, cap3, rfl, rfl, hc3, HCC.out, HR3.out, HB3.out, hlow3, fun _ => HO3.out, fun h => by cases h⟩
theorem clipI_any (w : World) (a : Option Addr) (n cap : Nat) (hn : n ≤ cap) (h0 : a = none → cap = 0) :
    Calls Try.prog 45 #[.slice a n cap] w fun e w' => e = .returned (.slice a n n) ∧ w = w' := by
  cases a with
  | none =>
    obtain rfl : cap = 0 := h0 rfl
    obtain rfl : n = 0 := by omega
    go_enter Try.func45, Try.ntmps45
    go_wp2
    go_ret
    exact ⟨rfl, rfl⟩
  | some ad =>
    clear h0
    go_enter Try.func45, Try.ntmps45
    go_wp2
    go_ret
    exact ⟨rfl, rfl⟩
/-- numbers that are read -/
abbrev natsV (S : List Nat) : Nat → Value := fun k => .int .i64 ((S.getD k 0 : Nat) : Int)
theorem intsN_row {w : World} {base : Nat} {v : Value} {S : List Nat} (h : w.ownsRow base 3 1 v S.length (intsN S)) : ∃ a cap, v = .slice a S.length cap ∧ S.length ≤ cap ∧ Row w a S.length (natsV S) := by
  obtain ⟨a, cap, rfl, h1, h2, _⟩ := Row.of_owns h
  refine ⟨a, cap, rfl, h1, h2.congr fun k hk => ?_⟩
  unfold intsN
  show _ = Value.int .i64 ((S.getD k 0 : Nat) : Int)
  simp [hk]
def WRowPost (w : World) (S : List Nat) (e : Ending) (w' : World) : Prop := ∃ a, e = .returned (.slice a S.length S.length) ∧ Row w' a S.length (natsV S) ∧ Below w.heap.size w w' ∧ (S.length = 0 ∨ w.heap.size ≤ bOf a)
set_option maxRecDepth 100000 in
set_option maxHeartbeats 400000 in
theorem wsamples_any (w : World) (Y : Nat → Prop) (bp bm : Nat) (vS vZ : Value) (S Z : List Nat) (n : Nat) (f : Int → Option (Nat × Nat)) (hP : PlIn Y w bp bm vS vZ S Z n f) (hs : S.length ≤ 1000000) :
    Calls Try.prog 12 #[.pointer (some ⟨bp, 0, none⟩)] w (WRowPost w S) := by
  obtain ⟨c0, _, _, _, _⟩ := hP.c0
  obtain ⟨a, cap, rfl, h1, hr⟩ := intsN_row hP.rs
  have HC := Lib.hid (cloneI_any w a S.length cap _ hs (fun _ _ => rfl) hr)
  clear hP hr
  go_enter Try.func12, Try.ntmps12
  go_wp2_with fail
  refine HC.out.mono ?_
  rintro e w1 ⟨_, a', cap', rfl, rfl, h1, h2, hr, hb, hlo, -, -⟩
  have HR := Lib.hid hr
  have HB := Lib.hid hb
  have HLO := Lib.hid hlo
  have HCL := Lib.hid (clipI_any w1 a' S.length cap' h1 h2)
  clear hr hb hlo h1 h2
  go_wp2_with fail
  refine HCL.out.mono ?_
  rintro e w2 ⟨rfl, rfl⟩
  go_wp2
  go_ret
  exact ⟨a', rfl, HR.out, HB.out, HLO.out⟩
set_option maxRecDepth 100000 in
set_option maxHeartbeats 400000 in
theorem wsizes_any (w : World) (Y : Nat → Prop) (bp bm : Nat) (vS vZ : Value) (S Z : List Nat) (n : Nat) (f : Int → Option (Nat × Nat)) (hP : PlIn Y w bp bm vS vZ S Z n f) (hs : Z.length ≤ 1000000) :
    Calls Try.prog 22 #[.pointer (some ⟨bp, 0, none⟩)] w (WRowPost w Z) := by
  obtain ⟨_, c1, _, _, _⟩ := hP.c0
  obtain ⟨a, cap, rfl, h1, hr⟩ := intsN_row hP.rz
  have HC := Lib.hid (cloneI_any w a Z.length cap _ hs (fun _ _ => rfl) hr)
  clear hP hr
  go_enter Try.func22, Try.ntmps22
  go_wp2_with fail
  refine HC.out.mono ?_
  rintro e w1 ⟨_, a', cap', rfl, rfl, h1, h2, hr, hb, hlo, -, -⟩
  have HR := Lib.hid hr
  have HB := Lib.hid hb
  have HLO := Lib.hid hlo
  have HCL := Lib.hid (clipI_any w1 a' Z.length cap' h1 h2)
  clear hr hb hlo h1 h2
  go_wp2_with fail
  refine HCL.out.mono ?_
  rintro e w2 ⟨rfl, rfl⟩
  go_wp2
  go_ret
  exact ⟨a', rfl, HR.out, HB.out, HLO.out⟩
theorem wnew_nil (w : World) : Calls Try.prog 11 #[.pointer none] w fun e w' => e = .returned (.tuple #[.pointer none, .int .i64 1]) ∧ w = w' := by
  refine (callsIn_wide (n := 5)).1 ?_
  have hwf : ∀ f, Fence.wide.fn f = True := fun _ => rfl
  refine callsIn_of_wp_marks Try.func11 rfl trivial ?_ rfl
  simp only [Try.ntmps11, List.size_toArray, List.length_cons, List.length_nil, Nat.reduceAdd, Nat.reduceSub, Array.replicate_succ, Array.replicate_zero, List.push_toArray, List.append_toArray, List.nil_append, List.cons_append]
  gi_wp2
  exact ⟨_, results_tmp2 rfl _ _ _, rfl, rfl⟩
theorem rowP_sa (ds : List (List Nat)) (hb : ∀ d ∈ ds, ∀ c ∈ d, c < 256) (r j o : Nat) (hr : r < (rowsR ds).length) (hv : validH ds (j, o)) (h : (saOf ds).getD r 0 = startOf ds j + o) : rowP ds j o = r := by
  refine (rowP_of ds hb r j o hr (placeOf_one ds _ _ (rows_at ds r hr) hv ?_)).2.2.symm
  rw [← sa_row ds r hr, h]; rfl
theorem baA_put : putS (putsTo baA 2) = [4, 3] := by
  have e : saOf baA = [2, 4, 1, 3, 0] := (saOf_sa baA).one (by have := baA_sa; exact this)
  have hl : (rowsR baA).length = 5 := by rw [rows_len]; rfl
  have h1 : rowP baA 0 0 = 4 := rowP_sa baA baA_ok.byte 4 0 0 (by omega) ⟨by decide, by decide⟩ (by rw [e]; rfl)
  have h2 : rowP baA 1 0 = 3 := rowP_sa baA baA_ok.byte 3 1 0 (by omega) ⟨by decide, by decide⟩ (by rw [e]; rfl)
  have h3 : putsTo baA 2 = [(rowP baA 0 0, 0, 0), (rowP baA 1 0, 1, 0)] := rfl
  rw [h3, h1, h2]; rfl
theorem baA_sizes : sizesTo baA 2 = [2, 1] := rfl
set_option maxRecDepth 100000 in
set_option maxHeartbeats 1000000 in
theorem awake13_any (w : World) : Calls Try.prog 16 #[] w fun e w' => e = .returned (.bool true) ∧ Below w.heap.size w w' := by
  have hs := bmade_any _ _ 2 _ _ baA (baA_at w) baA_ok
  have HS := Lib.hid hs
  have HB0 := Lib.hid (baW_below w)
  have hcv1 := Lib.run_convert_bytes_const (P := Try.prog) w 22 5 #[.int .u8 98, .int .u8 97] 2 2 Try.underlying22 Try.underlying5
  have hcv2 := Joins.run_convert_bytes_const_at (P := Try.prog) (w.alloc (.cells #[.int .u8 98, .int .u8 97] 5 (2, 3))) 22 5 #[.int .u8 97] 1 1 (w.heap.size + 1) (by simp) Try.underlying22 Try.underlying5
  simp only [List.size_toArray, List.length_cons, List.length_nil, Nat.zero_add, Nat.reduceAdd] at hcv1 hcv2
  clear hs
  go_enter Try.func16, Try.ntmps16
  go_wp2_with fail
  clear hcv1 hcv2
  refine (show Calls Try.prog _ _ (baW w) _ from HS.out.mono ?_)
  rintro e w1 ⟨bx, bm, al, cap, rfl, hi, hb, hlo⟩
  have HB1 : Hid (Below w.heap.size w w1) := below_next HB0.out hb HB0.out.size
  have HN := Lib.hid (wnew_any w1 bx bm al cap baA baA_ok hi)
  clear hi hb HS HB0 hlo
  go_wp2_with fail
  refine HN.out.mono ?_
  rintro e w2 ⟨bp, bq, vS, vZ, Y, rfl, hp, hb, -⟩
  have e2 : baA.length = 2 := rfl
  rw [e2, baA_put, baA_sizes] at hp
  have HP2 := Lib.hid hp
  have HB2 : Hid (Below w.heap.size w w2) := below_next HB1.out hb HB1.out.size
  clear hp hb e2 HN
  go_wp2_with fail
  refine (wnew_nil w2).mono ?_
  rintro e w' ⟨rfl, rfl⟩
  have HSM := Lib.hid (wsamples_any w2 Y bp bq vS vZ _ _ _ _ HP2.out (by decide))
  go_wp2_with fail
  refine HSM.out.mono ?_
  rintro e w3 ⟨a3, rfl, hr3, hb3, -⟩
  have HR3 := Lib.hid hr3
  have HB3 : Hid (Below w.heap.size w w3) := below_next HB2.out hb3 HB2.out.size
  have HP3 := Lib.hid (HP2.out.kept (KeepX.of_below hb3))
  clear hr3 hb3 HSM
  have hl1 : Row (w3.alloc (.cells #[.int .i64 4, .int .i64 3] 3)) (some ⟨w3.heap.size, 0, none⟩) 2 (fun k => .int .i64 (([4, 3].getD k 0 : Nat) : Int)) := row_marked w3 #[.int .i64 4, .int .i64 3] 3 (0, 0) _ (by
    intro i hi
    match i, hi with
    | 0, _ => rfl
    | 1, _ => rfl)
  have HSM1 := Lib.hid (same_yes (w3.alloc (.cells #[.int .i64 4, .int .i64 3] 3)) a3 (some ⟨w3.heap.size, 0, none⟩) 2 2 2 (fun k => (([4, 3].getD k 0 : Nat) : Int)) (by omega) (HR3.out.kept ((Below.refl _ _).alloc (Nat.le_refl _) _)) hl1)
  have HB4 : Hid (Below w.heap.size w (w3.alloc (.cells #[.int .i64 4, .int .i64 3] 3))) := HB3.out.alloc HB3.out.size _
  have HP4 := Lib.hid (HP3.out.kept (KeepX.of_below ((Below.refl _ w3).alloc (Nat.le_refl _) (.cells #[.int .i64 4, .int .i64 3] 3))))
  clear hl1 HR3 HB3 HP3
  have el : [4, 3].length = 2 := rfl
  rw [el]
  go_wp2_with fail
  refine HSM1.out.mono ?_
  rintro e w4 ⟨rfl, j, rfl⟩
  generalize w3.alloc (.cells #[.int .i64 4, .int .i64 3] 3) = w4 at *
  have HSZ := Lib.hid (wsizes_any (w4.drewN j) Y bp bq vS vZ _ _ _ _ (HP4.out.kept (KeepX.of_below (below_drewN (Below.refl _ _) j))) (by decide))
  go_wp2_with fail
  refine HSZ.out.mono ?_
  rintro e w5 ⟨a5, rfl, hr5, hb5, -⟩
  have HR5 := Lib.hid hr5
  have HB5 : Hid (Below w.heap.size w w5) := below_next (below_drewN HB4.out j) hb5 (by exact HB4.out.size)
  clear hr5 hb5 HSZ
  have hl2 : Row (w5.alloc (.cells #[.int .i64 2, .int .i64 1] 3)) (some ⟨w5.heap.size, 0, none⟩) 2 (fun k => .int .i64 (([2, 1].getD k 0 : Nat) : Int)) := row_marked w5 #[.int .i64 2, .int .i64 1] 3 (0, 0) _ (by
    intro i hi
    match i, hi with
    | 0, _ => rfl
    | 1, _ => rfl)
  have HSM2 := Lib.hid (same_yes (w5.alloc (.cells #[.int .i64 2, .int .i64 1] 3)) a5 (some ⟨w5.heap.size, 0, none⟩) 2 2 2 (fun k => (([2, 1].getD k 0 : Nat) : Int)) (by omega) (HR5.out.kept ((Below.refl _ _).alloc (Nat.le_refl _) _)) hl2)
  have HB6 : Hid (Below w.heap.size w (w5.alloc (.cells #[.int .i64 2, .int .i64 1] 3))) := HB5.out.alloc HB5.out.size _
  clear hl2 HR5 HB5
  have el2 : [2, 1].length = 2 := rfl
  rw [el2]
  go_wp2_with fail
  refine HSM2.out.mono ?_
  rintro e w6 ⟨rfl, j2, rfl⟩
  go_wp2
  go_ret
  exact ⟨rfl, below_drewN HB6.out j2⟩
end Go.Proofs.Ytjpoebmjfedecaa
