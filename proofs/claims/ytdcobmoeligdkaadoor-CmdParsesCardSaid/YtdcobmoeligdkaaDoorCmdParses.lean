/-
  The statement CmdParses: its walk.
-/
import Derived.Test.YtdcobmoeligdkaaDoorCmRCmd
import Derived.Test.YtdcobmoeligdkaaDoorCmRSameC
import Derived.Test.YtdcobmoeligdkaaDoorCmAwake
namespace Go.Proofs.YtdcobmoeligdkaaDoor
open Go.RowKit Go.Shelf

/-- a call answers this command and this number -/
def Gives (K N M C : Int) (L : List UInt8) (q : QT) (E : Int) (w : World) (e : Ending) (w' : World) : Prop :=
  Below w.heap.size w w' ∧ ∃ a cp x0 x1 x2 x3 x4 x5 x6, e = .returned (.tuple #[.agg #[.int .i64 K, .slice a L.length cp, .int .i64 N, .int .i64 M, .int .i64 C, .int .i64 x0, .slice x1 x2 x3, .slice x4 x5 x6], .int .i64 E]) ∧ Row w' a L.length (bV L) ∧ QAt w' (fun _ => True) q (.int .i64 x0) (.slice x1 x2 x3) (.slice x4 x5 x6)
theorem gives_zero (w w' : World) (E : Int) (hb : Below w.heap.size w w') : Gives 0 0 0 0 [] q0 E w (.returned (.tuple #[.agg zeroC, .int .i64 E])) w' :=
  ⟨hb, none, 0, 0, none, 0, 0, none, 0, 0, rfl, Row.nil _ _ _, QAt.zero _ _⟩
theorem gives_st (w w' : World) (st : PCmd) (v q1 q2 q3 : Value) (hb : Below w.heap.size w w') (ht : ∃ a c, v = .slice a st.text.length c ∧ Row w' a st.text.length (bV st.text)) (hq : QAt w' (fun b => w.heap.size ≤ b) st.q q1 q2 q3) :
    Gives st.kind st.n st.m st.k st.text st.q 0 w (.returned (.tuple #[cmdV st v q1 q2 q3, .int .i64 0])) w' := by
  obtain ⟨a, c, rfl, hr⟩ := ht
  obtain ⟨x1, x2, x3, x4, x5, x6, rfl, rfl, rfl⟩ := hq.form
  exact ⟨hb, a, c, _, x1, x2, x3, x4, x5, x6, rfl, hr, hq.mono (fun _ _ _ => trivial)⟩
theorem both_give (w : World) (he : Env w) (s : List UInt8) (hs : s.length ≤ 12000) : ∃ (K N M C : Int) (L : List UInt8) (q : QT) (E : Int), L.length ≤ 100000 ∧
    (∀ W, Below w.heap.size w W → Calls Tryd.prog 9 #[.string (uS s)] W (Gives K N M C L q E W)) ∧ (∀ W, Below w.heap.size w W → Calls Tryd.prog 11 #[.string (uS s)] W (Gives K N M C L q E W)) := by
  rcases h : parseR s with _ | st
  · refine ⟨0, 0, 0, 0, [], q0, if 9000 < s.length then 2 else 3, by simp, fun W hW => ?_, fun W hW => ?_⟩
    · refine (parse_full W (he.kept hW) s (by omega)).mono ?_
      rintro e w' ⟨hb, (⟨-, rfl⟩ | ⟨st, v, q1, q2, q3, h2, -⟩)⟩
      · exact gives_zero _ _ _ hb
      · rw [h] at h2; cases h2
    · refine (rcommand_any W s (by omega)).mono ?_
      rintro e w' ⟨hb, (⟨-, rfl⟩ | ⟨st, v, q1, q2, q3, h2, -⟩)⟩
      · exact gives_zero _ _ _ hb
      · rw [h] at h2; cases h2
  · refine ⟨st.kind, st.n, st.m, st.k, st.text, st.q, 0, Nat.le_trans (parseR_text h) (by omega), fun W hW => ?_, fun W hW => ?_⟩
    · refine (parse_full W (he.kept hW) s (by omega)).mono ?_
      rintro e w' ⟨hb, (⟨h2, -⟩ | ⟨st', v, q1, q2, q3, h2, rfl, ⟨a, hv, hr, -⟩, hq⟩)⟩
      · rw [h] at h2; cases h2
      · rw [h] at h2
        obtain rfl := Option.some.inj h2
        exact gives_st _ _ _ _ _ _ _ hb ⟨a, _, hv, hr⟩ hq
    · refine (rcommand_any W s (by omega)).mono ?_
      rintro e w' ⟨hb, (⟨h2, -⟩ | ⟨st', v, q1, q2, q3, h2, rfl, ⟨a, c, hv, hr, -⟩, hq⟩)⟩
      · rw [h] at h2; cases h2
      · rw [h] at h2
        obtain rfl := Option.some.inj h2
        exact gives_st _ _ _ _ _ _ _ hb ⟨a, c, hv, hr⟩ hq
set_option maxRecDepth 100000 in
set_option maxHeartbeats 4000000 in
theorem cmdParses_walk (w : World) (he : Env w) (s : List UInt8) : Calls Tryd.prog 5 #[.string (uS s)] w fun e w' => e = .returned (.bool true) ∧ Below w.heap.size w w' := by
  have hsz := uS_size s
  have HAW := Lib.hid (fun (W : World) (hW : Below w.heap.size w W) => awake27_any W (he.kept hW))
  by_cases hlong : 12000 < s.length
  · have hli : (12000 : Int) < ((s.length : Nat) : Int) := by omega
    clear he
    go_enter Tryd.func5, Tryd.ntmps5
    go_wp2_with (go_at_call 6; refine (HAW.out w (Below.refl _ _)).mono ?_; rintro e w7 ⟨rfl, hb7⟩)
    go_ret
    exact ⟨rfl, hb7⟩
  have hli : ¬ (12000 : Int) < ((s.length : Nat) : Int) := by omega
  obtain ⟨K, N, M, C, L, q, E, hL, hp, hc⟩ := both_give w he s (by omega)
  have HPA := Lib.hid hp
  have HCO := Lib.hid hc
  clear he hp hc hlong
  go_enter Tryd.func5, Tryd.ntmps5
  go_wp2_with (go_at_call 9; refine Hid.out ?_)
  refine Lib.hid ?_
  refine (HPA.out w (Below.refl _ _)).mono ?_
  rintro e w1 ⟨hb1, a, cp, x0, x1, x2, x3, x4, x5, x6, rfl, hr1, hq1⟩
  have hb2 : Below w1.heap.size w1 (w1.alloc (.cells #[.int .i64 K, .slice a L.length cp, .int .i64 N, .int .i64 M, .int .i64 C, .int .i64 x0, .slice x1 x2 x3, .slice x4 x5 x6] 31)) := (Below.refl _ _).alloc (Nat.le_refl _) _
  have HN2 := Lib.hid (World.alloc_heap_new w1 (.cells #[.int .i64 K, .slice a L.length cp, .int .i64 N, .int .i64 M, .int .i64 C, .int .i64 x0, .slice x1 x2 x3, .slice x4 x5 x6] 31))
  have HB2 : Hid (Below w.heap.size w (w1.alloc (.cells #[.int .i64 K, .slice a L.length cp, .int .i64 N, .int .i64 M, .int .i64 C, .int .i64 x0, .slice x1 x2 x3, .slice x4 x5 x6] 31))) := below_next hb1 hb2 hb1.size
  have HR2 := Lib.hid (hr1.kept hb2)
  have HQ2 := Lib.hid (hq1.kept hb2)
  clear hb1 hb2 hr1 hq1
  go_wp2_with (go_at_call 11; refine Hid.out ?_)
  refine Lib.hid ?_
  refine (HCO.out _ HB2.out).mono ?_
  rintro e w3 ⟨hb3, b, cp2, y0, y1, y2, y3, y4, y5, y6, rfl, hr3, hq3⟩
  have hb4 : Below w3.heap.size w3 (w3.alloc (.cells #[.int .i64 K, .slice b L.length cp2, .int .i64 N, .int .i64 M, .int .i64 C, .int .i64 y0, .slice y1 y2 y3, .slice y4 y5 y6] 31)) := (Below.refl _ _).alloc (Nat.le_refl _) _
  have hn4 := (hb4.block _ (by have := (Array.getElem?_eq_some_iff.1 HN2.out).1; have := hb3.size; omega)).trans ((hb3.block _ (Array.getElem?_eq_some_iff.1 HN2.out).1).trans HN2.out)
  have z0 := cell_of_row _ _ 0 _ _ _ hn4
  have z1 := cell_of_row _ _ 1 _ _ _ hn4
  have z2 := cell_of_row _ _ 2 _ _ _ hn4
  have z3 := cell_of_row _ _ 3 _ _ _ hn4
  have z4 := cell_of_row _ _ 4 _ _ _ hn4
  have z5 := cell_of_row _ _ 5 _ _ _ hn4
  have z6 := cell_of_row _ _ 6 _ _ _ hn4
  have z7 := cell_of_row _ _ 7 _ _ _ hn4
  simp only [List.getElem?_toArray, List.getElem?_cons_succ, List.getElem?_cons_zero] at z0 z1 z2 z3 z4 z5 z6 z7
  have HB4 : Hid (Below w.heap.size w (w3.alloc (.cells #[.int .i64 K, .slice b L.length cp2, .int .i64 N, .int .i64 M, .int .i64 C, .int .i64 y0, .slice y1 y2 y3, .slice y4 y5 y6] 31))) := below_next (below_next HB2.out hb3 HB2.out.size) hb4 (below_next HB2.out hb3 HB2.out.size).size
  have hsc := rsamecmd_any (w3.alloc (.cells #[.int .i64 K, .slice b L.length cp2, .int .i64 N, .int .i64 M, .int .i64 C, .int .i64 y0, .slice y1 y2 y3, .slice y4 y5 y6] 31)) K N M C K N M C a b cp cp2 L L ((HR2.out.kept hb3).kept hb4) (hr3.kept hb4) _ _ q q _ _ _ _ _ _ ((HQ2.out.kept hb3).kept hb4) (hq3.kept hb4)
  unfold cmdI at hsc
  have hsc2 := hsc.mono (fun e w' (h : SameP _ _ e w') => (show e = .returned (.bool true) ∧ Below _ _ w' from by
    obtain ⟨bb, h1, h2, h3⟩ := h
    rw [h2.2 ⟨rfl, rfl, rfl, rfl, rfl, rfl⟩] at h1
    exact ⟨h1, h3⟩))
  have HSC := Lib.hid hsc2
  clear hb3 hb4 hn4 hr3 hq3 hsc hsc2
  go_wp2_with (go_at_call 12; refine Hid.out ?_)
  refine Lib.hid ?_
  refine HSC.out.mono ?_
  rintro e w5 ⟨rfl, hb5⟩
  have HB5 := Lib.hid (below_next HB4.out hb5 HB4.out.size)
  clear hb5
  go_wp2_with (go_at_call 6; refine (HAW.out _ HB5.out).mono ?_; rintro e w6 ⟨rfl, hb6⟩; have HB6 := Lib.hid (below_next HB5.out hb6 HB5.out.size); clear hb6)
  go_ret
  exact ⟨rfl, HB6.out⟩
end Go.Proofs.YtdcobmoeligdkaaDoor
