/-
  The statement CmdTexts: its walk.
-/
import Derived.Test.YtdcobmoeligdkaaGreatDoorCmRTextC
import Derived.Test.YtdcobmoeligdkaaGreatDoorCmFew
import Derived.Test.YtdcobmoeligdkaaGreatDoorCmAwake
namespace Go.Proofs.YtdcobmoeligdkaaGreatDoor
open Go.RowKit Go.Shelf

set_option maxRecDepth 100000 in
set_option maxHeartbeats 4000000 in
theorem cmdTexts_walk (w : World) (he : Env w) (K N M C : Int) (hK : I64 K) (hN : I64 N) (hM : I64 M) (hC : I64 C) (a : Option Addr) (cap : Nat) (text : List UInt8) (htm : text.length ≤ maxLen) (hr : Row w a text.length (bV text)) (G : Nat → Prop) (q : QT) (v0 v1 v2 : Value) (hq : QAt w G q v0 v1 v2) :
    Calls Tryz.prog 3 #[cmdI K N M C (.slice a text.length cap) v0 v1 v2] w fun e w' => e = .returned (.bool true) ∧ Below w.heap.size w w' := by
  obtain ⟨e1, n1, k1, e2, n2, k2, rfl, rfl, rfl⟩ := hq.form
  have HAW := Lib.hid (fun (W : World) (hW : Below w.heap.size w W) => awake27_any W (he.kept hW))
  have hb0 : Below w.heap.size w (w.alloc (.cells #[.int .i64 K, .slice a text.length cap, .int .i64 N, .int .i64 M, .int .i64 C, .int .i64 q.k, .slice e1 n1 k1, .slice e2 n2 k2] 27)) := (Below.refl _ _).alloc (Nat.le_refl _) _
  have hx0 := World.alloc_heap_new w (.cells #[.int .i64 K, .slice a text.length cap, .int .i64 N, .int .i64 M, .int .i64 C, .int .i64 q.k, .slice e1 n1 k1, .slice e2 n2 k2] 27)
  have hfew := few_any (w.alloc (.cells #[.int .i64 K, .slice a text.length cap, .int .i64 N, .int .i64 M, .int .i64 C, .int .i64 q.k, .slice e1 n1 k1, .slice e2 n2 k2] 27)) G q _ _ _ (hq.kept hb0)
  have htl : text.length ≤ 9223372036854775807 := htm
  have HE := Lib.hid he
  have HR := Lib.hid hr
  have HQA := Lib.hid hq
  have HX0 := Lib.hid hx0
  have HB0 := Lib.hid hb0
  have HFW := Lib.hid hfew
  unfold cmdI
  clear he hr hq hx0 hb0 hfew htm
  generalize q.k = e0 at *
  by_cases hlong : 2500 < text.length
  · have hli : (2500 : Int) < (text.length : Int) := by omega
    have hld : decide ((2500 : Int) < (text.length : Int)) = true := decide_eq_true hli
    clear HFW
    go_enter Tryz.func3, Tryz.ntmps3
    go_wp2_with (go_at_call 5; refine (HAW.out _ HB0.out).mono ?_; rintro e w9 ⟨rfl, hb9⟩; have HB9 := Lib.hid (below_next HB0.out hb9 (HB0.out).size); clear hb9)
    go_ret
    exact ⟨rfl, HB9.out⟩
  have hli : ¬ (2500 : Int) < (text.length : Int) := by omega
  have hld : decide ((2500 : Int) < (text.length : Int)) = false := decide_eq_false hli
  have ht25 : text.length ≤ 2500 := by omega
  clear hlong
  go_enter Tryz.func3, Tryz.ntmps3
  go_wp2_with (go_at_call 4; refine Hid.out ?_)
  refine Lib.hid ?_
  generalize (w.alloc (.cells #[.int .i64 K, .slice a text.length cap, .int .i64 N, .int .i64 M, .int .i64 C, .int .i64 e0, .slice e1 n1 k1, .slice e2 n2 k2] 27)) = w0 at *
  refine HFW.out.mono ?_
  rintro e w1 ⟨⟨bf, rfl⟩, hb1⟩
  have HB1 : Hid (Below w.heap.size w w1) := below_next HB0.out hb1 HB0.out.size
  have hx1 := (hb1.block _ (Array.getElem?_eq_some_iff.1 HX0.out).1).trans HX0.out
  have HX1 := Lib.hid hx1
  clear hb1 HX0 HB0 HFW
  cases bf with
  | false =>
    clear hx1
    go_wp2_with (go_at_call 5; refine (HAW.out _ HB1.out).mono ?_; rintro e w9 ⟨rfl, hb9⟩; have HB9 := Lib.hid (below_next HB1.out hb9 (HB1.out).size); clear hb9)
    go_ret
    exact ⟨rfl, HB9.out⟩
  | true =>
    have z0 := cell_of_row w1 _ 0 _ _ _ hx1
    have z1 := cell_of_row w1 _ 1 _ _ _ hx1
    have z2 := cell_of_row w1 _ 2 _ _ _ hx1
    have z3 := cell_of_row w1 _ 3 _ _ _ hx1
    have z4 := cell_of_row w1 _ 4 _ _ _ hx1
    have z5 := cell_of_row w1 _ 5 _ _ _ hx1
    have z6 := cell_of_row w1 _ 6 _ _ _ hx1
    have z7 := cell_of_row w1 _ 7 _ _ _ hx1
    simp only [List.getElem?_toArray, List.getElem?_cons_succ, List.getElem?_cons_zero] at z0 z1 z2 z3 z4 z5 z6 z7
    have htx := text_any w1 (HE.out.kept HB1.out) K N M C hN hM hC hK a cap text (by omega) (HR.out.kept HB1.out) G q _ _ _ (HQA.out.kept HB1.out)
    unfold cmdI at htx
    have HTX := Lib.hid htx
    clear htx hx1
    go_wp2_with (go_at_call 6; refine Hid.out ?_)
    refine Lib.hid ?_
    refine HTX.out.mono ?_
    rintro e w2 ⟨hb2, hcase⟩
    have HB2 : Hid (Below w.heap.size w w2) := below_next HB1.out hb2 HB1.out.size
    have hx2 := (hb2.block _ (Array.getElem?_eq_some_iff.1 HX1.out).1).trans HX1.out
    have HX2 := Lib.hid hx2
    have hrt := cmdtext_any w2 K N M C hK hN hM hC a cap text ht25 (HR.out.kept HB2.out) G q _ _ _ (HQA.out.kept HB2.out)
    unfold cmdI at hrt
    have HRT := Lib.hid hrt
    clear hb2 HB1 HX1 HTX hrt z0 z1 z2 z3 z4 z5 z6 z7
    have z0 := cell_of_row w2 _ 0 _ _ _ hx2
    have z1 := cell_of_row w2 _ 1 _ _ _ hx2
    have z2 := cell_of_row w2 _ 2 _ _ _ hx2
    have z3 := cell_of_row w2 _ 3 _ _ _ hx2
    have z4 := cell_of_row w2 _ 4 _ _ _ hx2
    have z5 := cell_of_row w2 _ 5 _ _ _ hx2
    have z6 := cell_of_row w2 _ 6 _ _ _ hx2
    have z7 := cell_of_row w2 _ 7 _ _ _ hx2
    simp only [List.getElem?_toArray, List.getElem?_cons_succ, List.getElem?_cons_zero] at z0 z1 z2 z3 z4 z5 z6 z7
    clear hx2
    rcases hcase with ⟨hno, rfl⟩ | ⟨hyes, rfl⟩
    · have HRN : Hid (Calls Tryz.prog 7 #[.agg #[.int .i64 K, .slice a text.length cap, .int .i64 N, .int .i64 M, .int .i64 C, .int .i64 e0, .slice e1 n1 k1, .slice e2 n2 k2]] w2 fun e w' => e = .returned (.tuple #[.string ⟨#[]⟩, .bool false]) ∧ Below w2.heap.size w2 w') := HRT.out.mono (fun e w' h => ⟨by
        rcases h.2 with ⟨_, h2⟩ | ⟨h2, _⟩
        · exact h2
        · exact absurd h2 hno, h.1⟩)
      clear hno HRT
      go_wp2_with (first
        | (go_at_call 7; refine HRN.out.mono ?_; rintro e w3 ⟨rfl, hb3⟩; have HB3 := Lib.hid (below_next HB2.out hb3 HB2.out.size); clear hb3)
        | (go_at_call 5; refine (HAW.out _ HB3.out).mono ?_; rintro e w9 ⟨rfl, hb9⟩; have HB9 := Lib.hid (below_next HB3.out hb9 HB3.out.size); clear hb9))
      go_ret
      exact ⟨rfl, HB9.out⟩
    · have HRY : Hid (Calls Tryz.prog 7 #[.agg #[.int .i64 K, .slice a text.length cap, .int .i64 N, .int .i64 M, .int .i64 C, .int .i64 e0, .slice e1 n1 k1, .slice e2 n2 k2]] w2 fun e w' => e = .returned (.tuple #[.string (uS (lineL K.toNat N M C text (qtextL q))), .bool true]) ∧ Below w2.heap.size w2 w') := HRT.out.mono (fun e w' h => ⟨by
        rcases h.2 with ⟨h2, _⟩ | ⟨_, h2⟩
        · exact absurd hyes h2
        · exact h2, h.1⟩)
      obtain ⟨h1, h2, h3, st, hp, hi⟩ := hyes
      have hll := line_len K.toNat (by omega) N M C hN hM hC text (qtextL q) h3 (qtextL_len q)
      have hst := parseR_text hp
      have HP := Lib.hid hp
      have HI := Lib.hid hi
      clear HRT h1 h2 h3 hp hi
      generalize lineL K.toNat N M C text (qtextL q) = ln at *
      go_wp2_with (go_at_call 7; refine Hid.out ?_)
      refine Lib.hid ?_
      refine HRY.out.mono ?_
      rintro e w3 ⟨rfl, hb3⟩
      have HB3 : Hid (Below w.heap.size w w3) := below_next HB2.out hb3 HB2.out.size
      have HX3 := Lib.hid ((hb3.block _ (Array.getElem?_eq_some_iff.1 HX2.out).1).trans HX2.out)
      clear hb3 HB2 HX2 HRY z0 z1 z2 z3 z4 z5 z6 z7
      have HPF := Lib.hid (parse_full w3 (HE.out.kept HB3.out) ln (by omega))
      go_wp2_with (go_at_call 8; refine Hid.out ?_)
      refine Lib.hid ?_
      refine HPF.out.mono ?_
      rintro e w4 ⟨hb4, (⟨h, -⟩ | ⟨st', v, u0, u1, u2, h, rfl, ⟨av, rfl, hav, -⟩, hqv⟩)⟩
      · rw [HP.out] at h; cases h
      rw [HP.out] at h
      obtain rfl := Option.some.inj h
      obtain ⟨y1, y2, y3, y4, y5, y6, rfl, rfl, rfl⟩ := hqv.form
      unfold cmdV cmdA
      have HB4 : Hid (Below w.heap.size w w4) := below_next HB3.out hb4 HB3.out.size
      have hx4 := (hb4.block _ (Array.getElem?_eq_some_iff.1 HX3.out).1).trans HX3.out
      have hb5 : Below w4.heap.size w4 (w4.alloc (.cells #[.int .i64 (st.kind : Int), .slice av st.text.length st.text.length, .int .i64 (st.n : Int), .int .i64 (st.m : Int), .int .i64 (st.k : Int), .int .i64 st.q.k, .slice y1 y2 y3, .slice y4 y5 y6] 27)) := (Below.refl _ _).alloc (Nat.le_refl _) _
      have hx5 := (hb5.block _ (Array.getElem?_eq_some_iff.1 hx4).1).trans hx4
      have HB5 : Hid (Below w.heap.size w (w4.alloc (.cells #[.int .i64 (st.kind : Int), .slice av st.text.length st.text.length, .int .i64 (st.n : Int), .int .i64 (st.m : Int), .int .i64 (st.k : Int), .int .i64 st.q.k, .slice y1 y2 y3, .slice y4 y5 y6] 27))) := below_next HB4.out hb5 HB4.out.size
      have hsc := rsamecmd_any (w4.alloc (.cells #[.int .i64 (st.kind : Int), .slice av st.text.length st.text.length, .int .i64 (st.n : Int), .int .i64 (st.m : Int), .int .i64 (st.k : Int), .int .i64 st.q.k, .slice y1 y2 y3, .slice y4 y5 y6] 27)) K N M C (st.kind : Int) (st.n : Int) (st.m : Int) (st.k : Int) a av cap st.text.length text st.text (HR.out.kept HB5.out) (hav.kept hb5) _ _ q st.q _ _ _ _ _ _ (HQA.out.kept HB5.out) (hqv.kept hb5)
      have hsc2 := hsc.mono (fun e w' (h : SameP _ _ e w') => (show e = .returned (.bool true) ∧ Below _ _ w' from by
        obtain ⟨bb, h1, h2, h3⟩ := h
        rw [h2.2 HI.out] at h1
        exact ⟨h1, h3⟩))
      unfold cmdI at hsc2
      have HSC := Lib.hid hsc2
      have heq := uS_eq ln ln
      have z0 := cell_of_row _ _ 0 _ _ _ hx5
      have z1 := cell_of_row _ _ 1 _ _ _ hx5
      have z2 := cell_of_row _ _ 2 _ _ _ hx5
      have z3 := cell_of_row _ _ 3 _ _ _ hx5
      have z4 := cell_of_row _ _ 4 _ _ _ hx5
      have z5 := cell_of_row _ _ 5 _ _ _ hx5
      have z6 := cell_of_row _ _ 6 _ _ _ hx5
      have z7 := cell_of_row _ _ 7 _ _ _ hx5
      simp only [List.getElem?_toArray, List.getElem?_cons_succ, List.getElem?_cons_zero] at z0 z1 z2 z3 z4 z5 z6 z7
      clear hsc hsc2 hb4 hb5 hx4 hx5 hqv hav h HPF HX3 HB3 HP HI
      go_wp2_with (first
        | (go_at_call 9; refine HSC.out.mono ?_; rintro e w6 ⟨rfl, hb6⟩; have HB6 := Lib.hid (below_next HB5.out hb6 HB5.out.size); clear hb6)
        | (go_at_call 5; refine (HAW.out _ HB6.out).mono ?_; rintro e w9 ⟨rfl, hb9⟩; have HB9 := Lib.hid (below_next HB6.out hb9 HB6.out.size); clear hb9))
      go_ret
      exact ⟨rfl, HB9.out⟩
end Go.Proofs.YtdcobmoeligdkaaGreatDoor
