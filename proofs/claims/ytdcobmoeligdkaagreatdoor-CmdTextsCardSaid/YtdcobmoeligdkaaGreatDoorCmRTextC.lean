/-
  concordanceref23.CmdText: at any command.
-/
import Derived.Test.YtdcobmoeligdkaaGreatDoorCmRLineC
import Derived.Test.YtdcobmoeligdkaaGreatDoorCmRSameC
import Derived.Test.YtdcobmoeligdkaaGreatDoorCmText
namespace Go.Proofs.YtdcobmoeligdkaaGreatDoor
open Go.RowKit Go.Shelf

def RTextP (w : World) (k n m c : Int) (text : List UInt8) (q : QT) (e : Ending) (w' : World) : Prop :=
  Below w.heap.size w w' ∧ ((¬ TextR k n m c text q ∧ e = .returned (.tuple #[.string ⟨#[]⟩, .bool false])) ∨
    (TextR k n m c text q ∧ e = .returned (.tuple #[.string (uS (lineL k.toNat n m c text (qtextL q))), .bool true])))
theorem parse_empty : parseR [] = none := by
  unfold parseR
  rw [if_neg (by decide)]
  refine parse_none ?_
  have : wordOf [] = [] := wordOf_all [] (by simp)
  rw [this]; decide
set_option maxRecDepth 100000 in
set_option maxHeartbeats 4000000 in
theorem cmdtext_any (w : World) (K N M C : Int) (hK : I64 K) (hN : I64 N) (hM : I64 M) (hC : I64 C) (a : Option Addr) (cap : Nat) (text : List UInt8) (ht : text.length ≤ 2500) (hr : Row w a text.length (bV text)) (G : Nat → Prop) (q : QT) (v0 v1 v2 : Value) (hq : QAt w G q v0 v1 v2) :
    Calls Tryz.prog 7 #[cmdI K N M C (.slice a text.length cap) v0 v1 v2] w (RTextP w K N M C text q) := by
  obtain ⟨e1, n1, k1, e2, n2, k2, rfl, rfl, rfl⟩ := hq.form
  have hs0 := World.size_alloc w (.cells #[.int .i64 K, .slice a text.length cap, .int .i64 N, .int .i64 M, .int .i64 C, .int .i64 q.k, .slice e1 n1 k1, .slice e2 n2 k2] 27)
  have hb0 : Below w.heap.size w (w.alloc (.cells #[.int .i64 K, .slice a text.length cap, .int .i64 N, .int .i64 M, .int .i64 C, .int .i64 q.k, .slice e1 n1 k1, .slice e2 n2 k2] 27)) := (Below.refl _ _).alloc (Nat.le_refl _) _
  have hx0 := World.alloc_heap_new w (.cells #[.int .i64 K, .slice a text.length cap, .int .i64 N, .int .i64 M, .int .i64 C, .int .i64 q.k, .slice e1 n1 k1, .slice e2 n2 k2] 27)
  have hcl := cmdline_any (w.alloc (.cells #[.int .i64 K, .slice a text.length cap, .int .i64 N, .int .i64 M, .int .i64 C, .int .i64 q.k, .slice e1 n1 k1, .slice e2 n2 k2] 27)) K N M C hK hN hM hC a cap text ht (hr.kept hb0) G q _ _ _ (hq.kept hb0)
  have HR := Lib.hid hr
  have HQA := Lib.hid hq
  have hrl := rline_len K N M C text q ht hN hM hC
  have HI1 : Hid (TextR K N M C text q → rline K N M C text q = lineL K.toNat N M C text (qtextL q)) := rline_is
  have HI2 : Hid (rline K N M C text q ≠ [] → (1 ≤ K ∧ K ≤ 17) ∧ rline K N M C text q = lineL K.toNat N M C text (qtextL q)) := rline_line
  clear hq hr
  unfold cmdI at hcl ⊢
  have HCL := Lib.hid hcl
  have HX0 := Lib.hid hx0
  have HB0 := Lib.hid hb0
  clear hcl hx0 hb0
  generalize rline K N M C text q = s0 at *
  generalize q.k = e0 at *
  have ht4 : ¬ (4000 : Int) < (text.length : Int) := by omega
  have ht4d : decide ((4000 : Int) < (text.length : Int)) = false := decide_eq_false ht4
  go_enter Tryz.func7, Tryz.ntmps7
  go_wp2_with (go_at_call 17; refine Hid.out ?_)
  refine Lib.hid ?_
  generalize (w.alloc (.cells #[.int .i64 K, .slice a text.length cap, .int .i64 N, .int .i64 M, .int .i64 C, .int .i64 e0, .slice e1 n1 k1, .slice e2 n2 k2] 27)) = w0 at *
  refine HCL.out.mono ?_
  rintro e w1 ⟨rfl, hb1⟩
  have HB1 : Hid (Below w.heap.size w w1) := below_next HB0.out hb1 HB0.out.size
  have hx1 := (hb1.block _ (Array.getElem?_eq_some_iff.1 HX0.out).1).trans HX0.out
  have HX1 := Lib.hid hx1
  clear hb1 hx1 HX0 HB0 HCL hs0
  have HCO := Lib.hid (rcommand_any w1 s0 (by omega))
  go_wp2_with (go_at_call 18; refine Hid.out ?_)
  refine Lib.hid ?_
  refine HCO.out.mono ?_
  rintro e w2 ⟨hb2, hcase⟩
  have HB2 : Hid (Below w.heap.size w w2) := below_next HB1.out hb2 HB1.out.size
  have hx2 := (hb2.block _ (Array.getElem?_eq_some_iff.1 HX1.out).1).trans HX1.out
  have HX2 := Lib.hid hx2
  clear hb2 hx2 HX1 HB1 HCO
  rcases hcase with ⟨hp, rfl⟩ | ⟨st, v, u0, u1, u2, hp, rfl, ⟨av, cv, rfl, hav, -⟩, hqv⟩
  · have HN : Hid (∀ W, Below w.heap.size w W → RTextP w K N M C text q (.returned (.tuple #[.string ⟨#[]⟩, .bool false])) W) := fun W hW => ⟨hW, .inl ⟨fun h => by
      have h1 := HI1.out h
      obtain ⟨_, _, _, st, h2, _⟩ := h
      rw [← h1, hp] at h2; (cases h2), rfl⟩⟩
    obtain ⟨E, hE, hE0⟩ : ∃ E : Int, (if 9000 < s0.length then (2 : Int) else 3) = E ∧ (E != 0) = true := by
      by_cases h : 9000 < s0.length
      · exact ⟨2, if_pos h, rfl⟩
      · exact ⟨3, if_neg h, rfl⟩
    rw [hE]
    have hemp := uS_eq s0 []
    have ee : (uS ([] : List UInt8)).toList = [] := uS_toList []
    rw [ee] at hemp
    have HBF : Hid (∀ o, Below w.heap.size w (w2.alloc o)) := fun o => HB2.out.alloc HB2.out.size o
    clear hp hE ee HI1 HI2
    by_cases h0 : s0 = []
    · rw [decide_eq_true h0] at hemp
      clear h0
      unfold zeroC
      go_wp2
      go_ret2
      exact HN.out _ (HBF.out _)
    · rw [decide_eq_false h0] at hemp
      clear h0
      unfold zeroC
      go_wp2
      go_ret2
      exact HN.out _ (HBF.out _)
  · have hne : s0 ≠ [] := fun h => by rw [h, parse_empty] at hp; cases hp
    obtain ⟨hk12, hll⟩ := HI2.out hne
    have hst := parseR_text hp
    have hemp := uS_eq s0 []
    have ee : (uS ([] : List UInt8)).toList = [] := uS_toList []
    rw [ee, decide_eq_false hne] at hemp
    obtain ⟨y1, y2, y3, y4, y5, y6, rfl, rfl, rfl⟩ := hqv.form
    unfold cmdV cmdA
    have hb3 : Below w2.heap.size w2 (w2.alloc (.cells #[.int .i64 (st.kind : Int), .slice av st.text.length cv, .int .i64 (st.n : Int), .int .i64 (st.m : Int), .int .i64 (st.k : Int), .int .i64 st.q.k, .slice y1 y2 y3, .slice y4 y5 y6] 27)) := (Below.refl _ _).alloc (Nat.le_refl _) _
    have hx3 := (hb3.block _ (Array.getElem?_eq_some_iff.1 HX2.out).1).trans HX2.out
    have HB3 : Hid (Below w.heap.size w (w2.alloc (.cells #[.int .i64 (st.kind : Int), .slice av st.text.length cv, .int .i64 (st.n : Int), .int .i64 (st.m : Int), .int .i64 (st.k : Int), .int .i64 st.q.k, .slice y1 y2 y3, .slice y4 y5 y6] 27))) := below_next HB2.out hb3 HB2.out.size
    have hsc := rsamecmd_any (w2.alloc (.cells #[.int .i64 (st.kind : Int), .slice av st.text.length cv, .int .i64 (st.n : Int), .int .i64 (st.m : Int), .int .i64 (st.k : Int), .int .i64 st.q.k, .slice y1 y2 y3, .slice y4 y5 y6] 27)) K N M C (st.kind : Int) (st.n : Int) (st.m : Int) (st.k : Int) a av cap cv text st.text (HR.out.kept HB3.out) (hav.kept hb3) _ _ q st.q _ _ _ _ _ _ (HQA.out.kept HB3.out) (hqv.kept hb3)
    have z0 := cell_of_row _ _ 0 _ _ _ hx3
    have z1 := cell_of_row _ _ 1 _ _ _ hx3
    have z2 := cell_of_row _ _ 2 _ _ _ hx3
    have z3 := cell_of_row _ _ 3 _ _ _ hx3
    have z4 := cell_of_row _ _ 4 _ _ _ hx3
    have z5 := cell_of_row _ _ 5 _ _ _ hx3
    have z6 := cell_of_row _ _ 6 _ _ _ hx3
    have z7 := cell_of_row _ _ 7 _ _ _ hx3
    simp only [List.getElem?_toArray, List.getElem?_cons_succ, List.getElem?_cons_zero] at z0 z1 z2 z3 z4 z5 z6 z7
    have HYES : Hid (isR K N M C text q st → ∀ W, Below w.heap.size w W → RTextP w K N M C text q (.returned (.tuple #[.string (uS s0), .bool true])) W) := fun hi W hW => ⟨hW, .inr ⟨⟨hk12.1, hk12.2, by rw [hi.2.1]; exact hst, st, by rw [← hll]; exact hp, hi⟩, by rw [hll]⟩⟩
    have HNO : Hid (¬ isR K N M C text q st → ∀ W, Below w.heap.size w W → RTextP w K N M C text q (.returned (.tuple #[.string ⟨#[]⟩, .bool false])) W) := fun hi W hW => ⟨hW, .inl ⟨fun h => by
      obtain ⟨_, _, _, st', h2, h3⟩ := h
      rw [← hll, hp] at h2
      obtain rfl := Option.some.inj h2
      exact hi h3, rfl⟩⟩
    unfold cmdI at hsc
    have HSC := Lib.hid hsc
    clear hsc hx3 hb3 hqv hav hp hll hne hk12 ee HI1 HI2 hst
    go_wp2_with (go_at_call 9; refine Hid.out ?_)
    refine Lib.hid ?_
    refine HSC.out.mono ?_
    rintro e w4 ⟨bb, rfl, hbb, hb4⟩
    have HB4 := Lib.hid (below_next HB3.out hb4 HB3.out.size)
    have HBB : Hid (bb = true ↔ isR K N M C text q st) := hbb
    clear hbb hb4 HSC z0 z1 z2 z3 z4 z5 z6 z7
    cases bb with
    | true =>
      have HY := Lib.hid (HYES.out (HBB.out.1 rfl) w4 HB4.out)
      clear HYES HNO HBB
      go_wp2
      go_ret2
      exact HY.out
    | false =>
      have HY := Lib.hid (HNO.out (fun h => Bool.noConfusion (HBB.out.2 h)) w4 HB4.out)
      clear HYES HNO HBB
      go_wp2
      go_ret2
      exact HY.out
end Go.Proofs.YtdcobmoeligdkaaGreatDoor
