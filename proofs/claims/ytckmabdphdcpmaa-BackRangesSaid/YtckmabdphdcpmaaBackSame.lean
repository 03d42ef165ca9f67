/-
  The statement BackSame: its walk; Syms.
-/
import Derived.Test.YtckmabdphdcpmaaBackAwake
namespace Go.Proofs.Ytckmabdphdcpmaa
open Go.RowKit

set_option maxRecDepth 100000 in
set_option maxHeartbeats 400000 in
theorem clone16_any (w : World) (a : Option Addr) (n cap : Nat) (f : Nat → Value) (hn : n ≤ 1000000) (h1 : ∀ k, k < n → (f k).oneCell' = true) (hr : Row w a n f) :
    Calls Try.prog 30 #[.slice a n cap] w fun e w' => ∃ a' cap', e = .returned (.slice a' n cap') ∧ n ≤ cap' ∧ (a' = none → cap' = 0) ∧ Row w' a' n f ∧ Below w.heap.size w w' ∧ (n = 0 ∨ w.heap.size ≤ bOf a') := by
  have hnil := fun W => Lib.run_eql_slice_nil (P := Try.prog) W 33 57 a n cap 0 0 Try.underlying33
  obtain ⟨i0, hi, hz0, hz1, hz2⟩ := info_parts Wv.info_u16
  cases a with
  | none =>
    have hn0 : n = 0 := by rcases hr.at_ with h | h; · exact h
                           · cases h
    subst hn0
    have e1 : Option.isNone (none : Option Addr) = true := rfl
    clear hr h1
    go_enter Try.func30, Try.ntmps30
    go_wp2
    go_ret
    exact ⟨none, 0, rfl, Nat.le_refl _, fun _ => rfl, Row.nil _ _ _, Below.refl _ _, by simp⟩
  | some ad =>
    have hx0 := owns_empty w w.heap.size 57 (Nat.le_refl _)
    have hb0 : Below w.heap.size w (w.alloc (.cells #[] 57)) := (Below.refl _ w).alloc (Nat.le_refl _) _
    obtain ⟨v3, w3, hrun3, hown3, hg3, _⟩ := run_append_row (P := Try.prog) (w.alloc (.cells #[] 57)) w.heap.size 33 33 57 i0 _ 2 Try.underlying33 hi hz0 hz1 hz2 rfl _ 0 [] hx0 (some ad) n cap _ (hr.kept hb0) h1 (by simp only [maxLen]; omega) (by omega) (by simp)
    have hB3 : Below w.heap.size w w3 := hb0.grown hg3 (by simp) (fun k hk => by simp [Value.ownBlock] at hk; omega)
    rw [Nat.zero_add, List.nil_append] at hown3
    have hcap0 : ∀ c, v3 = .slice none n c → c = 0 := fun c hc => by
      rcases hown3.2 with ⟨e, _⟩ | ⟨g, cap, cur, e, _⟩
      · rw [hc] at e; injection e
      · rw [hc] at e; cases e
    obtain ⟨a3, cap3, rfl, hc3, hr3, hlow3, _⟩ := Row.of_owns hown3
    have hr3' : Row w3 a3 n f := hr3.congr fun k hk => by simp [List.getD_eq_getElem?_getD, hk]
    have hcc : a3 = none → cap3 = 0 := fun e => hcap0 cap3 (by rw [e])
    have R3 := Lib.hid hrun3
    have HR3 := Lib.hid hr3'
    have HB3 := Lib.hid hB3
    have HCC := Lib.hid hcc
    clear hr hx0 hb0 hrun3 hown3 hg3 hB3 hr3 hr3' h1 hcap0 hcc
    go_enter Try.func30, Try.ntmps30
    go_wp2_with ((with_reducible refine wpList_append_run rfl _ _ _ rfl R3.out rfl rfl ?_); clear R3)
    go_ret
    exact ⟨a3, cap3, rfl, hc3, HCC.out, HR3.out, HB3.out, hlow3⟩
set_option maxRecDepth 100000 in
set_option maxHeartbeats 400000 in
theorem bsyms_any (w : World) (bx bm : Nat) (al : Option Addr) (cap : Nat) (L : List Nat) (h : IdxAt w bx bm al cap L) :
    Calls Try.prog 13 #[.pointer (some ⟨bx, 0, none⟩)] w (BSymsPost w L) := by
  have hsm : L.length ≤ 100000 := by obtain ⟨_, _, _, _, _, hm⟩ := h.mt; exact hm.small
  have c0 := h.c0
  have HC := Lib.hid (clone16_any w al L.length cap (symV L) (by omega) (fun _ _ => rfl) h.rl)
  clear h
  go_enter Try.func13, Try.ntmps13
  go_wp2_with fail
  refine HC.out.mono ?_
  rintro e w1 ⟨a', cap', rfl, h1, h2, hr, hb, -⟩
  have HR := Lib.hid hr
  have HB := Lib.hid hb
  have HK := Lib.hid (clip16_any w1 a' L.length cap' h1 h2)
  clear hr hb h1 h2
  go_wp2_with fail
  refine HK.out.mono ?_
  rintro e w' ⟨rfl, rfl⟩
  go_wp2
  go_ret
  exact ⟨a', rfl, HR.out, HB.out⟩
set_option maxRecDepth 100000 in
set_option maxHeartbeats 2000000 in
theorem bsame_walk (w : World) (a : Option Addr) (cap : Nat) (A : Nat → Option Addr) (C : Nat → Nat) (ds : List (List Nat)) (hin : DocsIn w a A C ds) (a1 : Option Addr) (len cap1 : Nat) (f : Nat → Int) (hl : len ≤ maxLen) (hr : Row w a1 len (fun k => .int .u8 (f k)) ∧ ∀ k, k < len → (Lit.int .u8 (f k)).wf = true) :
    Calls Try.prog 4 #[.slice a ds.length cap, .slice a1 len cap1] w fun e w' => e = .returned (.bool true) ∧ Below w.heap.size w w' := by
  obtain ⟨P, hd, hdr, hpb⟩ := bytes_list hr
  subst hd
  unfold maxLen at hl
  have HF := Lib.hid (few_any w a cap A C ds hin.many hin.docs hin.long)
  have HIN := Lib.hid hin
  have HP := Lib.hid hdr
  have HPB := Lib.hid hpb
  clear hin hr hdr hpb
  go_enter Try.func4, Try.ntmps4
  go_wp2_with fail
  refine HF.out.mono ?_
  rintro e w' ⟨b, rfl, hfew, rfl⟩
  cases b with
  | false =>
    clear hfew
    go_wp2_with (go_at_call 9; refine (awake12_any _).mono ?_; rintro e w1 ⟨rfl, hb⟩)
    go_ret
    exact ⟨rfl, hb⟩
  | true =>
    obtain ⟨hf1, hf2, hf3⟩ := hfew rfl
    have HFEW := Lib.hid (FewP.mk hf1 hf2 hf3 HIN.out.byte)
    clear hfew hf2 HF
    have HOK := Lib.hid HFEW.out.ok
    by_cases hp : (60 : Int) < (P.length : Int)
    · go_wp2_with (go_at_call 9; refine (awake12_any _).mono ?_; rintro e w1 ⟨rfl, hb⟩)
      go_ret
      exact ⟨rfl, hb⟩
    · have hpd : decide ((60 : Int) < (P.length : Int)) = false := by simp; omega
      have hpl : P.length ≤ 60 := by omega
      clear hp hl
      go_wp2_with fail
      refine (bmade_any w a cap A C ds HIN.out.docs HOK.out).mono ?_
      rintro e w1 ⟨bx, bm, al, cl, rfl, hi, hb1, hlo⟩
      have HI1 := Lib.hid hi
      have HB1 := Lib.hid hb1
      have HBN := Lib.hid (fun (W : World) (aa : Option Addr) (cc : Nat) (h : Row W aa (bwtOf ds).length (symV (bwtOf ds))) => bnew_yes W aa cc ds HOK.out h)
      have hLl : (bwtOf ds).length ≤ 3040 := by rw [bwtOf_len]; exact hf3
      clear hi hb1 hlo
      generalize bwtOf ds = L at *
      go_wp2_with fail
      refine (bsyms_any w1 bx bm al cl L HI1.out).mono ?_
      rintro e w2 ⟨a2, rfl, hr2, hb2⟩
      have HN2 := Lib.hid (HBN.out w2 a2 L.length hr2)
      have HB2 : Hid (Below w.heap.size w w2) := below_next HB1.out hb2 HB1.out.size
      have HI2 := Lib.hid (HI1.out.kept hb2)
      clear hr2 hb2 HB1 HI1 HBN
      go_wp2_with fail
      refine HN2.out.mono ?_
      rintro e w3 ⟨by_, bn, am, cm, rfl, hj, hb3, hlo⟩
      have HB3 : Hid (Below w.heap.size w w3) := below_next HB2.out hb3 HB2.out.size
      have HI3 := Lib.hid (HI2.out.kept hb3)
      have HJ3 := Lib.hid hj
      have HP3 := Lib.hid (HP.out.kept HB3.out)
      clear hj hb3 hlo HB2 HI2 HN2
      go_wp2_with fail
      refine (brange_any w3 bx bm al cl L HI3.out a1 cap1 P (by omega) HPB.out HP3.out).mono ?_
      rintro e w4 ⟨rfl, hb4⟩
      have HB4 : Hid (Below w.heap.size w w4) := below_next HB3.out hb4 HB3.out.size
      have HI4 := Lib.hid (HI3.out.kept hb4)
      have HJ4 := Lib.hid (HJ3.out.kept hb4)
      have HP4 := Lib.hid (HP3.out.kept hb4)
      clear hb4 HB3 HI3 HJ3 HP3
      go_wp2_with fail
      refine (brange_any w4 by_ bn am cm L HJ4.out a1 cap1 P (by omega) HPB.out HP4.out).mono ?_
      rintro e w5 ⟨rfl, hb5⟩
      have HB5 : Hid (Below w.heap.size w w5) := below_next HB4.out hb5 HB4.out.size
      have HI5 := Lib.hid (HI4.out.kept hb5)
      have HJ5 := Lib.hid (HJ4.out.kept hb5)
      clear hb5 HB4 HI4 HJ4 HP4
      have HRN := Lib.hid (brange_any w5 bx bm al cl L HI5.out none 0 [] (by simp) (by simp) (Row.nil _ _ _))
      unfold RangePost at HRN
      rw [bkR_nil] at HRN
      go_wp2_with fail
      refine HRN.out.mono ?_
      rintro e w6 ⟨rfl, hb6⟩
      have HB6 : Hid (Below w.heap.size w w6) := below_next HB5.out hb6 HB5.out.size
      have HI6 := Lib.hid (HI5.out.kept hb6)
      have HJ6 := Lib.hid (HJ5.out.kept hb6)
      have HL1 := Lib.hid (blen_any w6 bx bm al cl L HI6.out)
      have HL2 := Lib.hid (blen_any w6 by_ bn am cm L HJ6.out)
      have HD1 := Lib.hid (bdocs_any w6 bx bm al cl L HI6.out)
      have HD2 := Lib.hid (bdocs_any w6 by_ bn am cm L HJ6.out)
      have HCN := Lib.hid (bcount_nil w6 bx none 0)
      clear hb6 HB5 HI5 HJ5 HRN
      generalize (bkR L P).1 = lo at *
      generalize (bkR L P).2 = hi at *
      generalize stC L 1 = dd at *
      have z1 : ((lo : Int) == (lo : Int)) = true := by simp
      have z2 : ((hi : Int) == (hi : Int)) = true := by simp
      have z3 : ((L.length : Int) == (L.length : Int)) = true := by simp
      have z4 : ((dd : Int) == (dd : Int)) = true := by simp
      go_wp2_with fail
      refine HL1.out.mono ?_
      rintro e w' ⟨rfl, rfl⟩
      go_wp2_with fail
      refine HL2.out.mono ?_
      rintro e w' ⟨rfl, rfl⟩
      go_wp2_with fail
      refine HD1.out.mono ?_
      rintro e w' ⟨rfl, rfl⟩
      go_wp2_with fail
      refine HD2.out.mono ?_
      rintro e w' ⟨rfl, rfl⟩
      go_wp2_with fail
      refine HL1.out.mono ?_
      rintro e w' ⟨rfl, rfl⟩
      go_wp2_with fail
      refine HCN.out.mono ?_
      rintro e w' ⟨rfl, rfl⟩
      go_wp2_with (go_at_call 9; refine (awake12_any _).mono ?_; rintro e w7 ⟨rfl, hb7⟩)
      have HB7 : Hid (Below w.heap.size w w7) := below_next HB6.out hb7 HB6.out.size
      go_ret
      exact ⟨rfl, HB7.out⟩
end Go.Proofs.Ytckmabdphdcpmaa
