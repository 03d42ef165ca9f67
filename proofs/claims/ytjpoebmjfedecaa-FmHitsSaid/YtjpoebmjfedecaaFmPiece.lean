/-
  Piece: a piece of a document.
-/
import Derived.Test.YtjpoebmjfedecaaFmGet
namespace Go.Proofs.Ytjpoebmjfedecaa
open Go.RowKit

/-- a cut within bytes -/
def cutB (a : Option Addr) (cap l : Nat) : Option Addr := if cap = l then a else a.map (·.add (l * 1))
theorem cut_lh8 (a : Option Addr) (n cap l h : Nat) (hl : l ≤ h) (hh : h ≤ n) (hc : n ≤ cap) : ∀ W : World, (Instr.slice 22 (.slice a n cap) (some (.int .i64 (l : Int))) (some (.int .i64 (h : Int))) none).run Try.prog W = .ok (.slice (cutB a cap l) (h - l) (cap - l)) W := by
  intro W
  rw [run_slice_lh (P := Try.prog) (w := W) 22 a n cap (by kernel_rfl) .i64 .i64 (l : Int) (h : Int) (by omega) (by omega) (by omega), size_u8 W]
  rfl
theorem cut_row {w : World} {a : Option Addr} {n : Nat} {f : Nat → Value} (hr : Row w a n f) (cap l h : Nat) (hl : l ≤ h) (hh : h ≤ n) (hc : n ≤ cap) : Row w (cutB a cap l) (h - l) (fun k => f (l + k)) := by
  rcases Nat.eq_zero_or_pos (h - l) with h0 | h0
  · rw [h0]; exact Row.nil _ _ _
  · have ha := hr.at_.resolve_left (by omega)
    have hcell := hr.cell
    unfold cutB
    have e1 : a.map (·.add (l * 1)) = some ⟨bOf a, oOf a + l * 1, none⟩ := by
      conv => lhs; rw [ha]
      simp [Addr.add]
    rw [if_neg (by omega), e1]
    refine ⟨.inr rfl, fun k hk => ?_⟩
    have := hcell (l + k) (by omega)
    show w.cell? ⟨bOf a, oOf a + l * 1 + k, none⟩ = _
    rw [show oOf a + l * 1 + k = oOf a + (l + k) by omega]
    exact this
attribute [irreducible] cutB
def PiecePost (w : World) (d : List Nat) (e : Ending) (w' : World) : Prop :=
  ∃ a, e = .returned (.tuple #[.slice a d.length d.length, .bool true]) ∧ Row w' a d.length (byteV d) ∧ Below w.heap.size w w'
def pieceL (d : List Nat) (k m : Nat) : List Nat := (d.drop k).take m
theorem pieceL_len (d : List Nat) (k m : Nat) : (pieceL d k m).length = min m (d.length - k) := by unfold pieceL; rw [List.length_take, List.length_drop]
set_option maxRecDepth 100000 in
set_option maxHeartbeats 1000000 in
theorem fpiece_any (w : World) (bf : Nat) (ds : List (List Nat)) (hok : NewOk ds) (h : FmAt w bf ds) (j : Nat) (hj : j < ds.length) (k m : Nat) (hk : (Lit.int .i64 (k : Int)).wf = true) (hm : (Lit.int .i64 (m : Int)).wf = true) :
    Calls Try.prog 29 #[.pointer (some ⟨bf, 0, none⟩), .int .i64 (j : Int), .int .i64 (k : Int), .int .i64 (m : Int)] w (PiecePost w (pieceL (ds.getD j []) k m)) := by
  have HG := Lib.hid (fget_any w bf ds hok h j hj)
  have hdl := hok.long _ (doc_mem hj)
  have hkb := bounds_i64 hk
  have hmb := bounds_i64 hm
  have hPL := pieceL_len (ds.getD j []) k m
  have HPV : Hid (∀ q, q < (pieceL (ds.getD j []) k m).length → (pieceL (ds.getD j []) k m).getD q 0 = (ds.getD j []).getD (min k (ds.getD j []).length + q) 0) := fun q hq => by
    rw [hPL] at hq
    have hk2 : min k (ds.getD j []).length = k := by omega
    rw [hk2]
    unfold pieceL
    rw [List.getD_eq_getElem?_getD, List.getElem?_take_of_lt (by omega), List.getElem?_drop, ← List.getD_eq_getElem?_getD]
  clear hok h hk hm
  unfold GetPost at HG
  generalize pieceL (ds.getD j []) k m = p at *
  generalize ds.getD j [] = d at *
  obtain ⟨A, hA⟩ : ∃ A, A = min k d.length := ⟨_, rfl⟩
  obtain ⟨M, hM⟩ : ∃ M, M = min m (d.length - A) := ⟨_, rfl⟩
  have HLEN : Hid (p.length = M) := by show _ = _; omega
  rw [← hA] at HPV
  have HA := Lib.hid hA
  have HM := Lib.hid hM
  have hA2 : A ≤ d.length := by omega
  have hM2 : A + M ≤ d.length := by omega
  clear hPL hA hM
  have t0 : decide ((k : Int) < 0) = false := by simp
  have t1 : decide ((m : Int) < 0) = false := by simp
  go_enter Try.func29, Try.ntmps29
  go_wp2_with fail
  refine HG.out.mono ?_
  rintro e w1 ⟨a, rfl, hr, hb, hlo⟩
  have HR1 := Lib.hid hr
  have HB1 := Lib.hid hb
  clear hr hb hlo HG
  have w1w : IntKind.i64.wrap ((d.length : Int) - (A : Int)) = ((d.length - A : Nat) : Int) := by rw [show (d.length : Int) - (A : Int) = ((d.length - A : Nat) : Int) by omega]; exact IntWalk.i64_in _ (by omega)
  have w2w : IntKind.i64.wrap ((A : Int) + (M : Int)) = ((A + M : Nat) : Int) := by rw [show (A : Int) + (M : Int) = ((A + M : Nat) : Int) by omega]; exact IntWalk.i64_in _ (by omega)
  have w3w := fun W => cut_lh8 a d.length d.length A (A + M) (by omega) hM2 (Nat.le_refl _) W
  rw [show A + M - A = M by omega] at w3w
  have HROW := cut_row HR1.out d.length A (A + M) (by omega) hM2 (Nat.le_refl _)
  rw [show A + M - A = M by omega] at HROW
  have HCL := Lib.hid (cloneB_any w1 (cutB a d.length A) M (d.length - A) (fun q => byteV d (A + q)) (by omega) (fun _ _ => rfl) HROW)
  have HFIN : Hid (∀ w' (a' : Option Addr), Row w' a' M (fun q => byteV d (A + q)) → Below w1.heap.size w1 w' → PiecePost w p (.returned (.tuple #[.slice a' M M, .bool true])) w') := fun w' a' hr hb => by
    refine ⟨a', by rw [HLEN.out], ?_, below_next HB1.out hb HB1.out.size⟩
    rw [HLEN.out]
    refine hr.congr fun q hq => ?_
    unfold byteV
    rw [HPV.out q (by rw [HLEN.out]; exact hq)]
  have w3v : ∀ W : World, (Instr.slice 22 (.slice a d.length d.length) (some (.int .i64 (A : Int))) (some (.int .i64 ((A : Int) + (M : Int)))) none).run Try.prog W = .ok (.slice (cutB a d.length A) M (d.length - A)) W := fun W => by
    have := w3w W
    rw [Int.natCast_add] at this
    exact this
  clear HROW HPV HR1
  rcases Nat.lt_or_ge d.length k with g1 | g1
  · obtain rfl : A = d.length := by rw [HA.out]; omega
    obtain rfl : M = 0 := by rw [HM.out]; omega
    have g2 : (d.length : Int) < (k : Int) := by omega
    have w4w : IntKind.i64.wrap (d.length : Int) = (d.length : Int) := IntWalk.i64_in _ (by omega)
    clear w3v
    simp only [Nat.add_zero, Nat.sub_self] at w3w HCL HFIN
    clear w1w w2w
    rcases Nat.eq_zero_or_pos m with g3 | g3
    · subst g3
      go_wp2_with fail
      refine HCL.out.mono ?_
      rintro e w5 ⟨a5, c5, rfl, hc5, hn5, hr5, hb5, -⟩
      have HF5 := Lib.hid (HFIN.out w5 a5 hr5 hb5)
      have HCP := Lib.hid (clipB_any w5 a5 _ c5 hc5 hn5)
      clear hc5 hn5 hr5 hb5 HFIN HCL
      go_wp2_with fail
      refine HCP.out.mono ?_
      rintro e w6 ⟨rfl, rfl⟩
      go_wp2
      go_ret2
      exact HF5.out
    · have g4 : (0 : Int) < (m : Int) := by omega
      go_wp2_with fail
      refine HCL.out.mono ?_
      rintro e w5 ⟨a5, c5, rfl, hc5, hn5, hr5, hb5, -⟩
      have HF5 := Lib.hid (HFIN.out w5 a5 hr5 hb5)
      have HCP := Lib.hid (clipB_any w5 a5 _ c5 hc5 hn5)
      clear hc5 hn5 hr5 hb5 HFIN HCL
      go_wp2_with fail
      refine HCP.out.mono ?_
      rintro e w6 ⟨rfl, rfl⟩
      go_wp2
      go_ret2
      exact HF5.out
  · obtain rfl : A = k := by rw [HA.out]; omega
    have g2 : decide ((d.length : Int) < (A : Int)) = false := by simp; omega
    have g3 : decide (d.length < A) = false := by simp; omega
    clear w3w w3v
    rcases Nat.eq_or_lt_of_le g1 with g7 | g7
    · have hcut : cutB a d.length A = a := by unfold cutB; rw [if_pos g7.symm]
      rw [hcut] at HCL
      subst g7
      obtain rfl : M = 0 := by rw [HM.out]; omega
      have w4w : IntKind.i64.wrap (d.length : Int) = (d.length : Int) := IntWalk.i64_in _ (by omega)
      simp only [Nat.sub_self] at HCL HFIN
      clear w1w w2w
      rcases Nat.eq_zero_or_pos m with g3 | g3
      · subst g3
        go_wp2_with fail
        refine HCL.out.mono ?_
        rintro e w5 ⟨a5, c5, rfl, hc5, hn5, hr5, hb5, -⟩
        have HF5 := Lib.hid (HFIN.out w5 a5 hr5 hb5)
        have HCP := Lib.hid (clipB_any w5 a5 _ c5 hc5 hn5)
        clear hc5 hn5 hr5 hb5 HFIN HCL
        go_wp2_with fail
        refine HCP.out.mono ?_
        rintro e w6 ⟨rfl, rfl⟩
        go_wp2
        go_ret2
        exact HF5.out
      · have g4 : (0 : Int) < (m : Int) := by omega
        go_wp2_with fail
        refine HCL.out.mono ?_
        rintro e w5 ⟨a5, c5, rfl, hc5, hn5, hr5, hb5, -⟩
        have HF5 := Lib.hid (HFIN.out w5 a5 hr5 hb5)
        have HCP := Lib.hid (clipB_any w5 a5 _ c5 hc5 hn5)
        clear hc5 hn5 hr5 hb5 HFIN HCL
        go_wp2_with fail
        refine HCP.out.mono ?_
        rintro e w6 ⟨rfl, rfl⟩
        go_wp2
        go_ret2
        exact HF5.out
    · have g8 : ¬ d.length = A := by omega
      have hcut : cutB a d.length A = Option.map (fun x => x.add A) a := by unfold cutB; rw [if_neg g8]; simp
      rw [hcut] at HCL
      rcases Nat.lt_or_ge (d.length - A) m with g4 | g4
      · obtain rfl : M = d.length - A := by rw [HM.out]; omega
        have g5 : ((d.length - A : Nat) : Int) < (m : Int) := by omega
        go_wp2_with fail
        refine HCL.out.mono ?_
        rintro e w5 ⟨a5, c5, rfl, hc5, hn5, hr5, hb5, -⟩
        have HF5 := Lib.hid (HFIN.out w5 a5 hr5 hb5)
        have HCP := Lib.hid (clipB_any w5 a5 _ c5 hc5 hn5)
        clear hc5 hn5 hr5 hb5 HFIN HCL
        go_wp2_with fail
        refine HCP.out.mono ?_
        rintro e w6 ⟨rfl, rfl⟩
        go_wp2
        go_ret2
        exact HF5.out
      · obtain rfl : M = m := by rw [HM.out]; omega
        have g5 : decide (((d.length - A : Nat) : Int) < (M : Int)) = false := by simp; omega
        have g6 : decide (d.length - A < M) = false := by simp; omega
        go_wp2_with fail
        refine HCL.out.mono ?_
        rintro e w5 ⟨a5, c5, rfl, hc5, hn5, hr5, hb5, -⟩
        have HF5 := Lib.hid (HFIN.out w5 a5 hr5 hb5)
        have HCP := Lib.hid (clipB_any w5 a5 _ c5 hc5 hn5)
        clear hc5 hn5 hr5 hb5 HFIN HCL
        go_wp2_with fail
        refine HCP.out.mono ?_
        rintro e w6 ⟨rfl, rfl⟩
        go_wp2
        go_ret2
        exact HF5.out
end Go.Proofs.Ytjpoebmjfedecaa
