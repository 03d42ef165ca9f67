/-
  concordanceref9.SameTexts, Rank.
-/
import Derived.Test.YtjpoebmjfedecaaRefBwt
namespace Go.Proofs.Ytjpoebmjfedecaa
open Go.RowKit

set_option maxRecDepth 100000 in
set_option maxHeartbeats 1000000 in
theorem sametexts_any (w : World) (a b : Option Addr) (ca cb : Nat) (ds es : List (List Nat)) (hn : ds.length ≤ 1000000) (hb1 : ∀ d ∈ ds, ∀ c ∈ d, c < 256) (hb2 : ∀ d ∈ es, ∀ c ∈ d, c < 256) (ha : Row w a ds.length (strV ds)) (hb : Row w b es.length (strV es)) :
    Calls Try.prog 37 #[.slice a ds.length ca, .slice b es.length cb] w fun e w' => e = .returned (.bool (decide (ds = es))) ∧ ∃ k, w' = w.drewN k := by
  have hix := run_ix (P := Try.prog) 40 (by kernel_rfl) size_str a ds.length ca ha.at_ .i64
  have hiy := run_ix (P := Try.prog) 40 (by kernel_rfl) size_str b es.length cb hb.at_ .i64
  have HA := Lib.hid ha
  have HB := Lib.hid hb
  have H1 := Lib.hid hb1
  have H2 := Lib.hid hb2
  clear ha hb hb1 hb2
  by_cases hl : ds.length = es.length
  · have HL := Lib.hid hl
    have HX := Lib.hid (@docs_ext ds es hl)
    generalize hbb : decide (ds = es) = bb
    have HBB := Lib.hid hbb
    clear hbb
    rw [← hl] at hiy HB ⊢
    clear hl
    go_enter Try.func37, Try.ntmps37
    go_wp2
    go_loopw [5] (fun i wr => ∃ k : Nat, k ≤ ds.length ∧ i = .int .i64 k ∧ (∀ q, q < k → ds.getD q [] = es.getD q []) ∧ ∃ j, wr = w.drewN j) (fun i _ => ds.length - (intOf i).toNat)
    case atStart => exact ⟨0, Nat.zero_le _, rfl, fun q hq => by omega, 0, rfl⟩
    case round =>
      obtain ⟨k, hk, rfl, hall, j, rfl⟩ := hrel
      have HALL := Lib.hid hall
      clear hall
      by_cases hlt : k < ds.length
      · have d1 : w.cell? ⟨bOf a, oOf a + k, none⟩ = some (.string (sB (ds.getD k []))) := HA.out.cell k hlt
        have d2 : w.cell? ⟨bOf b, oOf b + k, none⟩ = some (.string (sB (es.getD k []))) := HB.out.cell k hlt
        have heq := sB_eq _ _ (H1.out _ (doc_mem hlt)) (H2.out _ (doc_mem (show k < es.length by rw [← HL.out]; exact hlt)))
        by_cases he : ds.getD k [] = es.getD k []
        · have hbe : ((sB (ds.getD k [])).toList == (sB (es.getD k [])).toList) = true := by rw [heq]; simpa using he
          have HE := Lib.hid he
          clear he heq
          generalize sB (ds.getD k []) = x at *
          generalize sB (es.getD k []) = y at *
          go_wp2
          go_quiet (fail)
          go_wp2
          go_roundw
          case rel => exact ⟨k + 1, by omega, by go_num, fun q hq => by
            by_cases e : q < k
            · exact HALL.out q e
            · obtain rfl : q = k := by omega
              exact HE.out, _, rfl⟩
          case measure => simp [intOf]; omega
        · have hbe : ((sB (ds.getD k [])).toList == (sB (es.getD k [])).toList) = false := by rw [heq]; simpa using he
          have HNE := Lib.hid he
          have hfin : bb = false := by
            rw [← HBB.out, decide_eq_false_iff_not]
            intro e
            exact HNE.out (by rw [e])
          subst hfin
          clear he heq
          generalize sB (ds.getD k []) = x at *
          generalize sB (es.getD k []) = y at *
          go_wp2
          go_quiet (fail)
          go_wp2
          go_ret
          exact ⟨rfl, _, World.drewN_drewN _ _ _⟩
      · obtain rfl : k = ds.length := by omega
        have hd : decide ((ds.length : Int) < ds.length) = false := by simp
        have hfin : bb = true := by
          rw [← HBB.out, decide_eq_true_eq]
          exact HX.out HALL.out
        subst hfin
        go_wp2
        go_ret
        exact ⟨rfl, _, rfl⟩
  · have h1 : ((ds.length : Int) != (es.length : Int)) = true := by rw [bne_iff_ne]; omega
    have hf : decide (ds = es) = false := by rw [decide_eq_false_iff_not]; intro e; rw [e] at hl; exact hl rfl
    rw [hf]
    clear hl hf
    go_enter Try.func37, Try.ntmps37
    go_wp2
    go_ret
    exact ⟨rfl, 0, rfl⟩
end Go.Proofs.Ytjpoebmjfedecaa
