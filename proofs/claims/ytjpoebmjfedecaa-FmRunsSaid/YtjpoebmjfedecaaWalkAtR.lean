/-
  At, of an index of documents: its answers.
-/
import Derived.Test.YtjpoebmjfedecaaWalkAt
namespace Go.Proofs.Ytjpoebmjfedecaa
open Go.RowKit

theorem bwt_ends (ds : List (List Nat)) (hok : NewOk ds) : ∀ q, q < (bwtOf ds).length → ∃ M, EndsL (bwtOf ds) q M ∧ M < (bwtOf ds).length := fun q hq => by
  have hq2 : q < (rowsR ds).length := by rw [rows_len, ← bwtOf_len]; exact hq
  refine ⟨((rowsR ds).getD q (0, 0)).2, way_ends ds hok.byte q ((rowsR ds).getD q (0, 0)).1 _ hq2 rfl, ?_⟩
  have hv := rows_at ds q hq2
  have := place_lt ds _ _ hv.1 hv.2
  rw [bwtOf_len]; omega
theorem putF_small (ds : List (List Nat)) (hok : NewOk ds) (q : Int) (p : Nat × Nat) (h : putF (putsTo ds ds.length) q = some p) : p.1 ≤ 1000000 ∧ p.2 ≤ 1000000 := by
  obtain ⟨q, _, h1, h2⟩ := putF_of ds hok.byte q p h
  have hv := rows_at ds q h1
  rw [h2] at hv
  have h3 := hok.many
  have h4 := hok.long _ (doc_mem hv.1)
  have h5 := hv.1
  have h6 := hv.2
  omega
theorem watr_any (w : World) (bx bm' : Nat) (al : Option Addr) (cap : Nat) (ds : List (List Nat)) (hok : NewOk ds) (hI : IdxAt w bx bm' al cap (bwtOf ds)) (Y : Nat → Prop) (bp bm : Nat) (vS vZ : Value) (S Z : List Nat) (n : Nat)
    (hP : PlIn Y w bp bm vS vZ S Z n (putF (putsTo ds ds.length))) (r d off : Nat) (hr : r < (rowsR ds).length) (he : (rowsR ds).getD r (0, 0) = (d, off)) :
    Calls Try.prog 14 #[.pointer (some ⟨bp, 0, none⟩), .pointer (some ⟨bx, 0, none⟩), .int .i64 (r : Int)] w fun e w' => e = .returned (.tuple #[.int .i64 (d : Int), .int .i64 (off : Int), .bool true]) ∧ Below w.heap.size w w' := by
  have hall := hok.all
  have hLl : (bwtOf ds).length ≤ 60000 := by rw [bwtOf_len]; exact hall
  have hrL : (rowsR ds).length = (bwtOf ds).length := by rw [rows_len, bwtOf_len]
  refine (wat_any w bx bm' al cap (bwtOf ds) hI (by omega) (bwt_ends ds hok) Y bp bm vS vZ S Z n _ hP (putF_small ds hok) (r : Int) (WalkArith.wf_i64 ⟨by omega, by omega⟩)).mono ?_
  rintro e w' ⟨res, rfl, hb, (⟨h, _⟩ | ⟨q, M, hq, hql, hM, hat⟩)⟩
  · exfalso; omega
  · obtain rfl : r = q := by omega
    have hm := (way_ends ds hok.byte r d off hr he)
    obtain rfl : M = off := hM.one hm
    have := at_samples ds hok.byte r d M hr he res hat
    subst this
    exact ⟨rfl, hb⟩
theorem watn_any (w : World) (bx bm' : Nat) (al : Option Addr) (cap : Nat) (ds : List (List Nat)) (hok : NewOk ds) (hI : IdxAt w bx bm' al cap (bwtOf ds)) (Y : Nat → Prop) (bp bm : Nat) (vS vZ : Value) (S Z : List Nat) (n : Nat)
    (hP : PlIn Y w bp bm vS vZ S Z n (putF (putsTo ds ds.length))) (i : Int) (hiw : (Lit.int .i64 i).wf = true) (hi : i < 0 ∨ ((rowsR ds).length : Int) ≤ i) :
    Calls Try.prog 14 #[.pointer (some ⟨bp, 0, none⟩), .pointer (some ⟨bx, 0, none⟩), .int .i64 i] w fun e w' => e = .returned (.tuple #[.int .i64 0, .int .i64 0, .bool false]) ∧ Below w.heap.size w w' := by
  have hall := hok.all
  have hLl : (bwtOf ds).length ≤ 60000 := by rw [bwtOf_len]; exact hall
  have hrL : (rowsR ds).length = (bwtOf ds).length := by rw [rows_len, bwtOf_len]
  refine (wat_any w bx bm' al cap (bwtOf ds) hI (by omega) (bwt_ends ds hok) Y bp bm vS vZ S Z n _ hP (putF_small ds hok) i hiw).mono ?_
  rintro e w' ⟨res, rfl, hb, (⟨_, rfl⟩ | ⟨q, M, hq, hql, hM, hat⟩)⟩
  · exact ⟨rfl, hb⟩
  · exfalso; omega
end Go.Proofs.Ytjpoebmjfedecaa
