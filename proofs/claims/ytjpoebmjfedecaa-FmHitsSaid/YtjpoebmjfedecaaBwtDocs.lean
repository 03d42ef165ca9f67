/-
  bwt.Docs, bwt.Ok.
-/
import Derived.Test.YtjpoebmjfedecaaBwtRead
namespace Go.Proofs.Ytjpoebmjfedecaa
open Go.RowKit

theorem mem_reverse_path {L : List Nat} (hm : ∀ c ∈ L, c ≤ 256) {j k c : Nat} (hj : j < L.length) (hg : goesL L j k) (hc : c ∈ (pathL L j k).reverse) : c < 256 := by
  rw [List.mem_reverse] at hc
  unfold pathL at hc
  obtain ⟨q, hq, rfl⟩ := List.mem_map.1 hc
  have h1 := hm _ (getD_mem' (itL_lt L hm j hj q))
  have h2 := hg q (List.mem_range.1 hq)
  omega
theorem ReadsL.ok {L : List Nat} {es : List (List Nat)} (h : ReadsL L es) (hm : ∀ c ∈ L, c ≤ 256) (h5 : stC L 1 ≤ 500) (h6 : L.length ≤ 60000) : NewOk es := by
  refine ⟨by rw [h.many]; exact h5, fun d hd => ?_, by rw [h.all]; exact h6, fun d hd c hc => ?_⟩
  · obtain ⟨j, hj, rfl⟩ := List.getElem_of_mem hd
    have := h.long j hj
    rw [List.getD_eq_getElem?_getD, List.getElem?_eq_getElem hj] at this
    exact this
  · obtain ⟨j, hj, rfl⟩ := List.getElem_of_mem hd
    have hjl : j < L.length := Nat.lt_of_lt_of_le (by rw [← h.many]; exact hj) (stC_le L 1)
    obtain ⟨h1, h2⟩ := h.each j hj
    have e : es.getD j [] = es[j] := by rw [List.getD_eq_getElem?_getD, List.getElem?_eq_getElem hj]; rfl
    rw [e] at h1 h2
    rw [h2] at hc
    exact mem_reverse_path hm hjl h1.goes hc
def DocsPost (w : World) (L : List Nat) (e : Ending) (w' : World) : Prop :=
  (∃ a A es, e = .returned (.tuple #[.slice a es.length es.length, .int .i64 0]) ∧ DocsAt w' a A (fun j => (es.getD j []).length) es ∧ DocsL L es ∧ NewOk es ∧ anyGreat L = false ∧ Below w.heap.size w w') ∨
  (e = .returned (.tuple #[.slice none 0 0, .int .i64 1]) ∧ anyGreat L = true ∧ Below w.heap.size w w') ∨
  (e = .returned (.tuple #[.slice none 0 0, .int .i64 3]) ∧ anyGreat L = false ∧ (∀ ds, ¬ DocsL L ds) ∧ Below w.heap.size w w')
set_option maxRecDepth 100000 in
set_option maxHeartbeats 2000000 in
theorem docs_any (w : World) (a : Option Addr) (cap : Nat) (L : List Nat) (h6 : L.length ≤ 60000) (h5 : stC L 1 ≤ 500) (hr : Row w a L.length (symV L)) :
    Calls Try.prog 62 #[.slice a L.length cap] w (DocsPost w L) := by
  have HR := Lib.hid hr
  have HC := Lib.hid (containsF_any w a cap L (by omega) hr)
  have t0 : decide ((60500 : Int) < (L.length : Int)) = false := by simp; omega
  clear hr
  cases hg : anyGreat L with
  | true =>
    rw [hg] at HC
    have HG := Lib.hid hg
    clear hg
    go_enter Try.func62, Try.ntmps62
    go_wp2_with (go_at_call 77; refine HC.out.mono ?_; rintro e w' ⟨rfl, rfl⟩)
    go_ret2
    exact .inr (.inl ⟨rfl, HG.out, Below.refl _ _⟩)
  | false =>
    rw [hg] at HC
    have HG := Lib.hid hg
    have HM := Lib.hid (anyGreat_false hg)
    clear hg
    have HRD := Lib.hid (read_any w a cap L (by omega) HR.out HM.out)
    go_enter Try.func62, Try.ntmps62
    go_wp2_with (go_at_call 77; refine HC.out.mono ?_; rintro e w' ⟨rfl, rfl⟩)
    refine HRD.out.mono ?_
    rintro e w1 ⟨v, ok, rfl, hb1, hno, hyes⟩
    cases ok with
    | false =>
      have HNO := Lib.hid (hno rfl)
      have HB1 := Lib.hid hb1
      clear hno hyes hb1 HRD
      go_wp2
      go_ret2
      exact .inr (.inr ⟨rfl, HG.out, fun ds h => HNO.out ds h.1, HB1.out⟩)
    | true =>
      obtain ⟨a1, c1, A, es, rfl, hc1, hn1, hd1, hrd⟩ := hyes rfl
      have hok := hrd.ok HM.out h5 h6
      have HOK := Lib.hid hok
      have HRL := Lib.hid hrd
      have HD1 := Lib.hid hd1
      have HB1 := Lib.hid hb1
      have HN := Lib.hid (tnew_any w1 a1 c1 A _ es hd1 hok)
      clear hno hyes hb1 hd1 hrd hok HRD
      go_wp2_with fail
      refine HN.out.mono ?_
      rintro e w2 ⟨bt, x, rfl, ht, hb2⟩
      have HO := Lib.hid (of_any w2 bt x es ht HOK.out)
      have HD2 := Lib.hid (HD1.out.kept hb2)
      have HB2 : Hid (Below w.heap.size w w2) := below_next HB1.out hb2 HB1.out.size
      clear ht hb2 HN HD1 HB1
      go_wp2_with fail
      refine HO.out.mono ?_
      rintro e w3 ⟨a3, rfl, hr3, hb3, _⟩
      have HB3 : Hid (Below w.heap.size w w3) := below_next HB2.out hb3 HB2.out.size
      have HD3 := Lib.hid (HD2.out.kept hb3)
      have hbl : (bwtOf es).length ≤ 1000000 := by rw [bwtOf_len]; have := HOK.out.all; omega
      have HE := Lib.hid (equal16_any w3 a3 a (bwtOf es).length cap (bwtOf es) L hbl (by omega) hr3 (HR.out.kept HB3.out))
      clear hr3 hb3 HO HD2 HB2
      generalize (bwtOf es).length = nb at *
      by_cases heq : bwtOf es = L
      · have hdt : decide (bwtOf es = L) = true := by simp [heq]
        rw [hdt] at HE
        have HDL : Hid (DocsL L es) := ⟨HRL.out, heq⟩
        clear hdt heq
        go_wp2_with (first
          | (go_at_call 80; refine HE.out.mono ?_; rintro e w' ⟨rfl, m, rfl⟩)
          | (go_at_call 81; refine (clipBB_any _ a1 es.length c1 hc1 hn1).mono ?_; rintro e w' ⟨rfl, rfl⟩))
        go_ret2
        exact .inl ⟨a1, A, es, rfl, HD3.out.drewN m, HDL.out, HOK.out, HG.out, below_drewN HB3.out m⟩
      · have hdt : decide (bwtOf es = L) = false := by simp [heq]
        rw [hdt] at HE
        have HNO : Hid (∀ ds, ¬ DocsL L ds) := fun ds h => heq (by rw [← HRL.out.one h.1] at h; exact h.2)
        clear hdt heq
        go_wp2_with (go_at_call 80; refine HE.out.mono ?_; rintro e w' ⟨rfl, m, rfl⟩)
        go_ret2
        exact .inr (.inr ⟨rfl, HG.out, HNO.out, below_drewN HB3.out m⟩)
end Go.Proofs.Ytjpoebmjfedecaa
