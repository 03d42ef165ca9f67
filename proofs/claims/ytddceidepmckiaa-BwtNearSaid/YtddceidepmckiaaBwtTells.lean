/-
  The statement BwtTells: its walk.
-/
import Derived.Test.YtddceidepmckiaaBwtAwake
import Derived.Test.YtddceidepmckiaaRefSame
namespace Go.Proofs.Ytddceidepmckiaa
open Go.RowKit

theorem docs_only {ds es : List (List Nat)} (hok : NewOk ds) (h : DocsL (bwtOf ds) es) : es = ds := h.one (docs_bwt ds hok)
theorem noGreat {ds : List (List Nat)} (h : ∀ d ∈ ds, ∀ c ∈ d, c < 256) : anyGreat (bwtOf ds) = false := anyGreat_no (fun q hq => by have := bwtOf_le ds h _ (getD_mem' hq); omega)
/-- Docs, of a row of documents -/
theorem docs_yes (w : World) (a : Option Addr) (cap : Nat) (ds : List (List Nat)) (hok : NewOk ds) (hr : Row w a (bwtOf ds).length (symV (bwtOf ds))) :
    Calls Try.prog 34 #[.slice a (bwtOf ds).length cap] w fun e w' => ∃ a' A, e = .returned (.tuple #[.slice a' ds.length ds.length, .int .i64 0]) ∧ DocsAt w' a' A (fun j => (ds.getD j []).length) ds ∧ Below w.heap.size w w' := by
  refine (docs_any w a cap (bwtOf ds) (by rw [bwtOf_len]; exact hok.all) (by rw [bwt_zeros]; exact hok.many) hr).mono ?_
  rintro e w1 (⟨a1, A, es, rfl, hd, hl, _, _, hb⟩ | ⟨rfl, hg, hb⟩ | ⟨rfl, hg, hno, hb⟩)
  · obtain rfl := docs_only hok hl
    exact ⟨a1, A, rfl, hd, hb⟩
  · rw [noGreat hok.byte] at hg; cases hg
  · exact (hno ds (docs_bwt ds hok)).elim
theorem ok_true (w : World) (a : Option Addr) (cap : Nat) (ds : List (List Nat)) (hok : NewOk ds) (hr : Row w a (bwtOf ds).length (symV (bwtOf ds))) :
    Calls Try.prog 41 #[.slice a (bwtOf ds).length cap] w fun e w' => e = .returned (.bool true) ∧ Below w.heap.size w w' := by
  refine (ok_any w a cap (bwtOf ds) (by rw [bwtOf_len]; exact hok.all) (by rw [bwt_zeros]; exact hok.many) hr).mono ?_
  rintro e w1 ⟨⟨b, rfl, _, hno⟩, hb⟩
  cases b with
  | true => exact ⟨rfl, hb⟩
  | false =>
    rcases hno rfl with h | h
    · rw [noGreat hok.byte] at h; cases h
    · exact (h ds (docs_bwt ds hok)).elim
set_option maxRecDepth 100000 in
set_option maxHeartbeats 2000000 in
theorem btells_walk (w : World) (a : Option Addr) (cap : Nat) (A : Nat → Option Addr) (C : Nat → Nat) (ds : List (List Nat)) (hin : DocsIn w a A C ds) :
    Calls Try.prog 9 #[.slice a ds.length cap] w fun e w' => e = .returned (.bool true) ∧ Below w.heap.size w w' := by
  have HF := Lib.hid (few_any w a cap A C ds hin.many hin.docs hin.long)
  have HIN := Lib.hid hin
  clear hin
  go_enter Try.func9, Try.ntmps9
  go_wp2_with fail
  refine HF.out.mono ?_
  rintro e w' ⟨b, rfl, hfew, rfl⟩
  cases b with
  | false =>
    clear hfew
    go_wp2_with (go_at_call 32; refine (awake11_any _).mono ?_; rintro e w1 ⟨rfl, hb⟩)
    go_ret
    exact ⟨rfl, hb⟩
  | true =>
    obtain ⟨hf1, hf2, hf3⟩ := hfew rfl
    have HFEW := Lib.hid (FewP.mk hf1 hf2 hf3 HIN.out.byte)
    clear hfew hf2 HF
    have HOK := Lib.hid HFEW.out.ok
    have hall := HOK.out.all
    go_wp2_with fail
    refine (tnew_any w a cap A C ds HIN.out.docs HOK.out).mono ?_
    rintro e w1 ⟨bt, x, rfl, ht, hb1⟩
    have HT := Lib.hid ht
    have HB1 := Lib.hid hb1
    have HD1 := Lib.hid (HIN.out.docs.kept hb1)
    clear ht hb1
    go_wp2_with fail
    refine (strings_any w1 a cap A C ds (by omega) HD1.out).mono ?_
    rintro e w2 ⟨ax, cx, rfl, hrs, hb2⟩
    have HS2 := Lib.hid hrs
    have HT2 := Lib.hid (HT.out.kept hb2)
    have HB2 : Hid (Below w.heap.size w w2) := below_next HB1.out hb2 HB1.out.size
    clear hrs hb2 HT HB1 HD1
    go_wp2_with fail
    refine (of_any w2 bt x ds HT2.out HOK.out).mono ?_
    rintro e w3 ⟨a5, rfl, hr5, hb3, hjunk⟩
    have HR3 := Lib.hid hr5
    have HS3 := Lib.hid (HS2.out.kept hb3)
    have HB3 : Hid (Below w.heap.size w w3) := below_next HB2.out hb3 HB2.out.size
    clear hr5 hb3 hjunk HT2 HB2 HS2
    go_wp2_with fail
    refine (docs_yes w3 a5 _ ds HOK.out HR3.out).mono ?_
    rintro e w4 ⟨a6, A6, rfl, hd6, hb4⟩
    have HR4 := Lib.hid (HR3.out.kept hb4)
    have HS4 := Lib.hid (HS3.out.kept hb4)
    have HB4 : Hid (Below w.heap.size w w4) := below_next HB3.out hb4 HB3.out.size
    have HD4 := Lib.hid hd6
    clear hb4 hd6 HR3 HS3 HB3
    go_wp2_with fail
    refine (refbwt_any w4 ax cx ds HS4.out HFEW.out.byte (by omega)).mono ?_
    rintro e w5 ⟨a7, c7, rfl, ho7, hb5⟩
    have HR7 := Lib.hid (symVs_row ho7)
    have HR5 := Lib.hid (HR4.out.kept hb5)
    have HS5 := Lib.hid (HS4.out.kept hb5)
    have HD5 := Lib.hid (HD4.out.kept hb5)
    have HB5 : Hid (Below w.heap.size w w5) := below_next HB4.out hb5 HB4.out.size
    have hbl : (bwtOf ds).length ≤ 60000 := by rw [bwtOf_len]; exact hall
    have hsm := samesyms_any w5 a5 a7 (bwtOf ds).length c7 (bwtOf ds) (bwtOf ds) (by omega) (by omega) HR5.out HR7.out
    rw [decide_eq_true (rfl : bwtOf ds = bwtOf ds)] at hsm
    have HSM := Lib.hid hsm
    clear ho7 hb5 hsm HR4 HS4 HD4 HB4
    go_wp2_with fail
    refine HSM.out.mono ?_
    rintro e w' ⟨rfl, m, rfl⟩
    have HS6 := Lib.hid (HS5.out.drewN m)
    have HD6 := Lib.hid (HD5.out.drewN m)
    have HR6 := Lib.hid (HR5.out.drewN m)
    have HB6 : Hid (Below w.heap.size w (w5.drewN m)) := below_drewN HB5.out m
    clear HSM HS5 HD5 HR5 HB5 HR7
    generalize w5.drewN m = w6 at *
    go_wp2_with fail
    refine (strings_any w6 a6 ds.length A6 _ ds (by omega) HD6.out).mono ?_
    rintro e w7 ⟨a8, c8, rfl, hr8, hb7⟩
    have HS7 := Lib.hid (HS6.out.kept hb7)
    have HR8 := Lib.hid (HR6.out.kept hb7)
    have HB7 : Hid (Below w.heap.size w w7) := below_next HB6.out hb7 HB6.out.size
    have hst := sametexts_any w7 a8 ax c8 cx ds ds (by omega) HFEW.out.byte HFEW.out.byte hr8 HS7.out
    rw [decide_eq_true (rfl : ds = ds)] at hst
    have HST := Lib.hid hst
    clear hr8 hb7 hst HS6 HD6 HR6 HB6
    go_wp2_with fail
    refine HST.out.mono ?_
    rintro e w' ⟨rfl, m, rfl⟩
    have HR9 := Lib.hid (HR8.out.drewN m)
    have HB9 : Hid (Below w.heap.size w (w7.drewN m)) := below_drewN HB7.out m
    clear HST HS7 HR8 HB7
    generalize w7.drewN m = w8 at *
    go_wp2_with fail
    refine (ok_true w8 a5 _ ds HOK.out HR9.out).mono ?_
    rintro e w9 ⟨rfl, hb9⟩
    have HBA : Hid (Below w.heap.size w w9) := below_next HB9.out hb9 HB9.out.size
    clear hb9
    go_wp2_with fail
    refine (awake11_any w9).mono ?_
    rintro e wa ⟨rfl, hba⟩
    have HBZ : Hid (Below w.heap.size w wa) := below_next HBA.out hba HBA.out.size
    clear hba
    go_wp2
    go_ret
    exact ⟨rfl, HBZ.out⟩
end Go.Proofs.Ytddceidepmckiaa
