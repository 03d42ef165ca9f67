/-
  The statement SuffixMore: its walk.
-/
import Derived.Test.YtddceidepmckiaaSufLaw
namespace Go.Proofs.Ytddceidepmckiaa
open Go.RowKit

theorem len_filter_lt (l : List Nat) (n m : Nat) (hn : l.Nodup) (hm : ∀ x, x ∈ l ↔ x < m) (h : n ≤ m) : (l.filter fun x => decide (x < n)).length = n :=
  len_of_mem _ n (hn.filter _) (fun x => by
    rw [List.mem_filter, hm, decide_eq_true_eq]
    exact ⟨fun h => h.2, fun h' => ⟨by omega, h'⟩⟩)
theorem nodup_ltS {s : Nat → Int} {sa : List Nat} (hp : sa.Pairwise (ltS s)) : sa.Nodup := hp.imp (fun h e => by subst e; exact ltS_asymm h h)
theorem more_filter (ds : List (List Nat)) (d : List Nat) (sa sb : List Nat) (h1 : IsSA (ordS ds) (rowOf ds).length sa) (h2 : IsSA (ordS (ds ++ [d])) (rowOf (ds ++ [d])).length sb) :
    (sb.filter fun x => decide (x < (rowOf ds).length)) = sa := by
  have hle : (rowOf ds).length ≤ (rowOf (ds ++ [d])).length := by rw [rowOf_append, List.length_append]; omega
  refine IsSA.one (s := ordS ds) (n := (rowOf ds).length) ⟨len_filter_lt sb _ _ (nodup_ltS h2.ord) h2.mem hle, fun x => ?_, ?_⟩ h1
  · rw [List.mem_filter, h2.mem, decide_eq_true_eq]
    exact ⟨fun h => h.2, fun h => ⟨by omega, h⟩⟩
  · refine List.Pairwise.imp_of_mem ?_ (h2.ord.filter _)
    intro p q hp hq hpq
    have hp' := (List.mem_filter.1 hp).2
    have hq' := (List.mem_filter.1 hq).2
    rw [decide_eq_true_eq] at hp' hq'
    exact (ltS_append ds [d] p q hp' hq').1 hpq
def keepL (sb : List Nat) (n i : Nat) : List Nat := (sb.take i).filter fun x => decide (x < n)
theorem keepL_zero (sb : List Nat) (n : Nat) : keepL sb n 0 = [] := rfl
theorem keepL_succ (sb : List Nat) (n i : Nat) (hi : i < sb.length) : keepL sb n (i + 1) = if sb.getD i 0 < n then keepL sb n i ++ [sb.getD i 0] else keepL sb n i := by
  unfold keepL
  rw [take_succ_getD sb i hi, List.filter_append]
  generalize sb.getD i 0 = x
  by_cases e : x < n
  · rw [if_pos e]; simp [e]
  · rw [if_neg e]; simp [e]
theorem keepL_len (sb : List Nat) (n i : Nat) : (keepL sb n i).length ≤ i := Nat.le_trans (List.length_filter_le _ _) (List.length_take_le _ _)
theorem keepL_all (sb : List Nat) (n : Nat) : keepL sb n sb.length = sb.filter fun x => decide (x < n) := by unfold keepL; rw [List.take_length]
attribute [irreducible] keepL
/-- documents, and one more behind them -/
theorem docs_more {w : World} {a a1 : Option Addr} {A : Nat → Option Addr} {C : Nat → Nat} {ds : List (List Nat)} {d : List Nat} {cap1 : Nat} (h : Row w a (ds.length + 1) (fun k => ((List.range ds.length).map (docV ds A C) ++ [Value.slice a1 d.length cap1]).getD k undef))
    (he : ∀ r, r < ds.length → Row w (A r) (ds.getD r []).length (byteV (ds.getD r []))) (hd : Row w a1 d.length (byteV d)) :
    DocsAt w a (fun r => if r = ds.length then a1 else A r) (fun r => if r = ds.length then cap1 else C r) (ds ++ [d]) := by
  have hlast : (ds ++ [d]).getD ds.length [] = d := by rw [List.getD_eq_getElem?_getD, List.getElem?_append_right (Nat.le_refl _)]; simp
  refine ⟨?_, fun r hr => ?_⟩
  · rw [List.length_append, List.length_singleton]
    refine h.congr fun k hk => ?_
    by_cases e : k = ds.length
    · subst e
      rw [hlast, List.getD_eq_getElem?_getD, List.getElem?_append_right (by simp)]; simp
    · rw [getD_append ds [d] k (by omega), List.getD_eq_getElem?_getD, List.getElem?_append_left (by simp; omega)]
      simp [e, show k < ds.length by omega]
  · rw [List.length_append, List.length_singleton] at hr
    by_cases e : r = ds.length
    · subst e
      rw [hlast]; simpa using hd
    · rw [getD_append ds [d] r (by omega)]
      simpa [e] using he r (by omega)
set_option maxRecDepth 100000 in
set_option maxHeartbeats 2000000 in
theorem smore_walk (w : World) (a : Option Addr) (cap : Nat) (A : Nat → Option Addr) (C : Nat → Nat) (ds : List (List Nat)) (hin : DocsIn w a A C ds) (a1 : Option Addr) (len cap1 : Nat) (f : Nat → Int) (hl : len ≤ maxLen) (hr : Row w a1 len (fun k => .int .u8 (f k)) ∧ ∀ k, k < len → (Lit.int .u8 (f k)).wf = true) :
    Calls Try.prog 3 #[.slice a ds.length cap, .slice a1 len cap1] w fun e w' => e = .returned (.bool true) ∧ Below w.heap.size w w' := by
  obtain ⟨hr, hwf⟩ := hr
  obtain ⟨d, hd, hdr, hdb⟩ : ∃ d : List Nat, len = d.length ∧ Row w a1 d.length (byteV d) ∧ ∀ c ∈ d, c < 256 := by
    refine ⟨(List.range len).map fun k => (f k).toNat, by simp, ?_, fun c hc => ?_⟩
    · simp only [List.length_map, List.length_range]
      refine hr.congr fun k hk => ?_
      have := bounds_u8 (hwf k hk)
      simp [byteV, List.getD_eq_getElem?_getD, hk]; omega
    · obtain ⟨k, hk, rfl⟩ := List.mem_map.1 hc
      have := bounds_u8 (hwf k (List.mem_range.1 hk))
      omega
  subst hd
  clear hr hwf
  have HF := Lib.hid (few_any w a cap A C ds hin.many hin.docs hin.long)
  have HIN := Lib.hid hin
  have HDR := Lib.hid hdr
  have HDB := Lib.hid hdb
  unfold maxLen at hl
  clear hin hdr hdb
  go_enter Try.func3, Try.ntmps3
  go_wp2_with fail
  refine HF.out.mono ?_
  rintro e w' ⟨b, rfl, hfew, rfl⟩
  cases b with
  | false =>
    clear hfew
    go_wp2_with (go_at_call 16; refine (awake10_any _).mono ?_; rintro e w1 ⟨rfl, hb⟩)
    go_ret
    exact ⟨rfl, hb⟩
  | true =>
    obtain ⟨hf1, hf2, hf3⟩ := hfew rfl
    have HFEW := Lib.hid (FewP.mk hf1 hf2 hf3 HIN.out.byte)
    clear hfew hf2
    by_cases h300 : (300 : Int) < (d.length : Int)
    · go_wp2_with (go_at_call 16; refine (awake10_any _).mono ?_; rintro e w1 ⟨rfl, hb⟩)
      go_ret
      exact ⟨rfl, hb⟩
    · have h300d : decide ((300 : Int) < (d.length : Int)) = false := by simp; omega
      go_wp2_with fail
      refine (made_any w a cap A C ds HIN.out.docs HFEW.out.ok).mono ?_
      rintro e w1 ⟨b1, x1, rfl, ht1, hb1⟩
      have HT1 := Lib.hid ht1
      have HB1 := Lib.hid hb1
      obtain ⟨i1, hi1, hza1, hzb1, hzc1⟩ := info_parts info_bytes
      -- the first append
      have hx0 := owns_empty w1 w1.heap.size 23 (Nat.le_refl _)
      have hb0 : Below w1.heap.size w1 (w1.alloc (.cells #[] 23)) := (Below.refl _ w1).alloc (Nat.le_refl _) _
      obtain ⟨v3, w3, hrun3, hown3, hg3, hjunk0⟩ := run_append_row (P := Try.prog) (w1.alloc (.cells #[] 23)) w1.heap.size 22 22 23 i1 _ 24 Try.underlying22 hi1 hza1 hzb1 hzc1 rfl _ 0 [] hx0 a ds.length cap _ ((HIN.out.docs.kept hb1).top.kept hb0) (fun _ _ => rfl) (by simp only [maxLen]; omega) (by omega) (by simp)
      have hB3 : Below w1.heap.size w1 w3 := hb0.grown hg3 (by simp) (fun k hk => by simp [Value.ownBlock] at hk; omega)
      rw [Nat.zero_add, List.nil_append] at hown3
      obtain ⟨av3, cv3, rfl, hjunk⟩ := Row.of_owns hown3
      clear hjunk
      have R3 := Lib.hid hrun3
      have HO3 := Lib.hid hown3
      have HB3 := Lib.hid hB3
      clear ht1 hb1 hx0 hb0 hrun3 hown3 hg3 hB3 hjunk0
      have hs3 := HB3.out.size
      go_wp2_with (first
        | (at_builtin; (with_reducible refine wpList_append_run rfl _ _ _ rfl R3.out rfl rfl ?_); clear R3)
        | (at_builtin; refine wpList_append_lies _ rfl _ _ _ rfl w1.heap.size 23 i1 _ 1 24 Try.underlying22 hi1 hza1 hzb1 hzc1 rfl (by omega) (.slice av3 ds.length cv3) ds.length _ rfl (HO3.out.alloc _) ⟨w3.heap.size, 0, none⟩ 1 1 [.slice a1 d.length cap1] rfl rfl (cell_one_new _ _ _) (by simp [Value.oneCell']) (by omega) (by simp only [maxLen]; omega) (by omega) (by simp; omega) (w3.heap.size + 1) (by simp) ?_; intro gg cv' w4 hown' hgrow hat hlt'; have HOW := Lib.hid hown'; have HGR := Lib.hid hgrow; clear hown' hgrow hat)
        | fail)
      have hlt3 := HO3.out.lt
      have hB4 : Below w1.heap.size w1 w4 := (HB3.out.alloc hs3 _).grown HGR.out (by simp; omega) (fun k hk => (hlt3 k hk).1)
      have hBw4 : Below w.heap.size w w4 := below_next HB1.out hB4 HB1.out.size
      have hr4 := (owns_row HOW.out).1
      have hdm := docs_more hr4 (fun r hr => (HIN.out.docs.kept hBw4).each r hr) (HDR.out.kept hBw4)
      have hok2 : NewOk (ds ++ [d]) := by
        refine ⟨by simp; omega, ?_, ?_, ?_⟩
        · intro y hy
          rcases List.mem_append.1 hy with hy | hy
          · exact HFEW.out.long y hy
          · rw [List.mem_singleton.1 hy]; omega
        · rw [rowOf_append, rowOf_one]; simp; omega
        · intro y hy
          rcases List.mem_append.1 hy with hy | hy
          · exact HIN.out.byte y hy
          · rw [List.mem_singleton.1 hy]; exact HDB.out
      have hmd := made_any w4 _ cv' _ _ (ds ++ [d]) hdm hok2
      rw [List.length_append, List.length_singleton] at hmd
      have HMD := Lib.hid hmd
      have HOK2 := Lib.hid hok2
      have HT4 := Lib.hid (HT1.out.kept hB4)
      have HB4 := Lib.hid hBw4
      clear hlt3 hB4 hBw4 hr4 hdm hok2 hmd
      obtain ⟨ds2, hds2⟩ : ∃ ds2, ds2 = ds ++ [d] := ⟨_, rfl⟩
      rw [← hds2] at HMD HOK2
      have HDS2 := Lib.hid hds2
      have hn1 := HFEW.out.all
      have hn2 := HOK2.out.all
      clear hds2 HO3 HB3 HOW HGR HT1 HB1 HF
      refine HMD.out.mono ?_
      rintro e w5 ⟨b2, x2, rfl, ht2, hb5⟩
      have HT2 := Lib.hid ht2
      have HT5 := Lib.hid (HT4.out.kept hb5)
      have HB5 : Hid (Below w.heap.size w w5) := below_next HB4.out hb5 HB4.out.size
      clear ht2 hb5 HT4 HB4 HMD
      go_wp2_with fail
      refine (array_any w5 b1 x1 ds HT5.out HFEW.out.ok).mono ?_
      rintro e w6 ⟨aa, ca, sa, rfl, hra, hsa, hb6, _⟩
      have HRA := Lib.hid hra
      have HSA := Lib.hid hsa
      have HT6 := Lib.hid (HT5.out.kept hb6)
      have HT26 := Lib.hid (HT2.out.kept hb6)
      have HB6 : Hid (Below w.heap.size w w6) := below_next HB5.out hb6 HB5.out.size
      clear hra hsa hb6 HT5 HT2 HB5
      go_wp2_with fail
      refine (array_any w6 b2 x2 ds2 HT26.out HOK2.out).mono ?_
      rintro e w7 ⟨ab, cb, sb, rfl, hrb, hsb, hb7, _⟩
      have HRB := Lib.hid hrb
      have HSB := Lib.hid hsb
      have HRA7 := Lib.hid (HRA.out.kept hb7)
      have HT7 := Lib.hid (HT6.out.kept hb7)
      have HT27 := Lib.hid (HT26.out.kept hb7)
      have HB7 : Hid (Below w.heap.size w w7) := below_next HB6.out hb7 HB6.out.size
      have hmf : (sb.filter fun x => decide (x < (rowOf ds).length)) = sa := more_filter ds d sa sb HSA.out (by rw [← HDS2.out]; exact hsb)
      rw [← keepL_all] at hmf
      have HMF := Lib.hid hmf
      clear hrb hsb hb7 HT6 HT26 HB6 HRA hmf
      obtain ⟨i2, hi2, hza2, hzb2, hzc2⟩ := info_parts info_int
      generalize hN1 : (rowOf ds).length = n1 at *
      generalize hN2 : (rowOf ds2).length = n2 at *
      have HN1 := Lib.hid hN1
      have HN2 := Lib.hid hN2
      clear hN1 hN2
      have hsl := HSB.out.len
      have HSL := Lib.hid hsl
      have hix := run_ix (P := Try.prog) 28 (by kernel_rfl) size_int ab n2 cb HRB.out.at_ .i64
      clear hsl
      go_wp2_with fail
      go_loopw [8, 10] (fun v ii wr => ∃ i : Nat, i ≤ n2 ∧ ii = .int .i64 i ∧ wr.ownsRow w7.heap.size 3 1 v (keepL sb n1 i).length (intVs (keepL sb n1 i)) ∧ Below w7.heap.size w7 wr) (fun _ ii _ => n2 - (intOf ii).toNat)
      case atStart => exact ⟨0, Nat.zero_le _, rfl, by rw [keepL_zero]; exact World.ownsRow_nil _ _ _ _, Below.refl _ _⟩
      case round =>
        obtain ⟨i, hi, rfl, hown, hbel⟩ := hrel
        have hs := hbel.size
        have HT7i := Lib.hid (HT7.out.kept hbel)
        have HO := Lib.hid hown
        have HB := Lib.hid hbel
        by_cases hlt : i < n2
        · have d0 : wr.cell? ⟨bOf ab, oOf ab + i, none⟩ = some (.int .i64 ((sb.getD i 0 : Nat) : Int)) := (HRB.out.kept hbel).cell i hlt
          have hst := keepL_succ sb n1 i (by rw [HSL.out]; exact hlt)
          have hkl := keepL_len sb n1 i
          clear hown hbel
          generalize sb.getD i 0 = y at *
          by_cases hy : y < n1
          · rw [if_pos hy] at hst
            have HST := Lib.hid hst
            have ty : decide ((y : Int) < (n1 : Int)) = true := by simp; omega
            clear hst
            generalize keepL sb n1 i = L at *
            go_wp2_with fail
            go_quiet ((go_at_call 19; refine Calls.quiet_of ((tlen_any _ b1 x1 ds (HT7i.out.drewN _)).mono fun _ _ ⟨he, hw⟩ => ⟨he.trans (by rw [HN1.out]), 0, hw.symm⟩)))
            have HOq := Lib.hid (owns_drewN HO.out nq)
            have HBq := Lib.hid (below_drewN HB.out nq)
            have hsq : w7.heap.size ≤ (wr.drewN nq).heap.size := hs
            clear HO HB hs
            have dq : (wr.drewN nq).cell? ⟨bOf ab, oOf ab + i, none⟩ = some (.int .i64 (y : Int)) := d0
            generalize wr.drewN nq = wq at *
            go_wp2_with (at_builtin; refine wpList_append_own _ rfl _ _ 28 rfl w7.heap.size 3 i2 (.int .i64 0) 1 8 Try.underlying28 hi2 hza2 hzb2 hzc2 rfl (by decide) _ _ _ rfl (HOq.out.alloc _) ⟨wq.heap.size, 0, none⟩ 1 1 [.int .i64 (y : Int)] rfl rfl (cell_one_new _ _ _) (by simp [Value.oneCell']) (by simp only [maxLen]; omega) (by omega) (by simp; omega) ?_; intro v' w8 hown' hgrow _)
            have hlt' := HOq.out.lt
            have ho1 : w8.ownsRow w7.heap.size 3 1 v' (keepL sb n1 (i + 1)).length (intVs (keepL sb n1 (i + 1))) := by rw [HST.out]; simpa [intVs] using hown'
            have HO1 := Lib.hid ho1
            have HB1 : Hid (Below w7.heap.size w7 w8) := (HBq.out.alloc hsq _).grown hgrow (by simp; omega) (fun g hg => (hlt' g hg).1)
            clear hown' hgrow hlt' ho1 dq
            go_wp2
            go_roundw
            case rel => exact ⟨i + 1, by omega, by go_num, HO1.out, HB1.out⟩
            case measure => simp [intOf]; omega
          · rw [if_neg hy] at hst
            have HST := Lib.hid hst
            have ty : decide ((y : Int) < (n1 : Int)) = false := by simp; omega
            clear hst
            go_wp2_with fail
            go_quiet ((go_at_call 19; refine Calls.quiet_of ((tlen_any _ b1 x1 ds (HT7i.out.drewN _)).mono fun _ _ ⟨he, hw⟩ => ⟨he.trans (by rw [HN1.out]), 0, hw.symm⟩)))
            go_wp2
            go_roundw
            case rel => exact ⟨i + 1, by omega, by go_num, by rw [HST.out]; exact owns_drewN HO.out nq, below_drewN HB.out nq⟩
            case measure => simp [intOf]; omega
        · obtain rfl : i = n2 := by omega
          have hd2 : decide ((i : Int) < i) = false := by simp
          rw [← HSL.out, HMF.out, HSA.out.len] at hown
          obtain ⟨av, cv, rfl, hjk⟩ := Row.of_owns hown
          have hrv : Row wr av n1 (natV sa) := (owns_row hown).1.congr fun k hk => by
            have hk2 : k < sa.length := by rw [HSA.out.len]; exact hk
            simp [List.getD_eq_getElem?_getD, hk2]
          have HSAME := Lib.hid (same_yes wr aa av n1 ca cv (fun k => ((sa.getD k 0 : Nat) : Int)) (by omega) (HRA7.out.kept hbel) hrv)
          have HT27i := Lib.hid (HT27.out.kept hbel)
          clear hjk hown hbel hrv HO
          go_wp2_with fail
          refine HSAME.out.mono ?_
          rintro e w9 ⟨rfl, j, rfl⟩
          go_wp2_with fail
          refine (tlen_any _ b2 x2 ds2 (HT27i.out.drewN j)).mono ?_
          rintro e w9 ⟨rfl, rfl⟩
          rw [HN2.out]
          go_wp2_with fail
          refine (awake10_any _).mono ?_
          rintro e w9 ⟨rfl, hb9⟩
          have HB9 := Lib.hid hb9
          clear hb9
          go_wp2
          go_ret
          exact ⟨rfl, below_next (below_drewN (below_next HB7.out HB.out HB7.out.size) j) HB9.out (Nat.le_trans HB7.out.size HB.out.size)⟩
end Go.Proofs.Ytddceidepmckiaa
