/-
  The statement TextNested: its walk.
-/
import Derived.Test.YtehgpggkicoddaaTextLaw
import Derived.Test.YtehgpggkicoddaaRowCap
namespace Go.Proofs.Ytehgpggkicoddaa
open Go.RowKit

theorem inL_sub (P P' d : List Nat) (hP : P ≠ []) (hP' : P' ≠ []) (h : ∀ j, occB P' d j = true → occB P d j = true) : (inL P' d).Sublist (inL P d) := by
  unfold inL
  rw [if_neg hP, if_neg hP']
  unfold inTo
  have e : (List.range (d.length + 1)).filter (occB P' d) = ((List.range (d.length + 1)).filter (occB P d)).filter (occB P' d) := by
    rw [List.filter_filter]
    refine List.filter_congr fun j _ => ?_
    cases hj : occB P' d j with
    | false => rfl
    | true => rw [h j hj]; rfl
  rw [e]
  exact List.filter_sublist
theorem fd_sub (ds : List (List Nat)) (P P' : List Nat) (hP : P ≠ []) (hP' : P' ≠ []) (h : ∀ d j, occB P' d j = true → occB P d j = true) (i : Nat) : (fdTo ds P' i).Sublist (fdTo ds P i) := by
  induction i with
  | zero => rw [fdTo_zero, fdTo_zero]; exact List.Sublist.refl _
  | succ i ih => rw [fdTo_succ, fdTo_succ]; exact ih.append ((inL_sub P P' _ hP hP' (h _)).map _)
theorem occ_more (P : List Nat) (c : Nat) (d : List Nat) (j : Nat) (h : occB (P ++ [c]) d j = true) : occB P d j = true := by
  have h1 := of_decide_eq_true h
  refine decide_eq_true ?_
  have h2 := congrArg (List.take P.length) h1
  rw [List.take_take, List.take_append_of_le_length (Nat.le_refl _), List.take_length, Nat.min_eq_left (by simp)] at h2
  exact h2
theorem occ_less (P : List Nat) (m : Nat) (hm : m ≤ P.length) (d : List Nat) (j : Nat) (h : occB P d j = true) : occB (P.take m) d j = true := by
  have h1 := of_decide_eq_true h
  refine decide_eq_true ?_
  have h2 := congrArg (List.take m) h1
  rw [List.take_take, Nat.min_eq_left hm] at h2
  rw [List.length_take, Nat.min_eq_left hm]
  exact h2
theorem drop_getD (l : List (Nat × Nat)) (i : Nat) (h : i < l.length) : l.drop i = l.getD i (0, 0) :: l.drop (i + 1) := by
  rw [List.drop_eq_getElem_cons h, List.getD_eq_getElem?_getD, List.getElem?_eq_getElem h]; rfl
theorem sub_step {x y : Nat × Nat} {l m : List (Nat × Nat)} (h : (x :: l).Sublist (y :: m)) (hne : y ≠ x) : (x :: l).Sublist m := by
  cases h with
  | cons _ h => exact h
  | cons_cons _ h => exact (hne rfl).elim
theorem sub_next {x : Nat × Nat} {l m : List (Nat × Nat)} (h : (x :: l).Sublist m) : l.Sublist m := (List.sublist_cons_self x l).trans h
set_option maxRecDepth 100000 in
set_option maxHeartbeats 1000000 in
theorem subset_any (w : World) (a b : Option Addr) (ca cb : Nat) (l m : List (Nat × Nat)) (hl : l.length ≤ 1000000) (hml : m.length ≤ 1000000) (ha : HRow w a l) (hb : HRow w b m) (hs : l.Sublist m) :
    Calls Try.prog 14 #[.slice a l.length ca, .slice b m.length cb] w fun e w' => e = .returned (.bool true) ∧ ∃ k, w' = w.drewN k := by
  have hix := run_ix2 (P := Try.prog) 32 (by kernel_rfl) size_hit' a l.length ca ha.at_
  have hiy := run_ix2 (P := Try.prog) 32 (by kernel_rfl) size_hit' b m.length cb hb.at_
  have HA := Lib.hid ha
  have HB := Lib.hid hb
  have HS := Lib.hid hs
  clear ha hb hs
  go_enter Try.func14, Try.ntmps14
  go_wp2
  go_loopw [5, 6] (fun v5 v6 wr => ∃ k i : Nat, k ≤ m.length ∧ i ≤ l.length ∧ v5 = .int .i64 (k : Int) ∧ v6 = .int .i64 (i : Int) ∧ (l.drop i).Sublist (m.drop k) ∧ ∃ j, wr = w.drewN j) (fun _ v6 _ => l.length - (intOf v6).toNat)
  case atStart => exact ⟨0, 0, Nat.zero_le _, Nat.zero_le _, rfl, rfl, HS.out, 0, rfl⟩
  case round =>
    obtain ⟨k, i, hk, hi, rfl, rfl, hsb, j, rfl⟩ := hrel
    have HSB := Lib.hid hsb
    clear hsb
    by_cases hil : i < l.length
    · have d1 := HA.out.c0 i hil
      have d2 := HA.out.c1 i hil
      have h1 := fun W => hix W i hil
      have HDI := Lib.hid (drop_getD l i hil)
      rw [HDI.out] at HSB
      generalize l.getD i (0, 0) = x at *
      generalize hl' : l.drop (i + 1) = l' at *
      have HLD := Lib.hid hl'
      clear hl'
      obtain ⟨x1, x2⟩ := x
      go_wp2
      go_loopw [5] (fun v5 wr => ∃ k : Nat, k ≤ m.length ∧ v5 = .int .i64 (k : Int) ∧ ((x1, x2) :: l').Sublist (m.drop k) ∧ ∃ j, wr = w.drewN j) (fun v5 _ => m.length - (intOf v5).toNat)
      case atStart => exact ⟨k, hk, rfl, HSB.out, j, rfl⟩
      case round =>
        obtain ⟨k, hk, rfl, hsb, j, rfl⟩ := hrel
        have hkl : k < m.length := by
          have := hsb.length_le
          rw [List.length_drop] at this
          simp at this; omega
        have d3 := HB.out.c0 k hkl
        have d4 := HB.out.c1 k hkl
        have h2 := fun W => hiy W k hkl
        have HDK := Lib.hid (drop_getD m k hkl)
        rw [HDK.out] at hsb
        have HSB2 := Lib.hid hsb
        clear hsb
        generalize m.getD k (0, 0) = y at *
        generalize hm' : m.drop (k + 1) = m' at *
        have HMD := Lib.hid hm'
        clear hm'
        obtain ⟨y1, y2⟩ := y
        by_cases hxy : y1 = x1 ∧ y2 = x2
        · obtain ⟨rfl, rfl⟩ := hxy
          go_wp2
          go_quiet (fail)
          go_wp2
          go_roundw
          case rel => exact ⟨k, i + 1, by omega, by omega, rfl, by go_num, by rw [HLD.out, HDK.out]; exact sub_next HSB2.out, _, rfl⟩
          case measure => simp [intOf]; omega
        · have hne : ∀ W, (binOp .neq 46 (.agg #[.int .i64 (y1 : Int), .int .i64 (y2 : Int)]) (.agg #[.int .i64 (x1 : Int), .int .i64 (x2 : Int)])).run Try.prog W = .ok (.bool true) W := by
            intro W
            go_simp
            intro h1 h2
            exact hxy ⟨by omega, by omega⟩
          go_wp2
          go_quiet (fail)
          go_wp2
          go_roundw
          case rel => exact ⟨k + 1, by omega, by go_num, by rw [HMD.out]; exact sub_step HSB2.out (fun e => hxy ⟨congrArg Prod.fst e, congrArg Prod.snd e⟩), _, rfl⟩
          case measure => simp [intOf]; omega
    · obtain rfl : i = l.length := by omega
      go_wp2
      go_ret
      exact ⟨rfl, j, rfl⟩
theorem sB_app (a b : List Nat) : sB a ++ sB b = sB (a ++ b) := by
  unfold sB
  apply ByteArray.ext
  rw [ByteArray.data_append]
  apply Array.ext'
  simp
theorem add_str (a b : List Nat) (hl : a.length + b.length ≤ 1000) : ∀ W : World, (binOp .add 9 (.string (sB a)) (.string (sB b))).run Try.prog W = .ok (.string (sB (a ++ b))) W := by
  intro W
  rw [← sB_app]
  have h1 := sB_size a
  have h2 := sB_size b
  go_simp
  omega
theorem cut_to8n (a : Option Addr) (n cap k : Nat) (h : k ≤ n) (hc : n ≤ cap) (h1 : n = 0 ∨ a = some ⟨bOf a, oOf a, none⟩) (hn : 0 < n) : ∀ W : World, (Instr.slice 29 (.slice a n cap) none (some (.int .i64 (k : Int))) none).run Try.prog W = .ok (.slice a k cap) W := by
  intro W
  obtain ⟨ad, rfl⟩ : ∃ ad, a = some ad := ⟨_, h1.resolve_left (by omega)⟩
  simp [Instr.slice, run_underlying Try.underlying29, Instr.sliceBounds, run_sliceBound, show (0 : Int) ≤ k by omega, show (k : Int) ≤ cap by omega]
  intro _
  cases ad
  simp [Addr.add]
set_option maxRecDepth 100000 in
set_option maxHeartbeats 4000000 in
theorem tnested_walk (w : World) (hm : MaxCell w) (a : Option Addr) (cap : Nat) (A : Nat → Option Addr) (C : Nat → Nat) (ds : List (List Nat)) (hin : DocsIn w a A C ds) (a1 : Option Addr) (len cap1 : Nat) (f : Nat → Int) (hl : len ≤ maxLen) (hc : len ≤ cap1) (hr : Row w a1 len (fun k => .int .u8 (f k)) ∧ ∀ k, k < len → (Lit.int .u8 (f k)).wf = true) (ci : Int) (hci : (Lit.int .u8 ci).wf = true) :
    Calls Try.prog 4 #[.slice a ds.length cap, .slice a1 len cap1, .int .u8 ci] w fun e w' => e = .returned (.bool true) ∧ Below w.heap.size w w' := by
  obtain ⟨P, hd, hdr, hpb⟩ := bytes_list hr
  subst hd
  unfold maxLen at hl
  have hcb : 0 ≤ ci ∧ ci < 256 := (by have := bounds_u8 hci; omega)
  obtain ⟨c, hcc⟩ : ∃ c : Nat, ci = (c : Int) := ⟨ci.toNat, by omega⟩
  subst hcc
  have hc256 : c < 256 := by omega
  have HF := Lib.hid (few_any w a cap A C ds hin.many hin.docs hin.long)
  have HIN := Lib.hid hin
  have HM := Lib.hid hm
  have HP := Lib.hid hdr
  have HPB := Lib.hid hpb
  clear hin hr hdr hpb hm hci hcb
  go_enter Try.func4, Try.ntmps4
  go_wp2_with fail
  refine HF.out.mono ?_
  rintro e w' ⟨b, rfl, hfew, rfl⟩
  cases b with
  | false =>
    clear hfew
    go_wp2_with (go_at_call 9; refine (awake9_any _ HM.out).mono ?_; rintro e w1 ⟨rfl, hb⟩)
    go_ret
    exact ⟨rfl, hb⟩
  | true =>
    obtain ⟨hf1, hf2, hf3⟩ := hfew rfl
    have HFEW := Lib.hid (FewP.mk hf1 hf2 hf3 HIN.out.byte)
    have HOK := Lib.hid HFEW.out.ok
    clear hfew hf2 HF
    by_cases hp0 : P.length = 0
    · have t0 : ((P.length : Int) == 0) = true := by rw [hp0]; rfl
      clear hp0
      go_wp2_with (go_at_call 9; refine (awake9_any _ HM.out).mono ?_; rintro e w1 ⟨rfl, hb⟩)
      go_ret
      exact ⟨rfl, hb⟩
    · have t0 : ((P.length : Int) == 0) = false := by rw [beq_eq_false_iff_ne]; omega
      by_cases hp : (60 : Int) < (P.length : Int)
      · go_wp2_with (go_at_call 9; refine (awake9_any _ HM.out).mono ?_; rintro e w1 ⟨rfl, hb⟩)
        go_ret
        exact ⟨rfl, hb⟩
      · have hpd : decide ((60 : Int) < (P.length : Int)) = false := by simp; omega
        have hpd2 : decide (60 < P.length) = false := by simp; omega
        have hp2 : P.length ≤ 60 := by omega
        have hp1 : 0 < P.length := by omega
        have hPn : P ≠ [] := fun e => by rw [e] at hp1; simp at hp1
        have HPN := Lib.hid hPn
        clear hp hl hPn hp0
        obtain ⟨m, hm, hm1, hm2⟩ : ∃ m : Nat, m = (P.length + 1) / 2 ∧ 0 < m ∧ m ≤ P.length := ⟨_, rfl, by omega, by omega⟩
        have em : ((P.length : Int) + 1) / 2 = (m : Int) := by omega
        have em2 : ((P.length : Int) + 1).tdiv 2 = (m : Int) := by rw [Int.tdiv_eq_ediv_of_nonneg (by omega)]; exact em
        have hct := cut_to8n a1 P.length cap1 m hm2 hc HP.out.at_ hp1
        clear hm
        go_wp2_with fail
        refine (tnew_any w a cap A C ds HIN.out.docs HOK.out).mono ?_
        rintro e w1 ⟨bt, x, rfl, ht, hb1⟩
        have HT1 := Lib.hid ht
        have HB1 := Lib.hid hb1
        have HM1 := Lib.hid (HM.out.kept hb1)
        have HCV : Hid (∀ W, Below w.heap.size w W → (convert 29 9 (.slice a1 P.length cap1)).run Try.prog W = .ok (.string (sB P)) W) := fun W hW => conv_str W a1 P cap1 (HP.out.kept hW)
        have HCT : Hid (∀ W, Below w.heap.size w W → (convert 29 9 (.slice a1 m cap1)).run Try.prog W = .ok (.string (sB (P.take m))) W) := fun W hW => by
          have hl : (P.take m).length = m := by rw [List.length_take]; omega
          have hrow : Row W a1 (P.take m).length (byteV (P.take m)) := by
            rw [hl]
            refine ((HP.out.kept hW).take hm2).congr fun k hk => ?_
            show Value.int .u8 ((P.getD k 0 : Nat) : Int) = .int .u8 (((P.take m).getD k 0 : Nat) : Int)
            rw [List.getD_eq_getElem?_getD, List.getD_eq_getElem?_getD, List.getElem?_take_of_lt hk]
          have := conv_str W a1 (P.take m) cap1 hrow
          rw [hl] at this
          exact this
        have hlen : ∀ Q : List Nat, (fdTo ds Q ds.length).length ≤ 60000 := fun Q => by
          have h1 := fdTo_len ds Q ds.length (Nat.le_refl _)
          have h2 := startOf_all ds
          omega
        have HLEN := Lib.hid hlen
        have HFI : Hid (∀ (W : World) (Q : List Nat), Below w1.heap.size w1 W → (∀ c ∈ Q, c < 256) → Q.length ≤ 1000 → Calls Try.prog 13 #[.pointer (some ⟨bt, 0, none⟩), .string (sB Q), .int .i64 100000] W fun e w' => ∃ a cap, e = .returned (.slice a (fdTo ds Q ds.length).length cap) ∧ HRow w' a (fdTo ds Q ds.length) ∧ Below W.heap.size W w') := fun W Q hW hq hl => by
          have := lfind_any W bt x ds (HT1.out.kept hW) HOK.out (HM1.out.kept hW) Q hq (by omega) 100000 (by omega)
          unfold FindLPost at this
          rw [List.take_of_length_le (Nat.le_trans (HLEN.out Q) (by omega))] at this
          simp only [Int.cast_ofNat_Int] at this
          exact this
        have HS1 := Lib.hid (fd_sub ds P (P ++ [c]) HPN.out (by simp) (fun d j h => occ_more P c d j h) ds.length)
        have HS2 := Lib.hid (fd_sub ds (P.take m) P (fun e => by have h := congrArg List.length e; rw [List.length_take, List.length_nil] at h; omega) HPN.out (fun d j h => occ_less P m hm2 d j h) ds.length)
        have hcv1 := HCV.out w1 HB1.out
        have HF1 := Lib.hid (HFI.out w1 P (Below.refl _ _) HPB.out (by omega))
        clear ht hb1 hlen hpd hpd2
        go_wp2_with fail
        refine HF1.out.mono ?_
        rintro e w2 ⟨a2, c2, rfl, hr2, hb2⟩
        have HR2 := Lib.hid hr2
        have HB2 : Hid (Below w.heap.size w w2) := below_next HB1.out hb2 HB1.out.size
        have HX2 := Lib.hid hb2
        have hbe : Below w2.heap.size w2 (w2.alloc (.cells #[.int .u8 (c : Int)] 5)) := (Below.refl _ _).alloc (Nat.le_refl _) _
        have hcv2 := HCV.out w2 HB2.out
        have hcv3 : (convert 29 9 (.slice (some ⟨w2.heap.size, 0, none⟩) 1 1)).run Try.prog (w2.alloc (.cells #[.int .u8 (c : Int)] 5)) = .ok (.string (sB [c])) (w2.alloc (.cells #[.int .u8 (c : Int)] 5)) := conv_str _ (some ⟨w2.heap.size, 0, none⟩) [c] 1 (row_marked w2 #[.int .u8 (c : Int)] 5 (0, 0) (byteV [c]) (by
          intro i hi
          match i, hi with
          | 0, _ => rfl))
        have hz1 : (sB P).size ≤ 60 := by rw [sB_size]; exact hp2
        have hz2 : (sB [c]).size ≤ 1 := by rw [sB_size]; exact Nat.le_refl _
        have HBe : Hid (Below w.heap.size w (w2.alloc (.cells #[.int .u8 (c : Int)] 5))) := below_next HB2.out hbe HB2.out.size
        have HF2 := Lib.hid (HFI.out (w2.alloc (.cells #[.int .u8 (c : Int)] 5)) (P ++ [c]) (below_next hb2 hbe hb2.size) (fun d hd => by rcases List.mem_append.1 hd with h | h; exact HPB.out d h; (obtain rfl := List.mem_singleton.1 h; exact hc256)) (by simp; omega))
        have HR2e := Lib.hid (hr2.kept hbe)
        have HX2e : Hid (Below w1.heap.size w1 (w2.alloc (.cells #[.int .u8 (c : Int)] 5))) := below_next hb2 hbe hb2.size
        clear hr2 hb2 hbe hcv1 HR2 HF1
        have hl0 := Nat.le_trans (HLEN.out P) (show 60000 ≤ 1000000 by omega)
        have hl1 := Nat.le_trans (HLEN.out (P ++ [c])) (show 60000 ≤ 1000000 by omega)
        have hl2 := Nat.le_trans (HLEN.out (P.take m)) (show 60000 ≤ 1000000 by omega)
        generalize fdTo ds P ds.length = L at *
        generalize fdTo ds (P ++ [c]) ds.length = L1 at *
        go_wp2_with fail
        rw [sB_app]
        refine HF2.out.mono ?_
        rintro e w3 ⟨a3, c3, rfl, hr3, hb3⟩
        have HB3 : Hid (Below w.heap.size w w3) := below_next HBe.out hb3 HBe.out.size
        have HX3 : Hid (Below w1.heap.size w1 w3) := below_next HX2e.out hb3 HX2e.out.size
        have HR3 := Lib.hid hr3
        have HR2b := Lib.hid (HR2e.out.kept hb3)
        have hct3 := HCT.out w3 HB3.out
        have HF3 := Lib.hid (HFI.out w3 (P.take m) HX3.out (fun d hd => HPB.out d (List.mem_of_mem_take hd)) (by rw [List.length_take]; omega))
        generalize fdTo ds (P.take m) ds.length = L2 at *
        have hL2 := HLEN
        clear hr3 hb3 hcv2 hcv3 hz1 hz2 HF2 HR2e HX2e HBe HX2
        go_wp2_with fail
        refine HF3.out.mono ?_
        rintro e w4 ⟨a4, c4, rfl, hr4, hb4⟩
        have HB4 : Hid (Below w.heap.size w w4) := below_next HB3.out hb4 HB3.out.size
        have HM4 := Lib.hid (HM.out.kept HB4.out)
        have HSUB1 := Lib.hid (subset_any w4 a3 a2 c3 c2 L1 L hl1 hl0 (HR3.out.kept hb4) (HR2b.out.kept hb4) HS1.out)
        have HSUB2 := Lib.hid (fun j => subset_any (w4.drewN j) a2 a4 c2 c4 L L2 hl0 hl2 ((HR2b.out.kept hb4).drewN j) (hr4.drewN j) HS2.out)
        clear hr4 hb4 hct3 HF3 HR3 HR2b HX3 HB3 hL2 hct em em2 t0
        go_wp2_with fail
        refine HSUB1.out.mono ?_
        rintro e w' ⟨rfl, j, rfl⟩
        go_wp2_with fail
        refine (HSUB2.out j).mono ?_
        rintro e w' ⟨rfl, j2, rfl⟩
        have HB5 : Hid (Below w.heap.size w ((w4.drewN j).drewN j2)) := below_drewN (below_drewN HB4.out j) j2
        have HM5 := Lib.hid ((HM4.out.drewN j).drewN j2)
        generalize (w4.drewN j).drewN j2 = w5 at *
        go_wp2_with (go_at_call 9; refine (awake9_any _ HM5.out).mono ?_; rintro e w6 ⟨rfl, hb6⟩)
        go_ret
        exact ⟨rfl, below_next HB5.out hb6 HB5.out.size⟩
end Go.Proofs.Ytehgpggkicoddaa
