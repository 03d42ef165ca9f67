/-
  The statement TextFinds: its walk.
-/
import Derived.Test.YtehgpggkicoddaaTextLaw
import Derived.Maps.RangeWalk
namespace Go.Proofs.Ytehgpggkicoddaa
open Go.RowKit

theorem foundL_append (ds : List (List Nat)) (P : List Nat) (a b : List (Nat × Nat)) : foundL ds P (a ++ b) = foundL ds P a ++ foundL ds P b := by unfold foundL; exact List.filter_append ..
theorem fdTo_found (ds : List (List Nat)) (P : List Nat) (hP : P ≠ []) (i : Nat) : fdTo ds P i = foundL ds P (allH ds i) := by
  induction i with
  | zero => rw [fdTo_zero, allH_zero, foundL_nil]
  | succ i ih =>
    rw [fdTo_succ, allH_succ, foundL_append, ih]
    congr 1
    unfold inL foundL hitsD inTo
    rw [if_neg hP, List.filter_map]
    rfl
theorem fdTo_nilP (ds : List (List Nat)) (i : Nat) : fdTo ds [] i = [] := by
  induction i with
  | zero => exact fdTo_zero _ _
  | succ i ih => rw [fdTo_succ, ih]; unfold inL; simp
theorem reffind_nil9 (w : World) (a : Option Addr) (n cap : Nat) :
    Calls Try.prog 15 #[.slice a n cap, .string (sB [])] w fun e w' => e = .returned (.slice none 0 0) ∧ w = w' := by
  have hs2 : (sB []) = ByteArray.empty := by unfold sB; rfl
  rw [hs2]
  clear hs2
  go_enter Try.func15, Try.ntmps15
  go_wp2
  refine wp_loop_rounds 1 ?_
  rw [rounds_succ]
  go_wp2
  all_goals (go_ret; exact ⟨rfl, rfl⟩)
def FoundPost (w : World) (ds : List (List Nat)) (P : List Nat) (e : Ending) (w' : World) : Prop :=
  ∃ a cap, e = .returned (.slice a (fdTo ds P ds.length).length cap) ∧ HRow w' a (fdTo ds P ds.length) ∧ Below w.heap.size w w' ∧ (fdTo ds P ds.length).length ≤ cap ∧ (a = none → cap = 0)
theorem reffound_any (w : World) (a : Option Addr) (cap : Nat) (ds : List (List Nat)) (hr : Row w a ds.length (strV ds)) (hby : ∀ d ∈ ds, ∀ c ∈ d, c < 256) (hl : (rowOf ds).length ≤ 60000) (P : List Nat) (hpb : ∀ c ∈ P, c < 256) (hpl : P.length ≤ 100000) :
    Calls Try.prog 15 #[.slice a ds.length cap, .string (sB P)] w (FoundPost w ds P) := by
  cases P with
  | nil =>
    refine (reffind_nil9 w a _ cap).mono ?_
    rintro e w' ⟨rfl, rfl⟩
    refine ⟨none, 0, by rw [fdTo_nilP]; rfl, by rw [fdTo_nilP]; exact HRow.nil _ _, Below.refl _ _, by rw [fdTo_nilP]; exact Nat.le_refl _, fun _ => rfl⟩
  | cons c P =>
    refine (reffind_full w a cap ds hr hby hl (c :: P) hpb hpl (by simp)).mono ?_
    rintro e w' ⟨a', cap', rfl, h1, h2, h3, h4⟩
    unfold FoundPost
    rw [fdTo_found ds (c :: P) (by simp)]
    exact ⟨a', cap', rfl, h1, h2, h3, h4⟩
theorem cut_toH (a : Option Addr) (n cap k : Nat) (h : k ≤ n) (hc : n ≤ cap) (h0 : a = none → cap = 0) : ∀ W : World, (Instr.slice 32 (.slice a n cap) none (some (.int .i64 (k : Int))) none).run Try.prog W = .ok (.slice a k cap) W := by
  intro W
  cases a with
  | none =>
    obtain rfl : cap = 0 := h0 rfl
    obtain rfl : n = 0 := by omega
    obtain rfl : k = 0 := by omega
    simp [Instr.slice, run_underlying Try.underlying32, Instr.sliceBounds, run_sliceBound]
  | some ad =>
    simp [Instr.slice, run_underlying Try.underlying32, Instr.sliceBounds, run_sliceBound, show (0 : Int) ≤ k by omega, show (k : Int) ≤ cap by omega]
    intro _
    cases ad
    simp [Addr.add]
set_option maxRecDepth 100000 in
set_option maxHeartbeats 4000000 in
theorem tfinds_walk (w : World) (hm : MaxCell w) (a : Option Addr) (cap : Nat) (A : Nat → Option Addr) (C : Nat → Nat) (ds : List (List Nat)) (hin : DocsIn w a A C ds) (a1 : Option Addr) (len cap1 : Nat) (f : Nat → Int) (hl : len ≤ maxLen) (hr : Row w a1 len (fun k => .int .u8 (f k)) ∧ ∀ k, k < len → (Lit.int .u8 (f k)).wf = true) (most : Int) (_ : (Lit.int .i64 most).wf = true) :
    Calls Try.prog 5 #[.slice a ds.length cap, .slice a1 len cap1, .int .i64 most] w fun e w' => e = .returned (.bool true) ∧ Below w.heap.size w w' := by
  obtain ⟨P, hd, hdr, hpb⟩ := bytes_list hr
  subst hd
  unfold maxLen at hl
  have HF := Lib.hid (few_any w a cap A C ds hin.many hin.docs hin.long)
  have HIN := Lib.hid hin
  have HM := Lib.hid hm
  have HP := Lib.hid hdr
  have HPB := Lib.hid hpb
  have em : bits .and .i64 most 15 = most % 16 := i64_mask most 4 (by omega)
  obtain ⟨mo, hmo, hmo2⟩ : ∃ mo : Nat, most % 16 = mo ∧ mo ≤ 15 := ⟨(most % 16).toNat, by omega, by omega⟩
  rw [hmo] at em
  clear hin hr hdr hpb hm hmo
  go_enter Try.func5, Try.ntmps5
  go_wp2_with fail
  refine HF.out.mono ?_
  rintro e w' ⟨b, rfl, hfew, rfl⟩
  cases b with
  | false =>
    clear hfew
    go_wp2_with (go_at_call 9; refine (awake9_any _ HM.out).mono ?_; rintro e w1 ⟨rfl, hb⟩)
    go_ret
    exact ⟨rfl, hb⟩
  | true =>
    obtain ⟨hf1, hf2, hf3⟩ := hfew rfl
    have HFEW := Lib.hid (FewP.mk hf1 hf2 hf3 HIN.out.byte)
    have HOK := Lib.hid HFEW.out.ok
    clear hfew hf2 HF
    by_cases hp : (200 : Int) < (P.length : Int)
    · go_wp2_with (go_at_call 9; refine (awake9_any _ HM.out).mono ?_; rintro e w1 ⟨rfl, hb⟩)
      go_ret
      exact ⟨rfl, hb⟩
    · have hpd : decide ((200 : Int) < (P.length : Int)) = false := by simp; omega
      have hpd2 : decide (200 < P.length) = false := by simp; omega
      have hp2 : P.length ≤ 200 := by omega
      clear hp hl
      go_wp2_with fail
      refine (tnew_any w a cap A C ds HIN.out.docs HOK.out).mono ?_
      rintro e w1 ⟨bt, x, rfl, ht, hb1⟩
      have HT1 := Lib.hid ht
      have HB1 := Lib.hid hb1
      have HM1 := Lib.hid (HM.out.kept hb1)
      clear ht hb1
      have HCV : Hid (∀ W, Below w.heap.size w W → (convert 29 9 (.slice a1 P.length cap1)).run Try.prog W = .ok (.string (sB P)) W) := fun W hW => conv_str W a1 P cap1 (HP.out.kept hW)
      have hB1d : Below w.heap.size w w1.drew := HB1.out.drew
      have hcv1 := HCV.out _ hB1d
      have HSTR := Lib.hid (fun W hW => strings_any W a cap A C ds (by omega) (HIN.out.docs.kept (hW : Below w.heap.size w W)))
      clear hpd hpd2
      go_wp2_with fail
      go_region_with (first
        | (go_at_call 16; refine (HSTR.out _ hB1d).mono ?_; rintro e w2 ⟨ax, cx, rfl, hrs, hb2⟩; have HS2 := Lib.hid hrs; have HX2 := Lib.hid hb2; have HB2 : Hid (Below w.heap.size w w2) := below_next hB1d hb2 hB1d.size; have hcv2 := HCV.out _ HB2.out; clear hrs hb2)
        | (go_at_call 15; refine (reffound_any _ ax cx ds HS2.out HFEW.out.byte (by omega) P HPB.out (by omega)).mono ?_; rintro e w3 ⟨a9, c9, rfl, hr9, hb3, hc9, hn9⟩))
      all_goals
        have HB3 : Hid (Below w.heap.size w w3) := below_next HB2.out hb3 HB2.out.size
        have HT3 : Hid (TextAt w3 bt x ds) := ((HT1.out.drewN 1).kept HX2.out).kept hb3
        have HM3 := Lib.hid (HM.out.kept HB3.out)
        have HR9 := Lib.hid hr9
        have hlen : (fdTo ds P ds.length).length ≤ 60000 := by
          have h1 := fdTo_len ds P ds.length (Nat.le_refl _)
          have h2 := startOf_all ds
          omega
        have HFA := Lib.hid (fun W (hW : Below w3.heap.size w3 W) => lfind_any W bt x ds (HT3.out.kept hW) HOK.out (HM3.out.kept hW) P HPB.out (by omega) 100000 (by omega))
        unfold FindLPost at HFA
        rw [List.take_of_length_le (show (fdTo ds P ds.length).length ≤ 100000 by omega)] at HFA
        simp only [Int.cast_ofNat_Int] at HFA
        have HCV3 : Hid (∀ W, Below w3.heap.size w3 W → (convert 29 9 (.slice a1 P.length cap1)).run Try.prog W = .ok (.string (sB P)) W) := fun W hW => HCV.out W (below_next HB3.out hW HB3.out.size)
        have HB3d : Below w3.heap.size w3 w3.drew := (Below.refl _ _).drew
        have hcv3 := HCV3.out _ HB3d
        clear hr9 hb3 hcv1 hcv2 hB1d HSTR HS2 HX2 HT1 HB1 HM1 HCV HB2
        generalize hL : fdTo ds P ds.length = L at *
        have HLL := Lib.hid hL
        clear hL
        by_cases hml : mo ≤ L.length
        · have t1 : (mo : Int) ≤ (L.length : Int) := by omega
          have HFB := Lib.hid (fun W (hW : Below w3.heap.size w3 W) => lfind_any W bt x ds (HT3.out.kept hW) HOK.out (HM3.out.kept hW) P HPB.out (by omega) mo (by omega))
          unfold FindLPost at HFB
          rw [HLL.out] at HFB
          have HTK := Lib.hid (show (L.take mo).length = mo by rw [List.length_take]; omega)
          have em2 : min (mo : Int) (L.length : Int) = (mo : Int) := by omega
          rw [HTK.out] at HFB
          have hct := cut_toH a9 L.length c9 mo (by omega) hc9 hn9
          have HRT : Hid (HRow w3 a9 (L.take mo)) := HR9.out.take mo
          clear hn9 hc9 t1 hml HLL
          go_wp2
          refine wp_region_any (by kernel_rfl) ?_
          change wpAny _ _ _ _ _ #[false, false, false, false, false, false, false, false, false, false, false, false, false, false, false, false, false, false, false, false, false, false] _ (World.drew _)
          refine wpAny_take (i := 0) (v := ?_) rfl (by kernel_rfl) (by kernel_rfl) (by kernel_rfl) (fun _ _ _ h => h) (Or.inl ⟨by rfl, ?_⟩) ?_
          rotate_left
          · intro w
            go_simp
            with_reducible rfl
          change wpAny _ _ _ _ _ _ (Act.put _ (some 41) _) _
          go_frame
          refine wpAny_take (i := 1) (v := ?_) rfl (by kernel_rfl) (by kernel_rfl) (by kernel_rfl) (fun _ _ _ h => h) (Or.inl ⟨by rfl, ?_⟩) ?_
          rotate_left
          · intro w
            go_simp
            with_reducible rfl
          change wpAny _ _ _ _ _ _ (Act.put _ (some 42) _) _
          go_frame
          refine wpAny_take (i := 4) (v := ?_) rfl (by kernel_rfl) (by kernel_rfl) (by kernel_rfl) (fun _ _ _ h => h) (Or.inl ⟨by rfl, ?_⟩) ?_
          rotate_left
          · intro w
            go_simp
            with_reducible rfl
          change wpAny _ _ _ _ _ _ (Act.put _ (some 45) _) _
          go_frame
          refine wpAny_ready (rs := [2]) (by kernel_rfl) (by simp) ?_
          refine AllReady.cons rfl (fun K hK => ?_) AllReady.nil
          go_simp
          refine hK _ _ ?_
          clear hK K
          go_frame
          refine wpAny_ready (rs := [3]) (by kernel_rfl) (by simp) ?_
          refine AllReady.cons rfl (fun K hK => ?_) AllReady.nil
          go_simp
          refine (HFA.out _ HB3d).mono ?_
          rintro e w4 ⟨a4, c4, rfl, hr4, hb4⟩
          have HB4 : Hid (Below w3.heap.size w3 w4) := below_next HB3d hb4 HB3d.size
          have HR4 := Lib.hid hr4
          clear hr4 hb4
          refine hK _ _ ?_
          clear hK K
          go_frame
          refine wpAny_ready (rs := [5]) (by kernel_rfl) (by simp) ?_
          refine AllReady.cons rfl (fun K hK => ?_) AllReady.nil
          go_simp
          refine (samehits_any _ a4 a9 c4 c9 L (by omega) HR4.out (HR9.out.kept HB4.out)).mono ?_
          rintro e w' ⟨rfl, j4, rfl⟩
          have HB5 : Hid (Below w3.heap.size w3 (w4.drewN j4)) := below_drewN HB4.out j4
          have hcv5 := HCV3.out _ HB5.out
          refine hK _ _ ?_
          clear hK K
          go_frame
          refine wpAny_take (i := 6) (v := ?_) rfl (by kernel_rfl) (by kernel_rfl) (by kernel_rfl) (fun _ _ _ h => h) (Or.inl ⟨by rfl, ?_⟩) ?_
          rotate_left
          · intro w
            go_simp
            with_reducible rfl
          change wpAny _ _ _ _ _ _ (Act.put _ (some 47) _) _
          go_frame
          refine wpAny_take (i := 7) (v := ?_) rfl (by kernel_rfl) (by kernel_rfl) (by kernel_rfl) (fun _ _ _ h => h) (Or.inl ⟨by rfl, ?_⟩) ?_
          rotate_left
          · intro w
            go_simp
            with_reducible rfl
          change wpAny _ _ _ _ _ _ (Act.put _ (some 48) _) _
          go_frame
          refine wpAny_take (i := 8) (v := ?_) rfl (by kernel_rfl) (by kernel_rfl) (by kernel_rfl) (fun _ _ _ h => h) (Or.inl ⟨by rfl, ?_⟩) ?_
          rotate_left
          · intro w
            go_simp
            with_reducible rfl
          change wpAny _ _ _ _ _ _ (Act.put _ (some 49) _) _
          go_frame
          refine wpAny_take (i := 10) (v := ?_) rfl (by kernel_rfl) (by kernel_rfl) (by kernel_rfl) (fun _ _ _ h => h) (Or.inl ⟨by rfl, ?_⟩) ?_
          rotate_left
          · intro w
            go_simp
            with_reducible rfl
          change wpAny _ _ _ _ _ _ (Act.put _ (some 51) _) _
          go_frame
          refine wpAny_take (i := 11) (v := ?_) rfl (by kernel_rfl) (by kernel_rfl) (by kernel_rfl) (fun _ _ _ h => h) (Or.inl ⟨by rfl, ?_⟩) ?_
          rotate_left
          · intro w
            go_simp
            with_reducible rfl
          change wpAny _ _ _ _ _ _ (Act.put _ (some 52) _) _
          go_frame
          refine wpAny_take (i := 13) (v := ?_) rfl (by kernel_rfl) (by kernel_rfl) (by kernel_rfl) (fun _ _ _ h => h) (Or.inl ⟨by rfl, ?_⟩) ?_
          rotate_left
          · intro w
            go_simp
            with_reducible rfl
          change wpAny _ _ _ _ _ _ (Act.put _ (some 54) _) _
          go_frame
          refine wpAny_take (i := 14) (v := ?_) rfl (by kernel_rfl) (by kernel_rfl) (by kernel_rfl) (fun _ _ _ h => h) (Or.inl ⟨by rfl, ?_⟩) ?_
          rotate_left
          · intro w
            go_simp
            with_reducible rfl
          change wpAny _ _ _ _ _ _ (Act.put _ (some 55) _) _
          go_frame
          refine wpAny_take (i := 15) (v := ?_) rfl (by kernel_rfl) (by kernel_rfl) (by kernel_rfl) (fun _ _ _ h => h) (Or.inl ⟨by rfl, ?_⟩) ?_
          rotate_left
          · intro w
            go_simp
            with_reducible rfl
          change wpAny _ _ _ _ _ _ (Act.put _ (some 56) _) _
          go_frame
          refine wpAny_ready (rs := [9]) (by kernel_rfl) (by simp) ?_
          refine AllReady.cons rfl (fun K hK => ?_) AllReady.nil
          go_simp
          refine hK _ _ ?_
          clear hK K
          go_frame
          refine wpAny_ready (rs := [12]) (by kernel_rfl) (by simp) ?_
          refine AllReady.cons rfl (fun K hK => ?_) AllReady.nil
          go_simp
          refine (HFB.out _ HB5.out).mono ?_
          rintro e w6 ⟨a6, c6, rfl, hr6, hb6⟩
          have HB6 : Hid (Below w3.heap.size w3 w6) := below_next HB5.out hb6 HB5.out.size
          have HSH := Lib.hid (samehits_any w6 a6 a9 c6 c9 (L.take mo) (by have := HTK.out; omega) hr6 (HRT.out.kept HB6.out))
          rw [HTK.out] at HSH
          clear hr6 hb6
          refine hK _ _ ?_
          clear hK K
          go_frame
          refine wpAny_ready (rs := [16]) (by kernel_rfl) (by simp) ?_
          refine AllReady.cons rfl (fun K hK => ?_) AllReady.nil
          go_simp
          refine HSH.out.mono ?_
          rintro e w' ⟨rfl, j6, rfl⟩
          have HB7 : Hid (Below w3.heap.size w3 (w6.drewN j6)) := below_drewN HB6.out j6
          refine hK _ _ ?_
          clear hK K
          go_frame
          refine wpAny_take (i := 17) (v := ?_) rfl (by kernel_rfl) (by kernel_rfl) (by kernel_rfl) (fun _ _ _ h => h) (Or.inl ⟨by rfl, ?_⟩) ?_
          rotate_left
          · intro w
            go_simp
            with_reducible rfl
          change wpAny _ _ _ _ _ _ (Act.put _ (some 58) _) _
          go_frame
          refine wpAny_take (i := 18) (v := ?_) rfl (by kernel_rfl) (by kernel_rfl) (by kernel_rfl) (fun _ _ _ h => h) (Or.inl ⟨by rfl, ?_⟩) ?_
          rotate_left
          · intro w
            go_simp
            with_reducible rfl
          change wpAny _ _ _ _ _ _ (Act.put _ (some 59) _) _
          go_frame
          refine wpAny_ready (rs := [19]) (by kernel_rfl) (by simp) ?_
          refine AllReady.cons rfl (fun K hK => ?_) AllReady.nil
          go_simp
          refine (awake9_any _ (HM3.out.kept HB7.out)).mono ?_
          rintro e w8 ⟨rfl, hb8⟩
          have HB8 : Hid (Below w3.heap.size w3 w8) := below_next HB7.out hb8 HB7.out.size
          clear hb8
          refine hK _ _ ?_
          clear hK K
          go_frame
          refine wpAny_take (i := 20) (v := ?_) rfl (by kernel_rfl) (by kernel_rfl) (by kernel_rfl) (fun _ _ _ h => h) (Or.inl ⟨by rfl, ?_⟩) ?_
          rotate_left
          · intro w
            go_simp
            with_reducible rfl
          change wpAny _ _ _ _ _ _ (Act.put _ (some 61) _) _
          go_frame
          refine wpAny_take (i := 21) (v := ?_) rfl (by kernel_rfl) (by kernel_rfl) (by kernel_rfl) (fun _ _ _ h => h) (Or.inl ⟨by rfl, ?_⟩) ?_
          rotate_left
          · intro w
            go_simp
            with_reducible rfl
          change wpAny _ _ _ _ _ _ (Act.put _ (some 6) _) _
          go_frame
          refine wpAny_done (by kernel_rfl) ?_ _
          go_wp2
          go_ret
          exact ⟨rfl, below_next HB3.out HB8.out HB3.out.size⟩
        · have t1 : ¬ (mo : Int) ≤ (L.length : Int) := by omega
          have t2 : (L.length : Int) < (mo : Int) := by omega
          have HFB := Lib.hid (fun W (hW : Below w3.heap.size w3 W) => lfind_any W bt x ds (HT3.out.kept hW) HOK.out (HM3.out.kept hW) P HPB.out (by omega) mo (by omega))
          unfold FindLPost at HFB
          rw [HLL.out] at HFB
          have HTK := Lib.hid (show (L.take mo).length = L.length by rw [List.length_take]; omega)
          have em2 : min (mo : Int) (L.length : Int) = (L.length : Int) := by omega
          rw [HTK.out] at HFB
          have hct := cut_toH a9 L.length c9 L.length (by omega) hc9 hn9
          have HRT : Hid (HRow w3 a9 (L.take mo)) := HR9.out.take mo
          clear hn9 hc9 t1 hml HLL
          go_wp2
          refine wp_region_any (by kernel_rfl) ?_
          change wpAny _ _ _ _ _ #[false, false, false, false, false, false, false, false, false, false, false, false, false, false, false, false, false, false, false, false, false, false] _ (World.drew _)
          refine wpAny_take (i := 0) (v := ?_) rfl (by kernel_rfl) (by kernel_rfl) (by kernel_rfl) (fun _ _ _ h => h) (Or.inl ⟨by rfl, ?_⟩) ?_
          rotate_left
          · intro w
            go_simp
            with_reducible rfl
          change wpAny _ _ _ _ _ _ (Act.put _ (some 41) _) _
          go_frame
          refine wpAny_take (i := 1) (v := ?_) rfl (by kernel_rfl) (by kernel_rfl) (by kernel_rfl) (fun _ _ _ h => h) (Or.inl ⟨by rfl, ?_⟩) ?_
          rotate_left
          · intro w
            go_simp
            with_reducible rfl
          change wpAny _ _ _ _ _ _ (Act.put _ (some 42) _) _
          go_frame
          refine wpAny_take (i := 4) (v := ?_) rfl (by kernel_rfl) (by kernel_rfl) (by kernel_rfl) (fun _ _ _ h => h) (Or.inl ⟨by rfl, ?_⟩) ?_
          rotate_left
          · intro w
            go_simp
            with_reducible rfl
          change wpAny _ _ _ _ _ _ (Act.put _ (some 45) _) _
          go_frame
          refine wpAny_ready (rs := [2]) (by kernel_rfl) (by simp) ?_
          refine AllReady.cons rfl (fun K hK => ?_) AllReady.nil
          go_simp
          refine hK _ _ ?_
          clear hK K
          go_frame
          refine wpAny_ready (rs := [3]) (by kernel_rfl) (by simp) ?_
          refine AllReady.cons rfl (fun K hK => ?_) AllReady.nil
          go_simp
          refine (HFA.out _ HB3d).mono ?_
          rintro e w4 ⟨a4, c4, rfl, hr4, hb4⟩
          have HB4 : Hid (Below w3.heap.size w3 w4) := below_next HB3d hb4 HB3d.size
          have HR4 := Lib.hid hr4
          clear hr4 hb4
          refine hK _ _ ?_
          clear hK K
          go_frame
          refine wpAny_ready (rs := [5]) (by kernel_rfl) (by simp) ?_
          refine AllReady.cons rfl (fun K hK => ?_) AllReady.nil
          go_simp
          refine (samehits_any _ a4 a9 c4 c9 L (by omega) HR4.out (HR9.out.kept HB4.out)).mono ?_
          rintro e w' ⟨rfl, j4, rfl⟩
          have HB5 : Hid (Below w3.heap.size w3 (w4.drewN j4)) := below_drewN HB4.out j4
          have hcv5 := HCV3.out _ HB5.out
          refine hK _ _ ?_
          clear hK K
          go_frame
          refine wpAny_take (i := 6) (v := ?_) rfl (by kernel_rfl) (by kernel_rfl) (by kernel_rfl) (fun _ _ _ h => h) (Or.inl ⟨by rfl, ?_⟩) ?_
          rotate_left
          · intro w
            go_simp
            with_reducible rfl
          change wpAny _ _ _ _ _ _ (Act.put _ (some 47) _) _
          go_frame
          refine wpAny_take (i := 7) (v := ?_) rfl (by kernel_rfl) (by kernel_rfl) (by kernel_rfl) (fun _ _ _ h => h) (Or.inl ⟨by rfl, ?_⟩) ?_
          rotate_left
          · intro w
            go_simp
            with_reducible rfl
          change wpAny _ _ _ _ _ _ (Act.put _ (some 48) _) _
          go_frame
          refine wpAny_take (i := 8) (v := ?_) rfl (by kernel_rfl) (by kernel_rfl) (by kernel_rfl) (fun _ _ _ h => h) (Or.inl ⟨by rfl, ?_⟩) ?_
          rotate_left
          · intro w
            go_simp
            with_reducible rfl
          change wpAny _ _ _ _ _ _ (Act.put _ (some 49) _) _
          go_frame
          refine wpAny_take (i := 10) (v := ?_) rfl (by kernel_rfl) (by kernel_rfl) (by kernel_rfl) (fun _ _ _ h => h) (Or.inl ⟨by rfl, ?_⟩) ?_
          rotate_left
          · intro w
            go_simp
            with_reducible rfl
          change wpAny _ _ _ _ _ _ (Act.put _ (some 51) _) _
          go_frame
          refine wpAny_take (i := 11) (v := ?_) rfl (by kernel_rfl) (by kernel_rfl) (by kernel_rfl) (fun _ _ _ h => h) (Or.inl ⟨by rfl, ?_⟩) ?_
          rotate_left
          · intro w
            go_simp
            with_reducible rfl
          change wpAny _ _ _ _ _ _ (Act.put _ (some 52) _) _
          go_frame
          refine wpAny_take (i := 13) (v := ?_) rfl (by kernel_rfl) (by kernel_rfl) (by kernel_rfl) (fun _ _ _ h => h) (Or.inl ⟨by rfl, ?_⟩) ?_
          rotate_left
          · intro w
            go_simp
            with_reducible rfl
          change wpAny _ _ _ _ _ _ (Act.put _ (some 54) _) _
          go_frame
          refine wpAny_take (i := 14) (v := ?_) rfl (by kernel_rfl) (by kernel_rfl) (by kernel_rfl) (fun _ _ _ h => h) (Or.inl ⟨by rfl, ?_⟩) ?_
          rotate_left
          · intro w
            go_simp
            with_reducible rfl
          change wpAny _ _ _ _ _ _ (Act.put _ (some 55) _) _
          go_frame
          refine wpAny_take (i := 15) (v := ?_) rfl (by kernel_rfl) (by kernel_rfl) (by kernel_rfl) (fun _ _ _ h => h) (Or.inl ⟨by rfl, ?_⟩) ?_
          rotate_left
          · intro w
            go_simp
            with_reducible rfl
          change wpAny _ _ _ _ _ _ (Act.put _ (some 56) _) _
          go_frame
          refine wpAny_ready (rs := [9]) (by kernel_rfl) (by simp) ?_
          refine AllReady.cons rfl (fun K hK => ?_) AllReady.nil
          go_simp
          refine hK _ _ ?_
          clear hK K
          go_frame
          refine wpAny_ready (rs := [12]) (by kernel_rfl) (by simp) ?_
          refine AllReady.cons rfl (fun K hK => ?_) AllReady.nil
          go_simp
          refine (HFB.out _ HB5.out).mono ?_
          rintro e w6 ⟨a6, c6, rfl, hr6, hb6⟩
          have HB6 : Hid (Below w3.heap.size w3 w6) := below_next HB5.out hb6 HB5.out.size
          have HSH := Lib.hid (samehits_any w6 a6 a9 c6 c9 (L.take mo) (by have := HTK.out; omega) hr6 (HRT.out.kept HB6.out))
          rw [HTK.out] at HSH
          clear hr6 hb6
          refine hK _ _ ?_
          clear hK K
          go_frame
          refine wpAny_ready (rs := [16]) (by kernel_rfl) (by simp) ?_
          refine AllReady.cons rfl (fun K hK => ?_) AllReady.nil
          go_simp
          refine HSH.out.mono ?_
          rintro e w' ⟨rfl, j6, rfl⟩
          have HB7 : Hid (Below w3.heap.size w3 (w6.drewN j6)) := below_drewN HB6.out j6
          refine hK _ _ ?_
          clear hK K
          go_frame
          refine wpAny_take (i := 17) (v := ?_) rfl (by kernel_rfl) (by kernel_rfl) (by kernel_rfl) (fun _ _ _ h => h) (Or.inl ⟨by rfl, ?_⟩) ?_
          rotate_left
          · intro w
            go_simp
            with_reducible rfl
          change wpAny _ _ _ _ _ _ (Act.put _ (some 58) _) _
          go_frame
          refine wpAny_take (i := 18) (v := ?_) rfl (by kernel_rfl) (by kernel_rfl) (by kernel_rfl) (fun _ _ _ h => h) (Or.inl ⟨by rfl, ?_⟩) ?_
          rotate_left
          · intro w
            go_simp
            with_reducible rfl
          change wpAny _ _ _ _ _ _ (Act.put _ (some 59) _) _
          go_frame
          refine wpAny_ready (rs := [19]) (by kernel_rfl) (by simp) ?_
          refine AllReady.cons rfl (fun K hK => ?_) AllReady.nil
          go_simp
          refine (awake9_any _ (HM3.out.kept HB7.out)).mono ?_
          rintro e w8 ⟨rfl, hb8⟩
          have HB8 : Hid (Below w3.heap.size w3 w8) := below_next HB7.out hb8 HB7.out.size
          clear hb8
          refine hK _ _ ?_
          clear hK K
          go_frame
          refine wpAny_take (i := 20) (v := ?_) rfl (by kernel_rfl) (by kernel_rfl) (by kernel_rfl) (fun _ _ _ h => h) (Or.inl ⟨by rfl, ?_⟩) ?_
          rotate_left
          · intro w
            go_simp
            with_reducible rfl
          change wpAny _ _ _ _ _ _ (Act.put _ (some 61) _) _
          go_frame
          refine wpAny_take (i := 21) (v := ?_) rfl (by kernel_rfl) (by kernel_rfl) (by kernel_rfl) (fun _ _ _ h => h) (Or.inl ⟨by rfl, ?_⟩) ?_
          rotate_left
          · intro w
            go_simp
            with_reducible rfl
          change wpAny _ _ _ _ _ _ (Act.put _ (some 6) _) _
          go_frame
          refine wpAny_done (by kernel_rfl) ?_ _
          go_wp2
          go_ret
          exact ⟨rfl, below_next HB3.out HB8.out HB3.out.size⟩
end Go.Proofs.Ytehgpggkicoddaa
