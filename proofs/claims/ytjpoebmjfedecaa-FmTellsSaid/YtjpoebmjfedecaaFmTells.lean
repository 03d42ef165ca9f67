/-
  The statement FmTells: its walk.
-/
import Derived.Test.YtjpoebmjfedecaaFmAskPut
import Derived.Test.YtjpoebmjfedecaaFmAwake
import Derived.Test.YtjpoebmjfedecaaRefSame
import Derived.Test.YtjpoebmjfedecaaRefBwt
import Derived.Test.YtjpoebmjfedecaaRefStarts
import Derived.Deep.CutBlock
import Derived.Maps.RangeWalk
namespace Go.Proofs.Ytjpoebmjfedecaa
open Go.RowKit

/-- what Get tells, as a text -/
def GetS (dl : Nat) (ib : Bool) (wv : ByteArray) (W : World) (e : Ending) (w' : World) : Prop :=
  ∃ a, e = .returned (.tuple #[.slice a dl dl, .bool ib]) ∧ (∀ W', Below w'.heap.size w' W' → (convert 22 9 (.slice a dl dl)).run Try.prog W' = .ok (.string wv) W') ∧ Below W.heap.size W w'
theorem get_S (w : World) (bf : Nat) (ds : List (List Nat)) (hok : NewOk ds) (h : FmAt w bf ds) (doc : Int) :
    Calls Try.prog 35 #[.pointer (some ⟨bf, 0, none⟩), .int .i64 doc] w (GetS (whL ds doc).length (decide (0 ≤ doc ∧ doc < (ds.length : Int))) (sB (whL ds doc)) w) :=
  (fget_all w bf ds hok h doc).mono fun _ _ ⟨a, he, hr, hb⟩ => ⟨a, he, fun W' hW => conv_str W' a _ _ (hr.kept hW), hb⟩
theorem piece_S (w : World) (bf : Nat) (ds : List (List Nat)) (hok : NewOk ds) (h : FmAt w bf ds) (doc k m : Int) (hk : (Lit.int .i64 k).wf = true) (hm : (Lit.int .i64 m).wf = true) :
    Calls Try.prog 29 #[.pointer (some ⟨bf, 0, none⟩), .int .i64 doc, .int .i64 k, .int .i64 m] w (GetS (pcL ds doc k m).length (decide (0 ≤ doc ∧ doc < (ds.length : Int) ∧ 0 ≤ k ∧ 0 ≤ m)) (sB (pcL ds doc k m)) w) :=
  (fpiece_all w bf ds hok h doc k m hk hm).mono fun _ _ ⟨a, he, hr, hb⟩ => ⟨a, he, fun W' hW => conv_str W' a _ _ (hr.kept hW), hb⟩
theorem sB_nil : sB [] = ⟨#[]⟩ := by unfold sB; rfl
set_option maxRecDepth 100000 in
set_option maxHeartbeats 4000000 in
theorem fmtells_a (w : World) (a : Option Addr) (cap : Nat) (A : Nat → Option Addr) (C : Nat → Nat) (ds : List (List Nat)) (hin : DocsIn w a A C ds) (a1 : Option Addr) (len cap1 : Nat) (f : Nat → Int) (hl : len ≤ maxLen) (hr : Row w a1 len (fun k => .int .u8 (f k)) ∧ ∀ k, k < len → (Lit.int .u8 (f k)).wf = true) (doc : Int) (_ : (Lit.int .i64 doc).wf = true) (at' : Int) (hat' : (Lit.int .i64 at').wf = true) (n : Int) (hn : (Lit.int .i64 n).wf = true) (most : Int) (_ : (Lit.int .i64 most).wf = true) (hH : doc < 0) :
    Calls Try.prog 9 #[.slice a ds.length cap, .slice a1 len cap1, .int .i64 doc, .int .i64 at', .int .i64 n, .int .i64 most] w fun e w' => e = .returned (.bool true) ∧ Below w.heap.size w w' := by
  obtain ⟨P, hd, hdr, hpb⟩ := bytes_list hr
  subst hd
  unfold maxLen at hl
  have HF := Lib.hid (few_any w a cap A C ds hin.many hin.docs hin.long)
  have HIN := Lib.hid hin
  have HP := Lib.hid hdr
  have HPB := Lib.hid hpb
  have em : bits .and .i64 most 15 = most % 16 := i64_mask most 4 (by omega)
  obtain ⟨mo, hmo, hmo2⟩ : ∃ mo : Nat, most % 16 = mo ∧ mo ≤ 15 := ⟨(most % 16).toNat, by omega, by omega⟩
  rw [hmo] at em
  clear hin hr hdr hpb hmo
  go_enter Try.func9, Try.ntmps9
  go_wp2_with fail
  refine HF.out.mono ?_
  rintro e w' ⟨b, rfl, hfew, rfl⟩
  cases b with
  | false =>
    clear hfew
    go_wp2_with (go_at_call 28; refine (awake14_any _).mono ?_; rintro e w1 ⟨rfl, hb⟩)
    go_ret
    exact ⟨rfl, hb⟩
  | true =>
    obtain ⟨hf1, hf2, hf3⟩ := hfew rfl
    have HFEW := Lib.hid (FewP.mk hf1 hf2 hf3 HIN.out.byte)
    have HOK := Lib.hid HFEW.out.ok
    clear hfew hf2 HF
    by_cases hp : (200 : Int) < (P.length : Int)
    · go_wp2_with (go_at_call 28; refine (awake14_any _).mono ?_; rintro e w1 ⟨rfl, hb⟩)
      go_ret
      exact ⟨rfl, hb⟩
    · have hpd : decide ((200 : Int) < (P.length : Int)) = false := by simp; omega
      have hpd2 : decide (200 < P.length) = false := by simp; omega
      have hp2 : P.length ≤ 200 := by omega
      clear hp hl
      have HSTR := Lib.hid (strings_any w a cap A C ds (by omega) HIN.out.docs)
      go_wp2_with fail
      refine HSTR.out.mono ?_
      rintro e w1 ⟨ax, cx, rfl, hrs, hb1⟩
      have HS1 := Lib.hid hrs
      have HB1 := Lib.hid hb1
      have HNW := Lib.hid (fnew_any w1 a cap A C ds (HIN.out.docs.kept hb1) HOK.out)
      clear hrs hb1 HSTR hpd hpd2
      go_wp2_with fail
      refine HNW.out.mono ?_
      rintro e w2 ⟨bf, rfl, hf, hb2, -⟩
      have HF2 := Lib.hid hf
      have HB2 : Hid (Below w.heap.size w w2) := below_next HB1.out hb2 HB1.out.size
      have HS2 := Lib.hid (HS1.out.kept hb2)
      have hrl := rows_len ds
      have HDN := Lib.hid (fdocs_any w2 bf ds HF2.out)
      have HLN0 := flen_any w2 bf ds HF2.out
      rw [bwtOf_len] at HLN0
      have HLN := Lib.hid HLN0
      clear HLN0
      have HRL := Lib.hid (reflen_any w2 ax cx ds HS2.out (by omega))
      have HP2 := Lib.hid (HP.out.kept HB2.out)
      have hcv := conv_str w2 a1 P cap1 HP2.out
      have HFD := Lib.hid (reffind_all w2 ax cx ds HS2.out HFEW.out.byte (by omega) P HPB.out (by omega))
      clear hf hb2 HS1 HB1 HNW
      go_wp2_with (first
        | (go_at_call 30; refine HDN.out.mono ?_; rintro e w' ⟨rfl, rfl⟩)
        | (go_at_call 31; refine HLN.out.mono ?_; rintro e w' ⟨rfl, rfl⟩)
        | (go_at_call 32; refine HRL.out.mono ?_; rintro e w' ⟨rfl, rfl⟩)
        | fail)
      refine HFD.out.mono ?_
      rintro e w4 ⟨a9, c9, rfl, hr9, hb4, hc9, hn9⟩
      have HR9 := Lib.hid hr9
      have HF4 := Lib.hid (HF2.out.kept hb4)
      have HB4 : Hid (Below w.heap.size w w4) := below_next HB2.out hb4 HB2.out.size
      have HS4 := Lib.hid (HS2.out.kept hb4)
      have HP4 := Lib.hid (HP2.out.kept hb4)
      have hlen : (locL ds P).length ≤ 60000 := by
        unfold locL
        split
        · exact Nat.zero_le _
        · rw [hitL_len ds P _ _ (bkR_is ds HOK.out.byte P)]
          have h1 := (bkR_is ds HOK.out.byte P).len
          have h2 := rows_len ds
          have h3 := HOK.out.all
          omega
      have HFA := Lib.hid (fun W (hW : Below w4.heap.size w4 W) => fhits_any W bf ds (HF4.out.kept hW) HOK.out P HPB.out (by omega) 100000 (by omega))
      unfold FHitsPost at HFA
      rw [List.take_of_length_le (show (locL ds P).length ≤ 100000 by omega)] at HFA
      simp only [Int.cast_ofNat_Int] at HFA
      have HCV4 : Hid (∀ W, Below w4.heap.size w4 W → (convert 22 9 (.slice a1 P.length cap1)).run Try.prog W = .ok (.string (sB P)) W) := fun W hW => conv_str W a1 P cap1 (HP4.out.kept hW)
      have HB4d : Below w4.heap.size w4 w4.drew := (Below.refl _ _).drew
      have HCT := Lib.hid (fcount_all w4.drew bf ds HOK.out (HF4.out.kept HB4d) a1 cap1 P (by omega) HPB.out (HP4.out.kept HB4d))
      clear hr9 hb4 HDN HLN HRL HFD HS2 HF2 HP2 HB2 hcv
      generalize hL : locL ds P = L at *
      have HLL := Lib.hid hL
      clear hL
      obtain ⟨kk, hkk⟩ : ∃ kk, kk = min mo L.length := ⟨_, rfl⟩
      have HFB := Lib.hid (fun W (hW : Below w4.heap.size w4 W) => fhits_any W bf ds (HF4.out.kept hW) HOK.out P HPB.out (by omega) mo (by omega))
      unfold FHitsPost at HFB
      rw [HLL.out] at HFB
      have HTK := Lib.hid (show (L.take mo).length = kk by rw [List.length_take]; omega)
      have em2 : min (mo : Int) (L.length : Int) = (kk : Int) := by omega
      rw [HTK.out] at HFB
      have hct := cut_toH a9 L.length c9 kk (by omega) hc9 hn9
      have HRT : Hid (HRow w4 a9 (L.take mo)) := HR9.out.take mo
      have hcv4 := HCV4.out _ HB4d
      clear hn9 hc9 hkk HLL
      go_upto_region 9 with fail
      go_wp2_with fail
      have hcv4 := HCV4.out _ HB4d
      go_wp2_with fail
      refine wp_region_any (by kernel_rfl) ?_
      change wpAny _ _ _ _ _ #[false, false, false, false, false, false, false, false, false, false, false, false, false, false, false, false, false, false, false, false, false, false, false, false, false, false, false, false] _ (World.drew _)
      refine wpAny_take (i := 0) (v := ?_) rfl (by kernel_rfl) (by kernel_rfl) (by kernel_rfl) (fun _ _ _ h => h) (Or.inl ⟨by rfl, ?_⟩) ?_
      rotate_left
      · intro w
        go_simp
        with_reducible rfl
      change wpAny _ _ _ _ _ _ (Act.put _ (some 75) _) _
      go_frame
      refine wpAny_take (i := 1) (v := ?_) rfl (by kernel_rfl) (by kernel_rfl) (by kernel_rfl) (fun _ _ _ h => h) (Or.inl ⟨by rfl, ?_⟩) ?_
      rotate_left
      · intro w
        go_simp
        with_reducible rfl
      change wpAny _ _ _ _ _ _ (Act.put _ (some 76) _) _
      go_frame
      refine wpAny_take (i := 3) (v := ?_) rfl (by kernel_rfl) (by kernel_rfl) (by kernel_rfl) (fun _ _ _ h => h) (Or.inl ⟨by rfl, ?_⟩) ?_
      rotate_left
      · intro w
        go_simp
        with_reducible rfl
      change wpAny _ _ _ _ _ _ (Act.put _ (some 78) _) _
      go_frame
      refine wpAny_take (i := 4) (v := ?_) rfl (by kernel_rfl) (by kernel_rfl) (by kernel_rfl) (fun _ _ _ h => h) (Or.inl ⟨by rfl, ?_⟩) ?_
      rotate_left
      · intro w
        go_simp
        with_reducible rfl
      change wpAny _ _ _ _ _ _ (Act.put _ (some 79) _) _
      go_frame
      refine wpAny_ready (rs := [2]) (by kernel_rfl) (by simp) ?_
      refine AllReady.cons rfl (fun K hK => ?_) AllReady.nil
      go_simp
      refine HCT.out.mono ?_
      rintro e w5 ⟨rfl, hb5⟩
      have HB5 : Hid (Below w4.heap.size w4 w5) := below_next HB4d hb5 HB4d.size
      have hcv5 := HCV4.out _ HB5.out
      clear hb5 hcv4 HCT
      refine hK _ _ ?_
      clear hK K
      go_frame
      refine wpAny_take (i := 5) (v := ?_) rfl (by kernel_rfl) (by kernel_rfl) (by kernel_rfl) (fun _ _ _ h => h) (Or.inl ⟨by rfl, ?_⟩) ?_
      rotate_left
      · intro w
        go_simp
        with_reducible rfl
      change wpAny _ _ _ _ _ _ (Act.put _ (some 80) _) _
      go_frame
      refine wpAny_take (i := 6) (v := ?_) rfl (by kernel_rfl) (by kernel_rfl) (by kernel_rfl) (fun _ _ _ h => h) (Or.inl ⟨by rfl, ?_⟩) ?_
      rotate_left
      · intro w
        go_simp
        with_reducible rfl
      change wpAny _ _ _ _ _ _ (Act.put _ (some 81) _) _
      go_frame
      refine wpAny_take (i := 7) (v := ?_) rfl (by kernel_rfl) (by kernel_rfl) (by kernel_rfl) (fun _ _ _ h => h) (Or.inl ⟨by rfl, ?_⟩) ?_
      rotate_left
      · intro w
        go_simp
        with_reducible rfl
      change wpAny _ _ _ _ _ _ (Act.put _ (some 82) _) _
      go_frame
      refine wpAny_take (i := 8) (v := ?_) rfl (by kernel_rfl) (by kernel_rfl) (by kernel_rfl) (fun _ _ _ h => h) (Or.inl ⟨by rfl, ?_⟩) ?_
      rotate_left
      · intro w
        go_simp
        with_reducible rfl
      change wpAny _ _ _ _ _ _ (Act.put _ (some 83) _) _
      go_frame
      refine wpAny_take (i := 11) (v := ?_) rfl (by kernel_rfl) (by kernel_rfl) (by kernel_rfl) (fun _ _ _ h => h) (Or.inl ⟨by rfl, ?_⟩) ?_
      rotate_left
      · intro w
        go_simp
        with_reducible rfl
      change wpAny _ _ _ _ _ _ (Act.put _ (some 86) _) _
      go_frame
      refine wpAny_ready (rs := [9]) (by kernel_rfl) (by simp) ?_
      refine AllReady.cons rfl (fun K hK => ?_) AllReady.nil
      go_simp
      refine hK _ _ ?_
      clear hK K
      go_frame
      refine wpAny_ready (rs := [10]) (by kernel_rfl) (by simp) ?_
      refine AllReady.cons rfl (fun K hK => ?_) AllReady.nil
      go_simp
      refine (HFA.out _ HB5.out).mono ?_
      rintro e w6 ⟨a6, c6, rfl, hr6, hb6⟩
      have HB6 : Hid (Below w4.heap.size w4 w6) := below_next HB5.out hb6 HB5.out.size
      have HR6 := Lib.hid hr6
      clear hr6 hb6
      refine hK _ _ ?_
      clear hK K
      go_frame
      refine wpAny_ready (rs := [12]) (by kernel_rfl) (by simp) ?_
      refine AllReady.cons rfl (fun K hK => ?_) AllReady.nil
      go_simp
      refine (samehits_any _ a6 a9 c6 c9 L (by omega) HR6.out (HR9.out.kept HB6.out)).mono ?_
      rintro e w' ⟨rfl, j6, rfl⟩
      have HB7 : Hid (Below w4.heap.size w4 (w6.drewN j6)) := below_drewN HB6.out j6
      have hcv7 := HCV4.out _ HB7.out
      refine hK _ _ ?_
      clear hK K
      go_frame
      refine wpAny_take (i := 13) (v := ?_) rfl (by kernel_rfl) (by kernel_rfl) (by kernel_rfl) (fun _ _ _ h => h) (Or.inl ⟨by rfl, ?_⟩) ?_
      rotate_left
      · intro w
        go_simp
        with_reducible rfl
      change wpAny _ _ _ _ _ _ (Act.put _ (some 88) _) _
      go_frame
      refine wpAny_take (i := 14) (v := ?_) rfl (by kernel_rfl) (by kernel_rfl) (by kernel_rfl) (fun _ _ _ h => h) (Or.inl ⟨by rfl, ?_⟩) ?_
      rotate_left
      · intro w
        go_simp
        with_reducible rfl
      change wpAny _ _ _ _ _ _ (Act.put _ (some 89) _) _
      go_frame
      refine wpAny_take (i := 15) (v := ?_) rfl (by kernel_rfl) (by kernel_rfl) (by kernel_rfl) (fun _ _ _ h => h) (Or.inl ⟨by rfl, ?_⟩) ?_
      rotate_left
      · intro w
        go_simp
        with_reducible rfl
      change wpAny _ _ _ _ _ _ (Act.put _ (some 90) _) _
      go_frame
      refine wpAny_take (i := 16) (v := ?_) rfl (by kernel_rfl) (by kernel_rfl) (by kernel_rfl) (fun _ _ _ h => h) (Or.inl ⟨by rfl, ?_⟩) ?_
      rotate_left
      · intro w
        go_simp
        with_reducible rfl
      change wpAny _ _ _ _ _ _ (Act.put _ (some 91) _) _
      go_frame
      refine wpAny_take (i := 17) (v := ?_) rfl (by kernel_rfl) (by kernel_rfl) (by kernel_rfl) (fun _ _ _ h => h) (Or.inl ⟨by rfl, ?_⟩) ?_
      rotate_left
      · intro w
        go_simp
        with_reducible rfl
      change wpAny _ _ _ _ _ _ (Act.put _ (some 92) _) _
      go_frame
      refine wpAny_take (i := 19) (v := ?_) rfl (by kernel_rfl) (by kernel_rfl) (by kernel_rfl) (fun _ _ _ h => h) (Or.inl ⟨by rfl, ?_⟩) ?_
      rotate_left
      · intro w
        go_simp
        with_reducible rfl
      change wpAny _ _ _ _ _ _ (Act.put _ (some 94) _) _
      go_frame
      refine wpAny_take (i := 20) (v := ?_) rfl (by kernel_rfl) (by kernel_rfl) (by kernel_rfl) (fun _ _ _ h => h) (Or.inl ⟨by rfl, ?_⟩) ?_
      rotate_left
      · intro w
        go_simp
        with_reducible rfl
      change wpAny _ _ _ _ _ _ (Act.put _ (some 95) _) _
      go_frame
      refine wpAny_take (i := 22) (v := ?_) rfl (by kernel_rfl) (by kernel_rfl) (by kernel_rfl) (fun _ _ _ h => h) (Or.inl ⟨by rfl, ?_⟩) ?_
      rotate_left
      · intro w
        go_simp
        with_reducible rfl
      change wpAny _ _ _ _ _ _ (Act.put _ (some 97) _) _
      go_frame
      refine wpAny_take (i := 23) (v := ?_) rfl (by kernel_rfl) (by kernel_rfl) (by kernel_rfl) (fun _ _ _ h => h) (Or.inl ⟨by rfl, ?_⟩) ?_
      rotate_left
      · intro w
        go_simp
        with_reducible rfl
      change wpAny _ _ _ _ _ _ (Act.put _ (some 98) _) _
      go_frame
      refine wpAny_take (i := 24) (v := ?_) rfl (by kernel_rfl) (by kernel_rfl) (by kernel_rfl) (fun _ _ _ h => h) (Or.inl ⟨by rfl, ?_⟩) ?_
      rotate_left
      · intro w
        go_simp
        with_reducible rfl
      change wpAny _ _ _ _ _ _ (Act.put _ (some 99) _) _
      go_frame
      refine wpAny_ready (rs := [18]) (by kernel_rfl) (by simp) ?_
      refine AllReady.cons rfl (fun K hK => ?_) AllReady.nil
      go_simp
      refine hK _ _ ?_
      clear hK K
      go_frame
      refine wpAny_ready (rs := [21]) (by kernel_rfl) (by simp) ?_
      refine AllReady.cons rfl (fun K hK => ?_) AllReady.nil
      go_simp
      refine (HFB.out _ HB7.out).mono ?_
      rintro e w8 ⟨a8, c8, rfl, hr8, hb8⟩
      have HB8 : Hid (Below w4.heap.size w4 w8) := below_next HB7.out hb8 HB7.out.size
      have HSH := Lib.hid (samehits_any w8 a8 a9 c8 c9 (L.take mo) (by have := HTK.out; omega) hr8 (HRT.out.kept HB8.out))
      rw [HTK.out] at HSH
      clear hr8 hb8
      refine hK _ _ ?_
      clear hK K
      go_frame
      refine wpAny_ready (rs := [25]) (by kernel_rfl) (by simp) ?_
      refine AllReady.cons rfl (fun K hK => ?_) AllReady.nil
      go_simp
      refine HSH.out.mono ?_
      rintro e w' ⟨rfl, j8, rfl⟩
      have HB9 : Hid (Below w4.heap.size w4 (w8.drewN j8)) := below_drewN HB8.out j8
      refine hK _ _ ?_
      clear hK K
      go_frame
      refine wpAny_take (i := 26) (v := ?_) rfl (by kernel_rfl) (by kernel_rfl) (by kernel_rfl) (fun _ _ _ h => h) (Or.inl ⟨by rfl, ?_⟩) ?_
      rotate_left
      · intro w
        go_simp
        with_reducible rfl
      change wpAny _ _ _ _ _ _ (Act.put _ (some 101) _) _
      go_frame
      refine wpAny_take (i := 27) (v := ?_) rfl (by kernel_rfl) (by kernel_rfl) (by kernel_rfl) (fun _ _ _ h => h) (Or.inl ⟨by rfl, ?_⟩) ?_
      rotate_left
      · intro w
        go_simp
        with_reducible rfl
      change wpAny _ _ _ _ _ _ (Act.put _ (some 102) _) _
      go_frame
      refine wpAny_done (by kernel_rfl) ?_ _
      have t1 : decide (0 ≤ doc) = false := by simp; omega
      have HGS := Lib.hid (fun W (hW : Below w4.heap.size w4 W) => get_S W bf ds HOK.out (HF4.out.kept hW) doc)
      have HPS := Lib.hid (fun W (hW : Below w4.heap.size w4 W) => piece_S W bf ds HOK.out (HF4.out.kept hW) doc at' n hat' hn)
      rw [show whL ds doc = [] from if_neg (by omega), sB_nil, List.length_nil, decide_eq_false (p := 0 ≤ doc ∧ doc < (ds.length : Int)) (by omega)] at HGS
      rw [show pcL ds doc at' n = [] from if_neg (by omega), sB_nil, List.length_nil, decide_eq_false (p := 0 ≤ doc ∧ doc < (ds.length : Int) ∧ 0 ≤ at' ∧ 0 ≤ n) (by omega)] at HPS
      have HD1E := fun W (hW : Below w4.heap.size w4 W) => fdocsL_any W bf ds (HF4.out.kept hW) HOK.out 1000 (by omega)
      unfold FDocsPost at HD1E
      rw [show min 1000 ds.length = ds.length by omega] at HD1E
      simp only [Int.cast_ofNat_Int] at HD1E
      have HD1 := Lib.hid HD1E
      have HD2E := fun W (hW : Below w4.heap.size w4 W) => fdocsL_any W bf ds (HF4.out.kept hW) HOK.out 2 (by omega)
      unfold FDocsPost at HD2E
      obtain ⟨mm, hmm⟩ : ∃ mm, mm = min 2 ds.length := ⟨_, rfl⟩
      rw [← hmm] at HD2E
      simp only [Int.cast_ofNat_Int] at HD2E
      have HD2 := Lib.hid HD2E
      have em3 : min (2 : Int) (ds.length : Int) = (mm : Int) := by omega
      clear HD1E HD2E hmm hcv5 hcv7 HFA HFB HSH HCV4 HB4d em em2 hct HRT HTK HR9 HR6 HB5 HB6 HB7 HB8 hlen
      go_wp2_with fail
      refine (HGS.out _ (by first | exact HB9.out | exact HB9.out.drew | exact below_drewN HB9.out _)).mono ?_
      rintro e w10 ⟨a10, rfl, hcv10, hb10⟩
      have HB10 : Hid (Below w4.heap.size w4 w10) := by
        show Below _ _ _
        first
          | exact below_next HB9.out hb10 HB9.out.size
          | exact below_next HB9.out.drew hb10 HB9.out.drew.size
          | exact below_next (below_drewN HB9.out _) hb10 (below_drewN HB9.out _).size
      have HCV10 := Lib.hid hcv10
      clear hcv10 hb10 HB9
      go_wp2_with fail
      refine (HPS.out _ HB10.out).mono ?_
      rintro e w11 ⟨a11, rfl, hcv11, hb11⟩
      have HB11 : Hid (Below w4.heap.size w4 w11) := below_next HB10.out hb11 HB10.out.size
      have hc20 := HCV10.out _ hb11
      have hc21 := hcv11 _ (Below.refl _ _)
      clear hcv11 hb11 HCV10 HB10 HGS HPS
      go_wp2_with fail
      refine (HD1.out _ HB11.out).mono ?_
      rintro e w12 ⟨a12, c12, rfl, hr12, hb12⟩
      have HB12 : Hid (Below w4.heap.size w4 w12) := below_next HB11.out hb12 HB11.out.size
      have HR12 := Lib.hid hr12
      clear hr12 hb12 HB11 HD1 hc20 hc21
      go_wp2_with fail
      refine (HD2.out _ HB12.out).mono ?_
      rintro e w13 ⟨a13, c13, rfl, hr13, hb13⟩
      have HB13 : Hid (Below w4.heap.size w4 w13) := below_next HB12.out hb13 HB12.out.size
      have hst := sametexts_any w13 a12 ax c12 cx ds ds (by omega) HFEW.out.byte HFEW.out.byte (HR12.out.kept hb13) (HS4.out.kept HB13.out)
      rw [decide_eq_true rfl] at hst
      have HST := Lib.hid hst
      clear hr13 hb13 HB12 HR12 HD2 hst
      go_wp2_with fail
      refine HST.out.mono ?_
      rintro e w' ⟨rfl, j13, rfl⟩
      have HB14 : Hid (Below w4.heap.size w4 (w13.drewN j13)) := below_drewN HB13.out j13
      have HSY := Lib.hid (fsyms_any _ bf ds (HF4.out.kept HB14.out))
      clear HST
      go_wp2_with fail
      refine HSY.out.mono ?_
      rintro e w15 ⟨a15, rfl, hr15, hb15⟩
      have HB15 : Hid (Below w4.heap.size w4 w15) := below_next HB14.out hb15 HB14.out.size
      have HR15 := Lib.hid hr15
      have HRB := Lib.hid (refbwt_any w15 ax cx ds (HS4.out.kept HB15.out) HFEW.out.byte (by omega))
      clear hr15 hb15 HSY
      go_wp2_with fail
      refine HRB.out.mono ?_
      rintro e w16 ⟨a16, c16, rfl, ho16, hb16⟩
      have HB16 : Hid (Below w4.heap.size w4 w16) := below_next HB15.out hb16 HB15.out.size
      have hss := samesyms_any w16 a15 a16 (bwtOf ds).length c16 (bwtOf ds) (bwtOf ds) (by rw [bwtOf_len]; omega) (by rw [bwtOf_len]; omega) (HR15.out.kept hb16) (symVs_row ho16)
      rw [decide_eq_true rfl] at hss
      have HSS := Lib.hid hss
      clear ho16 hb16 HRB hss
      go_wp2_with fail
      refine HSS.out.mono ?_
      rintro e w' ⟨rfl, j16, rfl⟩
      have HB17 : Hid (Below w4.heap.size w4 (w16.drewN j16)) := below_drewN HB16.out j16
      clear HSS
      go_wp2_with (go_at_call 28; refine (awake14_any _).mono ?_; rintro e w18 ⟨rfl, hb18⟩)
      go_ret
      exact ⟨rfl, below_next HB4.out (below_next HB17.out hb18 HB17.out.size) HB4.out.size⟩
set_option maxRecDepth 100000 in
set_option maxHeartbeats 4000000 in
theorem fmtells_b (w : World) (a : Option Addr) (cap : Nat) (A : Nat → Option Addr) (C : Nat → Nat) (ds : List (List Nat)) (hin : DocsIn w a A C ds) (a1 : Option Addr) (len cap1 : Nat) (f : Nat → Int) (hl : len ≤ maxLen) (hr : Row w a1 len (fun k => .int .u8 (f k)) ∧ ∀ k, k < len → (Lit.int .u8 (f k)).wf = true) (doc : Int) (_ : (Lit.int .i64 doc).wf = true) (at' : Int) (hat' : (Lit.int .i64 at').wf = true) (n : Int) (hn : (Lit.int .i64 n).wf = true) (most : Int) (_ : (Lit.int .i64 most).wf = true) (hH : (ds.length : Int) ≤ doc) :
    Calls Try.prog 9 #[.slice a ds.length cap, .slice a1 len cap1, .int .i64 doc, .int .i64 at', .int .i64 n, .int .i64 most] w fun e w' => e = .returned (.bool true) ∧ Below w.heap.size w w' := by
  obtain ⟨P, hd, hdr, hpb⟩ := bytes_list hr
  subst hd
  unfold maxLen at hl
  have HF := Lib.hid (few_any w a cap A C ds hin.many hin.docs hin.long)
  have HIN := Lib.hid hin
  have HP := Lib.hid hdr
  have HPB := Lib.hid hpb
  have em : bits .and .i64 most 15 = most % 16 := i64_mask most 4 (by omega)
  obtain ⟨mo, hmo, hmo2⟩ : ∃ mo : Nat, most % 16 = mo ∧ mo ≤ 15 := ⟨(most % 16).toNat, by omega, by omega⟩
  rw [hmo] at em
  clear hin hr hdr hpb hmo
  go_enter Try.func9, Try.ntmps9
  go_wp2_with fail
  refine HF.out.mono ?_
  rintro e w' ⟨b, rfl, hfew, rfl⟩
  cases b with
  | false =>
    clear hfew
    go_wp2_with (go_at_call 28; refine (awake14_any _).mono ?_; rintro e w1 ⟨rfl, hb⟩)
    go_ret
    exact ⟨rfl, hb⟩
  | true =>
    obtain ⟨hf1, hf2, hf3⟩ := hfew rfl
    have HFEW := Lib.hid (FewP.mk hf1 hf2 hf3 HIN.out.byte)
    have HOK := Lib.hid HFEW.out.ok
    clear hfew hf2 HF
    by_cases hp : (200 : Int) < (P.length : Int)
    · go_wp2_with (go_at_call 28; refine (awake14_any _).mono ?_; rintro e w1 ⟨rfl, hb⟩)
      go_ret
      exact ⟨rfl, hb⟩
    · have hpd : decide ((200 : Int) < (P.length : Int)) = false := by simp; omega
      have hpd2 : decide (200 < P.length) = false := by simp; omega
      have hp2 : P.length ≤ 200 := by omega
      clear hp hl
      have HSTR := Lib.hid (strings_any w a cap A C ds (by omega) HIN.out.docs)
      go_wp2_with fail
      refine HSTR.out.mono ?_
      rintro e w1 ⟨ax, cx, rfl, hrs, hb1⟩
      have HS1 := Lib.hid hrs
      have HB1 := Lib.hid hb1
      have HNW := Lib.hid (fnew_any w1 a cap A C ds (HIN.out.docs.kept hb1) HOK.out)
      clear hrs hb1 HSTR hpd hpd2
      go_wp2_with fail
      refine HNW.out.mono ?_
      rintro e w2 ⟨bf, rfl, hf, hb2, -⟩
      have HF2 := Lib.hid hf
      have HB2 : Hid (Below w.heap.size w w2) := below_next HB1.out hb2 HB1.out.size
      have HS2 := Lib.hid (HS1.out.kept hb2)
      have hrl := rows_len ds
      have HDN := Lib.hid (fdocs_any w2 bf ds HF2.out)
      have HLN0 := flen_any w2 bf ds HF2.out
      rw [bwtOf_len] at HLN0
      have HLN := Lib.hid HLN0
      clear HLN0
      have HRL := Lib.hid (reflen_any w2 ax cx ds HS2.out (by omega))
      have HP2 := Lib.hid (HP.out.kept HB2.out)
      have hcv := conv_str w2 a1 P cap1 HP2.out
      have HFD := Lib.hid (reffind_all w2 ax cx ds HS2.out HFEW.out.byte (by omega) P HPB.out (by omega))
      clear hf hb2 HS1 HB1 HNW
      go_wp2_with (first
        | (go_at_call 30; refine HDN.out.mono ?_; rintro e w' ⟨rfl, rfl⟩)
        | (go_at_call 31; refine HLN.out.mono ?_; rintro e w' ⟨rfl, rfl⟩)
        | (go_at_call 32; refine HRL.out.mono ?_; rintro e w' ⟨rfl, rfl⟩)
        | fail)
      refine HFD.out.mono ?_
      rintro e w4 ⟨a9, c9, rfl, hr9, hb4, hc9, hn9⟩
      have HR9 := Lib.hid hr9
      have HF4 := Lib.hid (HF2.out.kept hb4)
      have HB4 : Hid (Below w.heap.size w w4) := below_next HB2.out hb4 HB2.out.size
      have HS4 := Lib.hid (HS2.out.kept hb4)
      have HP4 := Lib.hid (HP2.out.kept hb4)
      have hlen : (locL ds P).length ≤ 60000 := by
        unfold locL
        split
        · exact Nat.zero_le _
        · rw [hitL_len ds P _ _ (bkR_is ds HOK.out.byte P)]
          have h1 := (bkR_is ds HOK.out.byte P).len
          have h2 := rows_len ds
          have h3 := HOK.out.all
          omega
      have HFA := Lib.hid (fun W (hW : Below w4.heap.size w4 W) => fhits_any W bf ds (HF4.out.kept hW) HOK.out P HPB.out (by omega) 100000 (by omega))
      unfold FHitsPost at HFA
      rw [List.take_of_length_le (show (locL ds P).length ≤ 100000 by omega)] at HFA
      simp only [Int.cast_ofNat_Int] at HFA
      have HCV4 : Hid (∀ W, Below w4.heap.size w4 W → (convert 22 9 (.slice a1 P.length cap1)).run Try.prog W = .ok (.string (sB P)) W) := fun W hW => conv_str W a1 P cap1 (HP4.out.kept hW)
      have HB4d : Below w4.heap.size w4 w4.drew := (Below.refl _ _).drew
      have HCT := Lib.hid (fcount_all w4.drew bf ds HOK.out (HF4.out.kept HB4d) a1 cap1 P (by omega) HPB.out (HP4.out.kept HB4d))
      clear hr9 hb4 HDN HLN HRL HFD HS2 HF2 HP2 HB2 hcv
      generalize hL : locL ds P = L at *
      have HLL := Lib.hid hL
      clear hL
      obtain ⟨kk, hkk⟩ : ∃ kk, kk = min mo L.length := ⟨_, rfl⟩
      have HFB := Lib.hid (fun W (hW : Below w4.heap.size w4 W) => fhits_any W bf ds (HF4.out.kept hW) HOK.out P HPB.out (by omega) mo (by omega))
      unfold FHitsPost at HFB
      rw [HLL.out] at HFB
      have HTK := Lib.hid (show (L.take mo).length = kk by rw [List.length_take]; omega)
      have em2 : min (mo : Int) (L.length : Int) = (kk : Int) := by omega
      rw [HTK.out] at HFB
      have hct := cut_toH a9 L.length c9 kk (by omega) hc9 hn9
      have HRT : Hid (HRow w4 a9 (L.take mo)) := HR9.out.take mo
      have hcv4 := HCV4.out _ HB4d
      clear hn9 hc9 hkk HLL
      go_upto_region 9 with fail
      go_wp2_with fail
      have hcv4 := HCV4.out _ HB4d
      go_wp2_with fail
      refine wp_region_any (by kernel_rfl) ?_
      change wpAny _ _ _ _ _ #[false, false, false, false, false, false, false, false, false, false, false, false, false, false, false, false, false, false, false, false, false, false, false, false, false, false, false, false] _ (World.drew _)
      refine wpAny_take (i := 0) (v := ?_) rfl (by kernel_rfl) (by kernel_rfl) (by kernel_rfl) (fun _ _ _ h => h) (Or.inl ⟨by rfl, ?_⟩) ?_
      rotate_left
      · intro w
        go_simp
        with_reducible rfl
      change wpAny _ _ _ _ _ _ (Act.put _ (some 75) _) _
      go_frame
      refine wpAny_take (i := 1) (v := ?_) rfl (by kernel_rfl) (by kernel_rfl) (by kernel_rfl) (fun _ _ _ h => h) (Or.inl ⟨by rfl, ?_⟩) ?_
      rotate_left
      · intro w
        go_simp
        with_reducible rfl
      change wpAny _ _ _ _ _ _ (Act.put _ (some 76) _) _
      go_frame
      refine wpAny_take (i := 3) (v := ?_) rfl (by kernel_rfl) (by kernel_rfl) (by kernel_rfl) (fun _ _ _ h => h) (Or.inl ⟨by rfl, ?_⟩) ?_
      rotate_left
      · intro w
        go_simp
        with_reducible rfl
      change wpAny _ _ _ _ _ _ (Act.put _ (some 78) _) _
      go_frame
      refine wpAny_take (i := 4) (v := ?_) rfl (by kernel_rfl) (by kernel_rfl) (by kernel_rfl) (fun _ _ _ h => h) (Or.inl ⟨by rfl, ?_⟩) ?_
      rotate_left
      · intro w
        go_simp
        with_reducible rfl
      change wpAny _ _ _ _ _ _ (Act.put _ (some 79) _) _
      go_frame
      refine wpAny_ready (rs := [2]) (by kernel_rfl) (by simp) ?_
      refine AllReady.cons rfl (fun K hK => ?_) AllReady.nil
      go_simp
      refine HCT.out.mono ?_
      rintro e w5 ⟨rfl, hb5⟩
      have HB5 : Hid (Below w4.heap.size w4 w5) := below_next HB4d hb5 HB4d.size
      have hcv5 := HCV4.out _ HB5.out
      clear hb5 hcv4 HCT
      refine hK _ _ ?_
      clear hK K
      go_frame
      refine wpAny_take (i := 5) (v := ?_) rfl (by kernel_rfl) (by kernel_rfl) (by kernel_rfl) (fun _ _ _ h => h) (Or.inl ⟨by rfl, ?_⟩) ?_
      rotate_left
      · intro w
        go_simp
        with_reducible rfl
      change wpAny _ _ _ _ _ _ (Act.put _ (some 80) _) _
      go_frame
      refine wpAny_take (i := 6) (v := ?_) rfl (by kernel_rfl) (by kernel_rfl) (by kernel_rfl) (fun _ _ _ h => h) (Or.inl ⟨by rfl, ?_⟩) ?_
      rotate_left
      · intro w
        go_simp
        with_reducible rfl
      change wpAny _ _ _ _ _ _ (Act.put _ (some 81) _) _
      go_frame
      refine wpAny_take (i := 7) (v := ?_) rfl (by kernel_rfl) (by kernel_rfl) (by kernel_rfl) (fun _ _ _ h => h) (Or.inl ⟨by rfl, ?_⟩) ?_
      rotate_left
      · intro w
        go_simp
        with_reducible rfl
      change wpAny _ _ _ _ _ _ (Act.put _ (some 82) _) _
      go_frame
      refine wpAny_take (i := 8) (v := ?_) rfl (by kernel_rfl) (by kernel_rfl) (by kernel_rfl) (fun _ _ _ h => h) (Or.inl ⟨by rfl, ?_⟩) ?_
      rotate_left
      · intro w
        go_simp
        with_reducible rfl
      change wpAny _ _ _ _ _ _ (Act.put _ (some 83) _) _
      go_frame
      refine wpAny_take (i := 11) (v := ?_) rfl (by kernel_rfl) (by kernel_rfl) (by kernel_rfl) (fun _ _ _ h => h) (Or.inl ⟨by rfl, ?_⟩) ?_
      rotate_left
      · intro w
        go_simp
        with_reducible rfl
      change wpAny _ _ _ _ _ _ (Act.put _ (some 86) _) _
      go_frame
      refine wpAny_ready (rs := [9]) (by kernel_rfl) (by simp) ?_
      refine AllReady.cons rfl (fun K hK => ?_) AllReady.nil
      go_simp
      refine hK _ _ ?_
      clear hK K
      go_frame
      refine wpAny_ready (rs := [10]) (by kernel_rfl) (by simp) ?_
      refine AllReady.cons rfl (fun K hK => ?_) AllReady.nil
      go_simp
      refine (HFA.out _ HB5.out).mono ?_
      rintro e w6 ⟨a6, c6, rfl, hr6, hb6⟩
      have HB6 : Hid (Below w4.heap.size w4 w6) := below_next HB5.out hb6 HB5.out.size
      have HR6 := Lib.hid hr6
      clear hr6 hb6
      refine hK _ _ ?_
      clear hK K
      go_frame
      refine wpAny_ready (rs := [12]) (by kernel_rfl) (by simp) ?_
      refine AllReady.cons rfl (fun K hK => ?_) AllReady.nil
      go_simp
      refine (samehits_any _ a6 a9 c6 c9 L (by omega) HR6.out (HR9.out.kept HB6.out)).mono ?_
      rintro e w' ⟨rfl, j6, rfl⟩
      have HB7 : Hid (Below w4.heap.size w4 (w6.drewN j6)) := below_drewN HB6.out j6
      have hcv7 := HCV4.out _ HB7.out
      refine hK _ _ ?_
      clear hK K
      go_frame
      refine wpAny_take (i := 13) (v := ?_) rfl (by kernel_rfl) (by kernel_rfl) (by kernel_rfl) (fun _ _ _ h => h) (Or.inl ⟨by rfl, ?_⟩) ?_
      rotate_left
      · intro w
        go_simp
        with_reducible rfl
      change wpAny _ _ _ _ _ _ (Act.put _ (some 88) _) _
      go_frame
      refine wpAny_take (i := 14) (v := ?_) rfl (by kernel_rfl) (by kernel_rfl) (by kernel_rfl) (fun _ _ _ h => h) (Or.inl ⟨by rfl, ?_⟩) ?_
      rotate_left
      · intro w
        go_simp
        with_reducible rfl
      change wpAny _ _ _ _ _ _ (Act.put _ (some 89) _) _
      go_frame
      refine wpAny_take (i := 15) (v := ?_) rfl (by kernel_rfl) (by kernel_rfl) (by kernel_rfl) (fun _ _ _ h => h) (Or.inl ⟨by rfl, ?_⟩) ?_
      rotate_left
      · intro w
        go_simp
        with_reducible rfl
      change wpAny _ _ _ _ _ _ (Act.put _ (some 90) _) _
      go_frame
      refine wpAny_take (i := 16) (v := ?_) rfl (by kernel_rfl) (by kernel_rfl) (by kernel_rfl) (fun _ _ _ h => h) (Or.inl ⟨by rfl, ?_⟩) ?_
      rotate_left
      · intro w
        go_simp
        with_reducible rfl
      change wpAny _ _ _ _ _ _ (Act.put _ (some 91) _) _
      go_frame
      refine wpAny_take (i := 17) (v := ?_) rfl (by kernel_rfl) (by kernel_rfl) (by kernel_rfl) (fun _ _ _ h => h) (Or.inl ⟨by rfl, ?_⟩) ?_
      rotate_left
      · intro w
        go_simp
        with_reducible rfl
      change wpAny _ _ _ _ _ _ (Act.put _ (some 92) _) _
      go_frame
      refine wpAny_take (i := 19) (v := ?_) rfl (by kernel_rfl) (by kernel_rfl) (by kernel_rfl) (fun _ _ _ h => h) (Or.inl ⟨by rfl, ?_⟩) ?_
      rotate_left
      · intro w
        go_simp
        with_reducible rfl
      change wpAny _ _ _ _ _ _ (Act.put _ (some 94) _) _
      go_frame
      refine wpAny_take (i := 20) (v := ?_) rfl (by kernel_rfl) (by kernel_rfl) (by kernel_rfl) (fun _ _ _ h => h) (Or.inl ⟨by rfl, ?_⟩) ?_
      rotate_left
      · intro w
        go_simp
        with_reducible rfl
      change wpAny _ _ _ _ _ _ (Act.put _ (some 95) _) _
      go_frame
      refine wpAny_take (i := 22) (v := ?_) rfl (by kernel_rfl) (by kernel_rfl) (by kernel_rfl) (fun _ _ _ h => h) (Or.inl ⟨by rfl, ?_⟩) ?_
      rotate_left
      · intro w
        go_simp
        with_reducible rfl
      change wpAny _ _ _ _ _ _ (Act.put _ (some 97) _) _
      go_frame
      refine wpAny_take (i := 23) (v := ?_) rfl (by kernel_rfl) (by kernel_rfl) (by kernel_rfl) (fun _ _ _ h => h) (Or.inl ⟨by rfl, ?_⟩) ?_
      rotate_left
      · intro w
        go_simp
        with_reducible rfl
      change wpAny _ _ _ _ _ _ (Act.put _ (some 98) _) _
      go_frame
      refine wpAny_take (i := 24) (v := ?_) rfl (by kernel_rfl) (by kernel_rfl) (by kernel_rfl) (fun _ _ _ h => h) (Or.inl ⟨by rfl, ?_⟩) ?_
      rotate_left
      · intro w
        go_simp
        with_reducible rfl
      change wpAny _ _ _ _ _ _ (Act.put _ (some 99) _) _
      go_frame
      refine wpAny_ready (rs := [18]) (by kernel_rfl) (by simp) ?_
      refine AllReady.cons rfl (fun K hK => ?_) AllReady.nil
      go_simp
      refine hK _ _ ?_
      clear hK K
      go_frame
      refine wpAny_ready (rs := [21]) (by kernel_rfl) (by simp) ?_
      refine AllReady.cons rfl (fun K hK => ?_) AllReady.nil
      go_simp
      refine (HFB.out _ HB7.out).mono ?_
      rintro e w8 ⟨a8, c8, rfl, hr8, hb8⟩
      have HB8 : Hid (Below w4.heap.size w4 w8) := below_next HB7.out hb8 HB7.out.size
      have HSH := Lib.hid (samehits_any w8 a8 a9 c8 c9 (L.take mo) (by have := HTK.out; omega) hr8 (HRT.out.kept HB8.out))
      rw [HTK.out] at HSH
      clear hr8 hb8
      refine hK _ _ ?_
      clear hK K
      go_frame
      refine wpAny_ready (rs := [25]) (by kernel_rfl) (by simp) ?_
      refine AllReady.cons rfl (fun K hK => ?_) AllReady.nil
      go_simp
      refine HSH.out.mono ?_
      rintro e w' ⟨rfl, j8, rfl⟩
      have HB9 : Hid (Below w4.heap.size w4 (w8.drewN j8)) := below_drewN HB8.out j8
      refine hK _ _ ?_
      clear hK K
      go_frame
      refine wpAny_take (i := 26) (v := ?_) rfl (by kernel_rfl) (by kernel_rfl) (by kernel_rfl) (fun _ _ _ h => h) (Or.inl ⟨by rfl, ?_⟩) ?_
      rotate_left
      · intro w
        go_simp
        with_reducible rfl
      change wpAny _ _ _ _ _ _ (Act.put _ (some 101) _) _
      go_frame
      refine wpAny_take (i := 27) (v := ?_) rfl (by kernel_rfl) (by kernel_rfl) (by kernel_rfl) (fun _ _ _ h => h) (Or.inl ⟨by rfl, ?_⟩) ?_
      rotate_left
      · intro w
        go_simp
        with_reducible rfl
      change wpAny _ _ _ _ _ _ (Act.put _ (some 102) _) _
      go_frame
      refine wpAny_done (by kernel_rfl) ?_ _
      have t0 : (0 : Int) ≤ doc := by omega
      have t1 : decide (doc < (ds.length : Int)) = false := by simp; omega
      have HGS := Lib.hid (fun W (hW : Below w4.heap.size w4 W) => get_S W bf ds HOK.out (HF4.out.kept hW) doc)
      have HPS := Lib.hid (fun W (hW : Below w4.heap.size w4 W) => piece_S W bf ds HOK.out (HF4.out.kept hW) doc at' n hat' hn)
      rw [show whL ds doc = [] from if_neg (by omega), sB_nil, List.length_nil, decide_eq_false (p := 0 ≤ doc ∧ doc < (ds.length : Int)) (by omega)] at HGS
      rw [show pcL ds doc at' n = [] from if_neg (by omega), sB_nil, List.length_nil, decide_eq_false (p := 0 ≤ doc ∧ doc < (ds.length : Int) ∧ 0 ≤ at' ∧ 0 ≤ n) (by omega)] at HPS
      clear hH
      have HD1E := fun W (hW : Below w4.heap.size w4 W) => fdocsL_any W bf ds (HF4.out.kept hW) HOK.out 1000 (by omega)
      unfold FDocsPost at HD1E
      rw [show min 1000 ds.length = ds.length by omega] at HD1E
      simp only [Int.cast_ofNat_Int] at HD1E
      have HD1 := Lib.hid HD1E
      have HD2E := fun W (hW : Below w4.heap.size w4 W) => fdocsL_any W bf ds (HF4.out.kept hW) HOK.out 2 (by omega)
      unfold FDocsPost at HD2E
      obtain ⟨mm, hmm⟩ : ∃ mm, mm = min 2 ds.length := ⟨_, rfl⟩
      rw [← hmm] at HD2E
      simp only [Int.cast_ofNat_Int] at HD2E
      have HD2 := Lib.hid HD2E
      have em3 : min (2 : Int) (ds.length : Int) = (mm : Int) := by omega
      clear HD1E HD2E hmm hcv5 hcv7 HFA HFB HSH HCV4 HB4d em em2 hct HRT HTK HR9 HR6 HB5 HB6 HB7 HB8 hlen
      go_wp2_with fail
      refine (HGS.out _ (by first | exact HB9.out | exact HB9.out.drew | exact below_drewN HB9.out _)).mono ?_
      rintro e w10 ⟨a10, rfl, hcv10, hb10⟩
      have HB10 : Hid (Below w4.heap.size w4 w10) := by
        show Below _ _ _
        first
          | exact below_next HB9.out hb10 HB9.out.size
          | exact below_next HB9.out.drew hb10 HB9.out.drew.size
          | exact below_next (below_drewN HB9.out _) hb10 (below_drewN HB9.out _).size
      have HCV10 := Lib.hid hcv10
      clear hcv10 hb10 HB9
      go_wp2_with fail
      refine (HPS.out _ HB10.out).mono ?_
      rintro e w11 ⟨a11, rfl, hcv11, hb11⟩
      have HB11 : Hid (Below w4.heap.size w4 w11) := below_next HB10.out hb11 HB10.out.size
      have hc20 := HCV10.out _ hb11
      have hc21 := hcv11 _ (Below.refl _ _)
      clear hcv11 hb11 HCV10 HB10 HGS HPS
      go_wp2_with fail
      refine (HD1.out _ HB11.out).mono ?_
      rintro e w12 ⟨a12, c12, rfl, hr12, hb12⟩
      have HB12 : Hid (Below w4.heap.size w4 w12) := below_next HB11.out hb12 HB11.out.size
      have HR12 := Lib.hid hr12
      clear hr12 hb12 HB11 HD1 hc20 hc21
      go_wp2_with fail
      refine (HD2.out _ HB12.out).mono ?_
      rintro e w13 ⟨a13, c13, rfl, hr13, hb13⟩
      have HB13 : Hid (Below w4.heap.size w4 w13) := below_next HB12.out hb13 HB12.out.size
      have hst := sametexts_any w13 a12 ax c12 cx ds ds (by omega) HFEW.out.byte HFEW.out.byte (HR12.out.kept hb13) (HS4.out.kept HB13.out)
      rw [decide_eq_true rfl] at hst
      have HST := Lib.hid hst
      clear hr13 hb13 HB12 HR12 HD2 hst
      go_wp2_with fail
      refine HST.out.mono ?_
      rintro e w' ⟨rfl, j13, rfl⟩
      have HB14 : Hid (Below w4.heap.size w4 (w13.drewN j13)) := below_drewN HB13.out j13
      have HSY := Lib.hid (fsyms_any _ bf ds (HF4.out.kept HB14.out))
      clear HST
      go_wp2_with fail
      refine HSY.out.mono ?_
      rintro e w15 ⟨a15, rfl, hr15, hb15⟩
      have HB15 : Hid (Below w4.heap.size w4 w15) := below_next HB14.out hb15 HB14.out.size
      have HR15 := Lib.hid hr15
      have HRB := Lib.hid (refbwt_any w15 ax cx ds (HS4.out.kept HB15.out) HFEW.out.byte (by omega))
      clear hr15 hb15 HSY
      go_wp2_with fail
      refine HRB.out.mono ?_
      rintro e w16 ⟨a16, c16, rfl, ho16, hb16⟩
      have HB16 : Hid (Below w4.heap.size w4 w16) := below_next HB15.out hb16 HB15.out.size
      have hss := samesyms_any w16 a15 a16 (bwtOf ds).length c16 (bwtOf ds) (bwtOf ds) (by rw [bwtOf_len]; omega) (by rw [bwtOf_len]; omega) (HR15.out.kept hb16) (symVs_row ho16)
      rw [decide_eq_true rfl] at hss
      have HSS := Lib.hid hss
      clear ho16 hb16 HRB hss
      go_wp2_with fail
      refine HSS.out.mono ?_
      rintro e w' ⟨rfl, j16, rfl⟩
      have HB17 : Hid (Below w4.heap.size w4 (w16.drewN j16)) := below_drewN HB16.out j16
      clear HSS
      go_wp2_with (go_at_call 28; refine (awake14_any _).mono ?_; rintro e w18 ⟨rfl, hb18⟩)
      go_ret
      exact ⟨rfl, below_next HB4.out (below_next HB17.out hb18 HB17.out.size) HB4.out.size⟩
set_option maxRecDepth 100000 in
set_option maxHeartbeats 4000000 in
theorem fmtells_c (w : World) (a : Option Addr) (cap : Nat) (A : Nat → Option Addr) (C : Nat → Nat) (ds : List (List Nat)) (hin : DocsIn w a A C ds) (a1 : Option Addr) (len cap1 : Nat) (f : Nat → Int) (hl : len ≤ maxLen) (hr : Row w a1 len (fun k => .int .u8 (f k)) ∧ ∀ k, k < len → (Lit.int .u8 (f k)).wf = true) (doc : Int) (_ : (Lit.int .i64 doc).wf = true) (at' : Int) (hat' : (Lit.int .i64 at').wf = true) (n : Int) (hn : (Lit.int .i64 n).wf = true) (most : Int) (_ : (Lit.int .i64 most).wf = true) (hH : 0 ≤ doc ∧ doc < (ds.length : Int)) (hL : at' < 0) :
    Calls Try.prog 9 #[.slice a ds.length cap, .slice a1 len cap1, .int .i64 doc, .int .i64 at', .int .i64 n, .int .i64 most] w fun e w' => e = .returned (.bool true) ∧ Below w.heap.size w w' := by
  obtain ⟨P, hd, hdr, hpb⟩ := bytes_list hr
  subst hd
  unfold maxLen at hl
  have HF := Lib.hid (few_any w a cap A C ds hin.many hin.docs hin.long)
  have HIN := Lib.hid hin
  have HP := Lib.hid hdr
  have HPB := Lib.hid hpb
  have em : bits .and .i64 most 15 = most % 16 := i64_mask most 4 (by omega)
  obtain ⟨mo, hmo, hmo2⟩ : ∃ mo : Nat, most % 16 = mo ∧ mo ≤ 15 := ⟨(most % 16).toNat, by omega, by omega⟩
  rw [hmo] at em
  clear hin hr hdr hpb hmo
  go_enter Try.func9, Try.ntmps9
  go_wp2_with fail
  refine HF.out.mono ?_
  rintro e w' ⟨b, rfl, hfew, rfl⟩
  cases b with
  | false =>
    clear hfew
    go_wp2_with (go_at_call 28; refine (awake14_any _).mono ?_; rintro e w1 ⟨rfl, hb⟩)
    go_ret
    exact ⟨rfl, hb⟩
  | true =>
    obtain ⟨hf1, hf2, hf3⟩ := hfew rfl
    have HFEW := Lib.hid (FewP.mk hf1 hf2 hf3 HIN.out.byte)
    have HOK := Lib.hid HFEW.out.ok
    clear hfew hf2 HF
    by_cases hp : (200 : Int) < (P.length : Int)
    · go_wp2_with (go_at_call 28; refine (awake14_any _).mono ?_; rintro e w1 ⟨rfl, hb⟩)
      go_ret
      exact ⟨rfl, hb⟩
    · have hpd : decide ((200 : Int) < (P.length : Int)) = false := by simp; omega
      have hpd2 : decide (200 < P.length) = false := by simp; omega
      have hp2 : P.length ≤ 200 := by omega
      clear hp hl
      have HSTR := Lib.hid (strings_any w a cap A C ds (by omega) HIN.out.docs)
      go_wp2_with fail
      refine HSTR.out.mono ?_
      rintro e w1 ⟨ax, cx, rfl, hrs, hb1⟩
      have HS1 := Lib.hid hrs
      have HB1 := Lib.hid hb1
      have HNW := Lib.hid (fnew_any w1 a cap A C ds (HIN.out.docs.kept hb1) HOK.out)
      clear hrs hb1 HSTR hpd hpd2
      go_wp2_with fail
      refine HNW.out.mono ?_
      rintro e w2 ⟨bf, rfl, hf, hb2, -⟩
      have HF2 := Lib.hid hf
      have HB2 : Hid (Below w.heap.size w w2) := below_next HB1.out hb2 HB1.out.size
      have HS2 := Lib.hid (HS1.out.kept hb2)
      have hrl := rows_len ds
      have HDN := Lib.hid (fdocs_any w2 bf ds HF2.out)
      have HLN0 := flen_any w2 bf ds HF2.out
      rw [bwtOf_len] at HLN0
      have HLN := Lib.hid HLN0
      clear HLN0
      have HRL := Lib.hid (reflen_any w2 ax cx ds HS2.out (by omega))
      have HP2 := Lib.hid (HP.out.kept HB2.out)
      have hcv := conv_str w2 a1 P cap1 HP2.out
      have HFD := Lib.hid (reffind_all w2 ax cx ds HS2.out HFEW.out.byte (by omega) P HPB.out (by omega))
      clear hf hb2 HS1 HB1 HNW
      go_wp2_with (first
        | (go_at_call 30; refine HDN.out.mono ?_; rintro e w' ⟨rfl, rfl⟩)
        | (go_at_call 31; refine HLN.out.mono ?_; rintro e w' ⟨rfl, rfl⟩)
        | (go_at_call 32; refine HRL.out.mono ?_; rintro e w' ⟨rfl, rfl⟩)
        | fail)
      refine HFD.out.mono ?_
      rintro e w4 ⟨a9, c9, rfl, hr9, hb4, hc9, hn9⟩
      have HR9 := Lib.hid hr9
      have HF4 := Lib.hid (HF2.out.kept hb4)
      have HB4 : Hid (Below w.heap.size w w4) := below_next HB2.out hb4 HB2.out.size
      have HS4 := Lib.hid (HS2.out.kept hb4)
      have HP4 := Lib.hid (HP2.out.kept hb4)
      have hlen : (locL ds P).length ≤ 60000 := by
        unfold locL
        split
        · exact Nat.zero_le _
        · rw [hitL_len ds P _ _ (bkR_is ds HOK.out.byte P)]
          have h1 := (bkR_is ds HOK.out.byte P).len
          have h2 := rows_len ds
          have h3 := HOK.out.all
          omega
      have HFA := Lib.hid (fun W (hW : Below w4.heap.size w4 W) => fhits_any W bf ds (HF4.out.kept hW) HOK.out P HPB.out (by omega) 100000 (by omega))
      unfold FHitsPost at HFA
      rw [List.take_of_length_le (show (locL ds P).length ≤ 100000 by omega)] at HFA
      simp only [Int.cast_ofNat_Int] at HFA
      have HCV4 : Hid (∀ W, Below w4.heap.size w4 W → (convert 22 9 (.slice a1 P.length cap1)).run Try.prog W = .ok (.string (sB P)) W) := fun W hW => conv_str W a1 P cap1 (HP4.out.kept hW)
      have HB4d : Below w4.heap.size w4 w4.drew := (Below.refl _ _).drew
      have HCT := Lib.hid (fcount_all w4.drew bf ds HOK.out (HF4.out.kept HB4d) a1 cap1 P (by omega) HPB.out (HP4.out.kept HB4d))
      clear hr9 hb4 HDN HLN HRL HFD HS2 HF2 HP2 HB2 hcv
      generalize hL : locL ds P = L at *
      have HLL := Lib.hid hL
      clear hL
      obtain ⟨kk, hkk⟩ : ∃ kk, kk = min mo L.length := ⟨_, rfl⟩
      have HFB := Lib.hid (fun W (hW : Below w4.heap.size w4 W) => fhits_any W bf ds (HF4.out.kept hW) HOK.out P HPB.out (by omega) mo (by omega))
      unfold FHitsPost at HFB
      rw [HLL.out] at HFB
      have HTK := Lib.hid (show (L.take mo).length = kk by rw [List.length_take]; omega)
      have em2 : min (mo : Int) (L.length : Int) = (kk : Int) := by omega
      rw [HTK.out] at HFB
      have hct := cut_toH a9 L.length c9 kk (by omega) hc9 hn9
      have HRT : Hid (HRow w4 a9 (L.take mo)) := HR9.out.take mo
      have hcv4 := HCV4.out _ HB4d
      clear hn9 hc9 hkk HLL
      go_upto_region 9 with fail
      go_wp2_with fail
      have hcv4 := HCV4.out _ HB4d
      go_wp2_with fail
      refine wp_region_any (by kernel_rfl) ?_
      change wpAny _ _ _ _ _ #[false, false, false, false, false, false, false, false, false, false, false, false, false, false, false, false, false, false, false, false, false, false, false, false, false, false, false, false] _ (World.drew _)
      refine wpAny_take (i := 0) (v := ?_) rfl (by kernel_rfl) (by kernel_rfl) (by kernel_rfl) (fun _ _ _ h => h) (Or.inl ⟨by rfl, ?_⟩) ?_
      rotate_left
      · intro w
        go_simp
        with_reducible rfl
      change wpAny _ _ _ _ _ _ (Act.put _ (some 75) _) _
      go_frame
      refine wpAny_take (i := 1) (v := ?_) rfl (by kernel_rfl) (by kernel_rfl) (by kernel_rfl) (fun _ _ _ h => h) (Or.inl ⟨by rfl, ?_⟩) ?_
      rotate_left
      · intro w
        go_simp
        with_reducible rfl
      change wpAny _ _ _ _ _ _ (Act.put _ (some 76) _) _
      go_frame
      refine wpAny_take (i := 3) (v := ?_) rfl (by kernel_rfl) (by kernel_rfl) (by kernel_rfl) (fun _ _ _ h => h) (Or.inl ⟨by rfl, ?_⟩) ?_
      rotate_left
      · intro w
        go_simp
        with_reducible rfl
      change wpAny _ _ _ _ _ _ (Act.put _ (some 78) _) _
      go_frame
      refine wpAny_take (i := 4) (v := ?_) rfl (by kernel_rfl) (by kernel_rfl) (by kernel_rfl) (fun _ _ _ h => h) (Or.inl ⟨by rfl, ?_⟩) ?_
      rotate_left
      · intro w
        go_simp
        with_reducible rfl
      change wpAny _ _ _ _ _ _ (Act.put _ (some 79) _) _
      go_frame
      refine wpAny_ready (rs := [2]) (by kernel_rfl) (by simp) ?_
      refine AllReady.cons rfl (fun K hK => ?_) AllReady.nil
      go_simp
      refine HCT.out.mono ?_
      rintro e w5 ⟨rfl, hb5⟩
      have HB5 : Hid (Below w4.heap.size w4 w5) := below_next HB4d hb5 HB4d.size
      have hcv5 := HCV4.out _ HB5.out
      clear hb5 hcv4 HCT
      refine hK _ _ ?_
      clear hK K
      go_frame
      refine wpAny_take (i := 5) (v := ?_) rfl (by kernel_rfl) (by kernel_rfl) (by kernel_rfl) (fun _ _ _ h => h) (Or.inl ⟨by rfl, ?_⟩) ?_
      rotate_left
      · intro w
        go_simp
        with_reducible rfl
      change wpAny _ _ _ _ _ _ (Act.put _ (some 80) _) _
      go_frame
      refine wpAny_take (i := 6) (v := ?_) rfl (by kernel_rfl) (by kernel_rfl) (by kernel_rfl) (fun _ _ _ h => h) (Or.inl ⟨by rfl, ?_⟩) ?_
      rotate_left
      · intro w
        go_simp
        with_reducible rfl
      change wpAny _ _ _ _ _ _ (Act.put _ (some 81) _) _
      go_frame
      refine wpAny_take (i := 7) (v := ?_) rfl (by kernel_rfl) (by kernel_rfl) (by kernel_rfl) (fun _ _ _ h => h) (Or.inl ⟨by rfl, ?_⟩) ?_
      rotate_left
      · intro w
        go_simp
        with_reducible rfl
      change wpAny _ _ _ _ _ _ (Act.put _ (some 82) _) _
      go_frame
      refine wpAny_take (i := 8) (v := ?_) rfl (by kernel_rfl) (by kernel_rfl) (by kernel_rfl) (fun _ _ _ h => h) (Or.inl ⟨by rfl, ?_⟩) ?_
      rotate_left
      · intro w
        go_simp
        with_reducible rfl
      change wpAny _ _ _ _ _ _ (Act.put _ (some 83) _) _
      go_frame
      refine wpAny_take (i := 11) (v := ?_) rfl (by kernel_rfl) (by kernel_rfl) (by kernel_rfl) (fun _ _ _ h => h) (Or.inl ⟨by rfl, ?_⟩) ?_
      rotate_left
      · intro w
        go_simp
        with_reducible rfl
      change wpAny _ _ _ _ _ _ (Act.put _ (some 86) _) _
      go_frame
      refine wpAny_ready (rs := [9]) (by kernel_rfl) (by simp) ?_
      refine AllReady.cons rfl (fun K hK => ?_) AllReady.nil
      go_simp
      refine hK _ _ ?_
      clear hK K
      go_frame
      refine wpAny_ready (rs := [10]) (by kernel_rfl) (by simp) ?_
      refine AllReady.cons rfl (fun K hK => ?_) AllReady.nil
      go_simp
      refine (HFA.out _ HB5.out).mono ?_
      rintro e w6 ⟨a6, c6, rfl, hr6, hb6⟩
      have HB6 : Hid (Below w4.heap.size w4 w6) := below_next HB5.out hb6 HB5.out.size
      have HR6 := Lib.hid hr6
      clear hr6 hb6
      refine hK _ _ ?_
      clear hK K
      go_frame
      refine wpAny_ready (rs := [12]) (by kernel_rfl) (by simp) ?_
      refine AllReady.cons rfl (fun K hK => ?_) AllReady.nil
      go_simp
      refine (samehits_any _ a6 a9 c6 c9 L (by omega) HR6.out (HR9.out.kept HB6.out)).mono ?_
      rintro e w' ⟨rfl, j6, rfl⟩
      have HB7 : Hid (Below w4.heap.size w4 (w6.drewN j6)) := below_drewN HB6.out j6
      have hcv7 := HCV4.out _ HB7.out
      refine hK _ _ ?_
      clear hK K
      go_frame
      refine wpAny_take (i := 13) (v := ?_) rfl (by kernel_rfl) (by kernel_rfl) (by kernel_rfl) (fun _ _ _ h => h) (Or.inl ⟨by rfl, ?_⟩) ?_
      rotate_left
      · intro w
        go_simp
        with_reducible rfl
      change wpAny _ _ _ _ _ _ (Act.put _ (some 88) _) _
      go_frame
      refine wpAny_take (i := 14) (v := ?_) rfl (by kernel_rfl) (by kernel_rfl) (by kernel_rfl) (fun _ _ _ h => h) (Or.inl ⟨by rfl, ?_⟩) ?_
      rotate_left
      · intro w
        go_simp
        with_reducible rfl
      change wpAny _ _ _ _ _ _ (Act.put _ (some 89) _) _
      go_frame
      refine wpAny_take (i := 15) (v := ?_) rfl (by kernel_rfl) (by kernel_rfl) (by kernel_rfl) (fun _ _ _ h => h) (Or.inl ⟨by rfl, ?_⟩) ?_
      rotate_left
      · intro w
        go_simp
        with_reducible rfl
      change wpAny _ _ _ _ _ _ (Act.put _ (some 90) _) _
      go_frame
      refine wpAny_take (i := 16) (v := ?_) rfl (by kernel_rfl) (by kernel_rfl) (by kernel_rfl) (fun _ _ _ h => h) (Or.inl ⟨by rfl, ?_⟩) ?_
      rotate_left
      · intro w
        go_simp
        with_reducible rfl
      change wpAny _ _ _ _ _ _ (Act.put _ (some 91) _) _
      go_frame
      refine wpAny_take (i := 17) (v := ?_) rfl (by kernel_rfl) (by kernel_rfl) (by kernel_rfl) (fun _ _ _ h => h) (Or.inl ⟨by rfl, ?_⟩) ?_
      rotate_left
      · intro w
        go_simp
        with_reducible rfl
      change wpAny _ _ _ _ _ _ (Act.put _ (some 92) _) _
      go_frame
      refine wpAny_take (i := 19) (v := ?_) rfl (by kernel_rfl) (by kernel_rfl) (by kernel_rfl) (fun _ _ _ h => h) (Or.inl ⟨by rfl, ?_⟩) ?_
      rotate_left
      · intro w
        go_simp
        with_reducible rfl
      change wpAny _ _ _ _ _ _ (Act.put _ (some 94) _) _
      go_frame
      refine wpAny_take (i := 20) (v := ?_) rfl (by kernel_rfl) (by kernel_rfl) (by kernel_rfl) (fun _ _ _ h => h) (Or.inl ⟨by rfl, ?_⟩) ?_
      rotate_left
      · intro w
        go_simp
        with_reducible rfl
      change wpAny _ _ _ _ _ _ (Act.put _ (some 95) _) _
      go_frame
      refine wpAny_take (i := 22) (v := ?_) rfl (by kernel_rfl) (by kernel_rfl) (by kernel_rfl) (fun _ _ _ h => h) (Or.inl ⟨by rfl, ?_⟩) ?_
      rotate_left
      · intro w
        go_simp
        with_reducible rfl
      change wpAny _ _ _ _ _ _ (Act.put _ (some 97) _) _
      go_frame
      refine wpAny_take (i := 23) (v := ?_) rfl (by kernel_rfl) (by kernel_rfl) (by kernel_rfl) (fun _ _ _ h => h) (Or.inl ⟨by rfl, ?_⟩) ?_
      rotate_left
      · intro w
        go_simp
        with_reducible rfl
      change wpAny _ _ _ _ _ _ (Act.put _ (some 98) _) _
      go_frame
      refine wpAny_take (i := 24) (v := ?_) rfl (by kernel_rfl) (by kernel_rfl) (by kernel_rfl) (fun _ _ _ h => h) (Or.inl ⟨by rfl, ?_⟩) ?_
      rotate_left
      · intro w
        go_simp
        with_reducible rfl
      change wpAny _ _ _ _ _ _ (Act.put _ (some 99) _) _
      go_frame
      refine wpAny_ready (rs := [18]) (by kernel_rfl) (by simp) ?_
      refine AllReady.cons rfl (fun K hK => ?_) AllReady.nil
      go_simp
      refine hK _ _ ?_
      clear hK K
      go_frame
      refine wpAny_ready (rs := [21]) (by kernel_rfl) (by simp) ?_
      refine AllReady.cons rfl (fun K hK => ?_) AllReady.nil
      go_simp
      refine (HFB.out _ HB7.out).mono ?_
      rintro e w8 ⟨a8, c8, rfl, hr8, hb8⟩
      have HB8 : Hid (Below w4.heap.size w4 w8) := below_next HB7.out hb8 HB7.out.size
      have HSH := Lib.hid (samehits_any w8 a8 a9 c8 c9 (L.take mo) (by have := HTK.out; omega) hr8 (HRT.out.kept HB8.out))
      rw [HTK.out] at HSH
      clear hr8 hb8
      refine hK _ _ ?_
      clear hK K
      go_frame
      refine wpAny_ready (rs := [25]) (by kernel_rfl) (by simp) ?_
      refine AllReady.cons rfl (fun K hK => ?_) AllReady.nil
      go_simp
      refine HSH.out.mono ?_
      rintro e w' ⟨rfl, j8, rfl⟩
      have HB9 : Hid (Below w4.heap.size w4 (w8.drewN j8)) := below_drewN HB8.out j8
      refine hK _ _ ?_
      clear hK K
      go_frame
      refine wpAny_take (i := 26) (v := ?_) rfl (by kernel_rfl) (by kernel_rfl) (by kernel_rfl) (fun _ _ _ h => h) (Or.inl ⟨by rfl, ?_⟩) ?_
      rotate_left
      · intro w
        go_simp
        with_reducible rfl
      change wpAny _ _ _ _ _ _ (Act.put _ (some 101) _) _
      go_frame
      refine wpAny_take (i := 27) (v := ?_) rfl (by kernel_rfl) (by kernel_rfl) (by kernel_rfl) (fun _ _ _ h => h) (Or.inl ⟨by rfl, ?_⟩) ?_
      rotate_left
      · intro w
        go_simp
        with_reducible rfl
      change wpAny _ _ _ _ _ _ (Act.put _ (some 102) _) _
      go_frame
      refine wpAny_done (by kernel_rfl) ?_ _
      obtain ⟨j, rfl, hj⟩ : ∃ j : Nat, doc = (j : Int) ∧ j < ds.length := ⟨doc.toNat, by omega, by omega⟩
      have h2 : (j : Int) < (ds.length : Int) := by omega
      have t3 : decide (0 ≤ at') = false := by simp; omega
      have HGS := Lib.hid (fun W (hW : Below w4.heap.size w4 W) => get_S W bf ds HOK.out (HF4.out.kept hW) (j : Int))
      have HPS := Lib.hid (fun W (hW : Below w4.heap.size w4 W) => piece_S W bf ds HOK.out (HF4.out.kept hW) (j : Int) at' n hat' hn)
      have hdl := HOK.out.long _ (doc_mem hj)
      have hx := fun W => (run_ix (P := Try.prog) 40 (by kernel_rfl) size_str ax ds.length cx HS4.out.at_ .i64) W j hj
      have hsr := (HS4.out.kept HB9.out).cell j hj
      have d0 : (w8.drewN j8).cell? ⟨bOf ax, oOf ax + j, none⟩ = some (.string (sB (ds.getD j []))) := hsr
      rw [show whL ds (j : Int) = ds.getD j [] by unfold whL; rw [if_pos (by omega), Int.toNat_natCast], decide_eq_true (p := 0 ≤ (j : Int) ∧ (j : Int) < (ds.length : Int)) (by omega)] at HGS
      rw [show pcL ds (j : Int) at' n = [] from if_neg (by omega), sB_nil, List.length_nil, decide_eq_false (p := 0 ≤ (j : Int) ∧ (j : Int) < (ds.length : Int) ∧ 0 ≤ at' ∧ 0 ≤ n) (by omega)] at HPS
      have hsz := sB_size (ds.getD j [])
      generalize hwl : (ds.getD j []).length = wl at *
      generalize sB (ds.getD j []) = sw at *
      clear hsr hwl
      have HD1E := fun W (hW : Below w4.heap.size w4 W) => fdocsL_any W bf ds (HF4.out.kept hW) HOK.out 1000 (by omega)
      unfold FDocsPost at HD1E
      rw [show min 1000 ds.length = ds.length by omega] at HD1E
      simp only [Int.cast_ofNat_Int] at HD1E
      have HD1 := Lib.hid HD1E
      have HD2E := fun W (hW : Below w4.heap.size w4 W) => fdocsL_any W bf ds (HF4.out.kept hW) HOK.out 2 (by omega)
      unfold FDocsPost at HD2E
      obtain ⟨mm, hmm⟩ : ∃ mm, mm = min 2 ds.length := ⟨_, rfl⟩
      rw [← hmm] at HD2E
      simp only [Int.cast_ofNat_Int] at HD2E
      have HD2 := Lib.hid HD2E
      have em3 : min (2 : Int) (ds.length : Int) = (mm : Int) := by omega
      clear HD1E HD2E hmm hcv5 hcv7 HFA HFB HSH HCV4 HB4d em em2 hct HRT HTK HR9 HR6 HB5 HB6 HB7 HB8 hlen
      go_wp2_with fail
      refine (HGS.out _ (by first | exact HB9.out | exact HB9.out.drew | exact below_drewN HB9.out _)).mono ?_
      rintro e w10 ⟨a10, rfl, hcv10, hb10⟩
      have HB10 : Hid (Below w4.heap.size w4 w10) := by
        show Below _ _ _
        first
          | exact below_next HB9.out hb10 HB9.out.size
          | exact below_next HB9.out.drew hb10 HB9.out.drew.size
          | exact below_next (below_drewN HB9.out _) hb10 (below_drewN HB9.out _).size
      have HCV10 := Lib.hid hcv10
      clear hcv10 hb10 HB9
      go_wp2_with fail
      refine (HPS.out _ HB10.out).mono ?_
      rintro e w11 ⟨a11, rfl, hcv11, hb11⟩
      have HB11 : Hid (Below w4.heap.size w4 w11) := below_next HB10.out hb11 HB10.out.size
      have hc20 := HCV10.out _ hb11
      have hc21 := hcv11 _ (Below.refl _ _)
      clear hcv11 hb11 HCV10 HB10 HGS HPS
      go_wp2_with fail
      refine (HD1.out _ HB11.out).mono ?_
      rintro e w12 ⟨a12, c12, rfl, hr12, hb12⟩
      have HB12 : Hid (Below w4.heap.size w4 w12) := below_next HB11.out hb12 HB11.out.size
      have HR12 := Lib.hid hr12
      clear hr12 hb12 HB11 HD1 hc20 hc21
      go_wp2_with fail
      refine (HD2.out _ HB12.out).mono ?_
      rintro e w13 ⟨a13, c13, rfl, hr13, hb13⟩
      have HB13 : Hid (Below w4.heap.size w4 w13) := below_next HB12.out hb13 HB12.out.size
      have hst := sametexts_any w13 a12 ax c12 cx ds ds (by omega) HFEW.out.byte HFEW.out.byte (HR12.out.kept hb13) (HS4.out.kept HB13.out)
      rw [decide_eq_true rfl] at hst
      have HST := Lib.hid hst
      clear hr13 hb13 HB12 HR12 HD2 hst
      go_wp2_with fail
      refine HST.out.mono ?_
      rintro e w' ⟨rfl, j13, rfl⟩
      have HB14 : Hid (Below w4.heap.size w4 (w13.drewN j13)) := below_drewN HB13.out j13
      have HSY := Lib.hid (fsyms_any _ bf ds (HF4.out.kept HB14.out))
      clear HST
      go_wp2_with fail
      refine HSY.out.mono ?_
      rintro e w15 ⟨a15, rfl, hr15, hb15⟩
      have HB15 : Hid (Below w4.heap.size w4 w15) := below_next HB14.out hb15 HB14.out.size
      have HR15 := Lib.hid hr15
      have HRB := Lib.hid (refbwt_any w15 ax cx ds (HS4.out.kept HB15.out) HFEW.out.byte (by omega))
      clear hr15 hb15 HSY
      go_wp2_with fail
      refine HRB.out.mono ?_
      rintro e w16 ⟨a16, c16, rfl, ho16, hb16⟩
      have HB16 : Hid (Below w4.heap.size w4 w16) := below_next HB15.out hb16 HB15.out.size
      have hss := samesyms_any w16 a15 a16 (bwtOf ds).length c16 (bwtOf ds) (bwtOf ds) (by rw [bwtOf_len]; omega) (by rw [bwtOf_len]; omega) (HR15.out.kept hb16) (symVs_row ho16)
      rw [decide_eq_true rfl] at hss
      have HSS := Lib.hid hss
      clear ho16 hb16 HRB hss
      go_wp2_with fail
      refine HSS.out.mono ?_
      rintro e w' ⟨rfl, j16, rfl⟩
      have HB17 : Hid (Below w4.heap.size w4 (w16.drewN j16)) := below_drewN HB16.out j16
      clear HSS
      go_wp2_with (go_at_call 28; refine (awake14_any _).mono ?_; rintro e w18 ⟨rfl, hb18⟩)
      go_ret
      exact ⟨rfl, below_next HB4.out (below_next HB17.out hb18 HB17.out.size) HB4.out.size⟩
set_option maxRecDepth 100000 in
set_option maxHeartbeats 4000000 in
theorem fmtells_d (w : World) (a : Option Addr) (cap : Nat) (A : Nat → Option Addr) (C : Nat → Nat) (ds : List (List Nat)) (hin : DocsIn w a A C ds) (a1 : Option Addr) (len cap1 : Nat) (f : Nat → Int) (hl : len ≤ maxLen) (hr : Row w a1 len (fun k => .int .u8 (f k)) ∧ ∀ k, k < len → (Lit.int .u8 (f k)).wf = true) (doc : Int) (_ : (Lit.int .i64 doc).wf = true) (at' : Int) (hat' : (Lit.int .i64 at').wf = true) (n : Int) (hn : (Lit.int .i64 n).wf = true) (most : Int) (_ : (Lit.int .i64 most).wf = true) (hH : 0 ≤ doc ∧ doc < (ds.length : Int)) (hL : 0 ≤ at' ∧ n < 0) :
    Calls Try.prog 9 #[.slice a ds.length cap, .slice a1 len cap1, .int .i64 doc, .int .i64 at', .int .i64 n, .int .i64 most] w fun e w' => e = .returned (.bool true) ∧ Below w.heap.size w w' := by
  obtain ⟨P, hd, hdr, hpb⟩ := bytes_list hr
  subst hd
  unfold maxLen at hl
  have HF := Lib.hid (few_any w a cap A C ds hin.many hin.docs hin.long)
  have HIN := Lib.hid hin
  have HP := Lib.hid hdr
  have HPB := Lib.hid hpb
  have em : bits .and .i64 most 15 = most % 16 := i64_mask most 4 (by omega)
  obtain ⟨mo, hmo, hmo2⟩ : ∃ mo : Nat, most % 16 = mo ∧ mo ≤ 15 := ⟨(most % 16).toNat, by omega, by omega⟩
  rw [hmo] at em
  clear hin hr hdr hpb hmo
  go_enter Try.func9, Try.ntmps9
  go_wp2_with fail
  refine HF.out.mono ?_
  rintro e w' ⟨b, rfl, hfew, rfl⟩
  cases b with
  | false =>
    clear hfew
    go_wp2_with (go_at_call 28; refine (awake14_any _).mono ?_; rintro e w1 ⟨rfl, hb⟩)
    go_ret
    exact ⟨rfl, hb⟩
  | true =>
    obtain ⟨hf1, hf2, hf3⟩ := hfew rfl
    have HFEW := Lib.hid (FewP.mk hf1 hf2 hf3 HIN.out.byte)
    have HOK := Lib.hid HFEW.out.ok
    clear hfew hf2 HF
    by_cases hp : (200 : Int) < (P.length : Int)
    · go_wp2_with (go_at_call 28; refine (awake14_any _).mono ?_; rintro e w1 ⟨rfl, hb⟩)
      go_ret
      exact ⟨rfl, hb⟩
    · have hpd : decide ((200 : Int) < (P.length : Int)) = false := by simp; omega
      have hpd2 : decide (200 < P.length) = false := by simp; omega
      have hp2 : P.length ≤ 200 := by omega
      clear hp hl
      have HSTR := Lib.hid (strings_any w a cap A C ds (by omega) HIN.out.docs)
      go_wp2_with fail
      refine HSTR.out.mono ?_
      rintro e w1 ⟨ax, cx, rfl, hrs, hb1⟩
      have HS1 := Lib.hid hrs
      have HB1 := Lib.hid hb1
      have HNW := Lib.hid (fnew_any w1 a cap A C ds (HIN.out.docs.kept hb1) HOK.out)
      clear hrs hb1 HSTR hpd hpd2
      go_wp2_with fail
      refine HNW.out.mono ?_
      rintro e w2 ⟨bf, rfl, hf, hb2, -⟩
      have HF2 := Lib.hid hf
      have HB2 : Hid (Below w.heap.size w w2) := below_next HB1.out hb2 HB1.out.size
      have HS2 := Lib.hid (HS1.out.kept hb2)
      have hrl := rows_len ds
      have HDN := Lib.hid (fdocs_any w2 bf ds HF2.out)
      have HLN0 := flen_any w2 bf ds HF2.out
      rw [bwtOf_len] at HLN0
      have HLN := Lib.hid HLN0
      clear HLN0
      have HRL := Lib.hid (reflen_any w2 ax cx ds HS2.out (by omega))
      have HP2 := Lib.hid (HP.out.kept HB2.out)
      have hcv := conv_str w2 a1 P cap1 HP2.out
      have HFD := Lib.hid (reffind_all w2 ax cx ds HS2.out HFEW.out.byte (by omega) P HPB.out (by omega))
      clear hf hb2 HS1 HB1 HNW
      go_wp2_with (first
        | (go_at_call 30; refine HDN.out.mono ?_; rintro e w' ⟨rfl, rfl⟩)
        | (go_at_call 31; refine HLN.out.mono ?_; rintro e w' ⟨rfl, rfl⟩)
        | (go_at_call 32; refine HRL.out.mono ?_; rintro e w' ⟨rfl, rfl⟩)
        | fail)
      refine HFD.out.mono ?_
      rintro e w4 ⟨a9, c9, rfl, hr9, hb4, hc9, hn9⟩
      have HR9 := Lib.hid hr9
      have HF4 := Lib.hid (HF2.out.kept hb4)
      have HB4 : Hid (Below w.heap.size w w4) := below_next HB2.out hb4 HB2.out.size
      have HS4 := Lib.hid (HS2.out.kept hb4)
      have HP4 := Lib.hid (HP2.out.kept hb4)
      have hlen : (locL ds P).length ≤ 60000 := by
        unfold locL
        split
        · exact Nat.zero_le _
        · rw [hitL_len ds P _ _ (bkR_is ds HOK.out.byte P)]
          have h1 := (bkR_is ds HOK.out.byte P).len
          have h2 := rows_len ds
          have h3 := HOK.out.all
          omega
      have HFA := Lib.hid (fun W (hW : Below w4.heap.size w4 W) => fhits_any W bf ds (HF4.out.kept hW) HOK.out P HPB.out (by omega) 100000 (by omega))
      unfold FHitsPost at HFA
      rw [List.take_of_length_le (show (locL ds P).length ≤ 100000 by omega)] at HFA
      simp only [Int.cast_ofNat_Int] at HFA
      have HCV4 : Hid (∀ W, Below w4.heap.size w4 W → (convert 22 9 (.slice a1 P.length cap1)).run Try.prog W = .ok (.string (sB P)) W) := fun W hW => conv_str W a1 P cap1 (HP4.out.kept hW)
      have HB4d : Below w4.heap.size w4 w4.drew := (Below.refl _ _).drew
      have HCT := Lib.hid (fcount_all w4.drew bf ds HOK.out (HF4.out.kept HB4d) a1 cap1 P (by omega) HPB.out (HP4.out.kept HB4d))
      clear hr9 hb4 HDN HLN HRL HFD HS2 HF2 HP2 HB2 hcv
      generalize hL : locL ds P = L at *
      have HLL := Lib.hid hL
      clear hL
      obtain ⟨kk, hkk⟩ : ∃ kk, kk = min mo L.length := ⟨_, rfl⟩
      have HFB := Lib.hid (fun W (hW : Below w4.heap.size w4 W) => fhits_any W bf ds (HF4.out.kept hW) HOK.out P HPB.out (by omega) mo (by omega))
      unfold FHitsPost at HFB
      rw [HLL.out] at HFB
      have HTK := Lib.hid (show (L.take mo).length = kk by rw [List.length_take]; omega)
      have em2 : min (mo : Int) (L.length : Int) = (kk : Int) := by omega
      rw [HTK.out] at HFB
      have hct := cut_toH a9 L.length c9 kk (by omega) hc9 hn9
      have HRT : Hid (HRow w4 a9 (L.take mo)) := HR9.out.take mo
      have hcv4 := HCV4.out _ HB4d
      clear hn9 hc9 hkk HLL
      go_upto_region 9 with fail
      go_wp2_with fail
      have hcv4 := HCV4.out _ HB4d
      go_wp2_with fail
      refine wp_region_any (by kernel_rfl) ?_
      change wpAny _ _ _ _ _ #[false, false, false, false, false, false, false, false, false, false, false, false, false, false, false, false, false, false, false, false, false, false, false, false, false, false, false, false] _ (World.drew _)
      refine wpAny_take (i := 0) (v := ?_) rfl (by kernel_rfl) (by kernel_rfl) (by kernel_rfl) (fun _ _ _ h => h) (Or.inl ⟨by rfl, ?_⟩) ?_
      rotate_left
      · intro w
        go_simp
        with_reducible rfl
      change wpAny _ _ _ _ _ _ (Act.put _ (some 75) _) _
      go_frame
      refine wpAny_take (i := 1) (v := ?_) rfl (by kernel_rfl) (by kernel_rfl) (by kernel_rfl) (fun _ _ _ h => h) (Or.inl ⟨by rfl, ?_⟩) ?_
      rotate_left
      · intro w
        go_simp
        with_reducible rfl
      change wpAny _ _ _ _ _ _ (Act.put _ (some 76) _) _
      go_frame
      refine wpAny_take (i := 3) (v := ?_) rfl (by kernel_rfl) (by kernel_rfl) (by kernel_rfl) (fun _ _ _ h => h) (Or.inl ⟨by rfl, ?_⟩) ?_
      rotate_left
      · intro w
        go_simp
        with_reducible rfl
      change wpAny _ _ _ _ _ _ (Act.put _ (some 78) _) _
      go_frame
      refine wpAny_take (i := 4) (v := ?_) rfl (by kernel_rfl) (by kernel_rfl) (by kernel_rfl) (fun _ _ _ h => h) (Or.inl ⟨by rfl, ?_⟩) ?_
      rotate_left
      · intro w
        go_simp
        with_reducible rfl
      change wpAny _ _ _ _ _ _ (Act.put _ (some 79) _) _
      go_frame
      refine wpAny_ready (rs := [2]) (by kernel_rfl) (by simp) ?_
      refine AllReady.cons rfl (fun K hK => ?_) AllReady.nil
      go_simp
      refine HCT.out.mono ?_
      rintro e w5 ⟨rfl, hb5⟩
      have HB5 : Hid (Below w4.heap.size w4 w5) := below_next HB4d hb5 HB4d.size
      have hcv5 := HCV4.out _ HB5.out
      clear hb5 hcv4 HCT
      refine hK _ _ ?_
      clear hK K
      go_frame
      refine wpAny_take (i := 5) (v := ?_) rfl (by kernel_rfl) (by kernel_rfl) (by kernel_rfl) (fun _ _ _ h => h) (Or.inl ⟨by rfl, ?_⟩) ?_
      rotate_left
      · intro w
        go_simp
        with_reducible rfl
      change wpAny _ _ _ _ _ _ (Act.put _ (some 80) _) _
      go_frame
      refine wpAny_take (i := 6) (v := ?_) rfl (by kernel_rfl) (by kernel_rfl) (by kernel_rfl) (fun _ _ _ h => h) (Or.inl ⟨by rfl, ?_⟩) ?_
      rotate_left
      · intro w
        go_simp
        with_reducible rfl
      change wpAny _ _ _ _ _ _ (Act.put _ (some 81) _) _
      go_frame
      refine wpAny_take (i := 7) (v := ?_) rfl (by kernel_rfl) (by kernel_rfl) (by kernel_rfl) (fun _ _ _ h => h) (Or.inl ⟨by rfl, ?_⟩) ?_
      rotate_left
      · intro w
        go_simp
        with_reducible rfl
      change wpAny _ _ _ _ _ _ (Act.put _ (some 82) _) _
      go_frame
      refine wpAny_take (i := 8) (v := ?_) rfl (by kernel_rfl) (by kernel_rfl) (by kernel_rfl) (fun _ _ _ h => h) (Or.inl ⟨by rfl, ?_⟩) ?_
      rotate_left
      · intro w
        go_simp
        with_reducible rfl
      change wpAny _ _ _ _ _ _ (Act.put _ (some 83) _) _
      go_frame
      refine wpAny_take (i := 11) (v := ?_) rfl (by kernel_rfl) (by kernel_rfl) (by kernel_rfl) (fun _ _ _ h => h) (Or.inl ⟨by rfl, ?_⟩) ?_
      rotate_left
      · intro w
        go_simp
        with_reducible rfl
      change wpAny _ _ _ _ _ _ (Act.put _ (some 86) _) _
      go_frame
      refine wpAny_ready (rs := [9]) (by kernel_rfl) (by simp) ?_
      refine AllReady.cons rfl (fun K hK => ?_) AllReady.nil
      go_simp
      refine hK _ _ ?_
      clear hK K
      go_frame
      refine wpAny_ready (rs := [10]) (by kernel_rfl) (by simp) ?_
      refine AllReady.cons rfl (fun K hK => ?_) AllReady.nil
      go_simp
      refine (HFA.out _ HB5.out).mono ?_
      rintro e w6 ⟨a6, c6, rfl, hr6, hb6⟩
      have HB6 : Hid (Below w4.heap.size w4 w6) := below_next HB5.out hb6 HB5.out.size
      have HR6 := Lib.hid hr6
      clear hr6 hb6
      refine hK _ _ ?_
      clear hK K
      go_frame
      refine wpAny_ready (rs := [12]) (by kernel_rfl) (by simp) ?_
      refine AllReady.cons rfl (fun K hK => ?_) AllReady.nil
      go_simp
      refine (samehits_any _ a6 a9 c6 c9 L (by omega) HR6.out (HR9.out.kept HB6.out)).mono ?_
      rintro e w' ⟨rfl, j6, rfl⟩
      have HB7 : Hid (Below w4.heap.size w4 (w6.drewN j6)) := below_drewN HB6.out j6
      have hcv7 := HCV4.out _ HB7.out
      refine hK _ _ ?_
      clear hK K
      go_frame
      refine wpAny_take (i := 13) (v := ?_) rfl (by kernel_rfl) (by kernel_rfl) (by kernel_rfl) (fun _ _ _ h => h) (Or.inl ⟨by rfl, ?_⟩) ?_
      rotate_left
      · intro w
        go_simp
        with_reducible rfl
      change wpAny _ _ _ _ _ _ (Act.put _ (some 88) _) _
      go_frame
      refine wpAny_take (i := 14) (v := ?_) rfl (by kernel_rfl) (by kernel_rfl) (by kernel_rfl) (fun _ _ _ h => h) (Or.inl ⟨by rfl, ?_⟩) ?_
      rotate_left
      · intro w
        go_simp
        with_reducible rfl
      change wpAny _ _ _ _ _ _ (Act.put _ (some 89) _) _
      go_frame
      refine wpAny_take (i := 15) (v := ?_) rfl (by kernel_rfl) (by kernel_rfl) (by kernel_rfl) (fun _ _ _ h => h) (Or.inl ⟨by rfl, ?_⟩) ?_
      rotate_left
      · intro w
        go_simp
        with_reducible rfl
      change wpAny _ _ _ _ _ _ (Act.put _ (some 90) _) _
      go_frame
      refine wpAny_take (i := 16) (v := ?_) rfl (by kernel_rfl) (by kernel_rfl) (by kernel_rfl) (fun _ _ _ h => h) (Or.inl ⟨by rfl, ?_⟩) ?_
      rotate_left
      · intro w
        go_simp
        with_reducible rfl
      change wpAny _ _ _ _ _ _ (Act.put _ (some 91) _) _
      go_frame
      refine wpAny_take (i := 17) (v := ?_) rfl (by kernel_rfl) (by kernel_rfl) (by kernel_rfl) (fun _ _ _ h => h) (Or.inl ⟨by rfl, ?_⟩) ?_
      rotate_left
      · intro w
        go_simp
        with_reducible rfl
      change wpAny _ _ _ _ _ _ (Act.put _ (some 92) _) _
      go_frame
      refine wpAny_take (i := 19) (v := ?_) rfl (by kernel_rfl) (by kernel_rfl) (by kernel_rfl) (fun _ _ _ h => h) (Or.inl ⟨by rfl, ?_⟩) ?_
      rotate_left
      · intro w
        go_simp
        with_reducible rfl
      change wpAny _ _ _ _ _ _ (Act.put _ (some 94) _) _
      go_frame
      refine wpAny_take (i := 20) (v := ?_) rfl (by kernel_rfl) (by kernel_rfl) (by kernel_rfl) (fun _ _ _ h => h) (Or.inl ⟨by rfl, ?_⟩) ?_
      rotate_left
      · intro w
        go_simp
        with_reducible rfl
      change wpAny _ _ _ _ _ _ (Act.put _ (some 95) _) _
      go_frame
      refine wpAny_take (i := 22) (v := ?_) rfl (by kernel_rfl) (by kernel_rfl) (by kernel_rfl) (fun _ _ _ h => h) (Or.inl ⟨by rfl, ?_⟩) ?_
      rotate_left
      · intro w
        go_simp
        with_reducible rfl
      change wpAny _ _ _ _ _ _ (Act.put _ (some 97) _) _
      go_frame
      refine wpAny_take (i := 23) (v := ?_) rfl (by kernel_rfl) (by kernel_rfl) (by kernel_rfl) (fun _ _ _ h => h) (Or.inl ⟨by rfl, ?_⟩) ?_
      rotate_left
      · intro w
        go_simp
        with_reducible rfl
      change wpAny _ _ _ _ _ _ (Act.put _ (some 98) _) _
      go_frame
      refine wpAny_take (i := 24) (v := ?_) rfl (by kernel_rfl) (by kernel_rfl) (by kernel_rfl) (fun _ _ _ h => h) (Or.inl ⟨by rfl, ?_⟩) ?_
      rotate_left
      · intro w
        go_simp
        with_reducible rfl
      change wpAny _ _ _ _ _ _ (Act.put _ (some 99) _) _
      go_frame
      refine wpAny_ready (rs := [18]) (by kernel_rfl) (by simp) ?_
      refine AllReady.cons rfl (fun K hK => ?_) AllReady.nil
      go_simp
      refine hK _ _ ?_
      clear hK K
      go_frame
      refine wpAny_ready (rs := [21]) (by kernel_rfl) (by simp) ?_
      refine AllReady.cons rfl (fun K hK => ?_) AllReady.nil
      go_simp
      refine (HFB.out _ HB7.out).mono ?_
      rintro e w8 ⟨a8, c8, rfl, hr8, hb8⟩
      have HB8 : Hid (Below w4.heap.size w4 w8) := below_next HB7.out hb8 HB7.out.size
      have HSH := Lib.hid (samehits_any w8 a8 a9 c8 c9 (L.take mo) (by have := HTK.out; omega) hr8 (HRT.out.kept HB8.out))
      rw [HTK.out] at HSH
      clear hr8 hb8
      refine hK _ _ ?_
      clear hK K
      go_frame
      refine wpAny_ready (rs := [25]) (by kernel_rfl) (by simp) ?_
      refine AllReady.cons rfl (fun K hK => ?_) AllReady.nil
      go_simp
      refine HSH.out.mono ?_
      rintro e w' ⟨rfl, j8, rfl⟩
      have HB9 : Hid (Below w4.heap.size w4 (w8.drewN j8)) := below_drewN HB8.out j8
      refine hK _ _ ?_
      clear hK K
      go_frame
      refine wpAny_take (i := 26) (v := ?_) rfl (by kernel_rfl) (by kernel_rfl) (by kernel_rfl) (fun _ _ _ h => h) (Or.inl ⟨by rfl, ?_⟩) ?_
      rotate_left
      · intro w
        go_simp
        with_reducible rfl
      change wpAny _ _ _ _ _ _ (Act.put _ (some 101) _) _
      go_frame
      refine wpAny_take (i := 27) (v := ?_) rfl (by kernel_rfl) (by kernel_rfl) (by kernel_rfl) (fun _ _ _ h => h) (Or.inl ⟨by rfl, ?_⟩) ?_
      rotate_left
      · intro w
        go_simp
        with_reducible rfl
      change wpAny _ _ _ _ _ _ (Act.put _ (some 102) _) _
      go_frame
      refine wpAny_done (by kernel_rfl) ?_ _
      obtain ⟨j, rfl, hj⟩ : ∃ j : Nat, doc = (j : Int) ∧ j < ds.length := ⟨doc.toNat, by omega, by omega⟩
      have h2 : (j : Int) < (ds.length : Int) := by omega
      have t3 : (0 : Int) ≤ at' := by omega
      have t4 : decide (0 ≤ n) = false := by simp; omega
      have HGS := Lib.hid (fun W (hW : Below w4.heap.size w4 W) => get_S W bf ds HOK.out (HF4.out.kept hW) (j : Int))
      have HPS := Lib.hid (fun W (hW : Below w4.heap.size w4 W) => piece_S W bf ds HOK.out (HF4.out.kept hW) (j : Int) at' n hat' hn)
      have hdl := HOK.out.long _ (doc_mem hj)
      have hx := fun W => (run_ix (P := Try.prog) 40 (by kernel_rfl) size_str ax ds.length cx HS4.out.at_ .i64) W j hj
      have hsr := (HS4.out.kept HB9.out).cell j hj
      have d0 : (w8.drewN j8).cell? ⟨bOf ax, oOf ax + j, none⟩ = some (.string (sB (ds.getD j []))) := hsr
      rw [show whL ds (j : Int) = ds.getD j [] by unfold whL; rw [if_pos (by omega), Int.toNat_natCast], decide_eq_true (p := 0 ≤ (j : Int) ∧ (j : Int) < (ds.length : Int)) (by omega)] at HGS
      rw [show pcL ds (j : Int) at' n = [] from if_neg (by omega), sB_nil, List.length_nil, decide_eq_false (p := 0 ≤ (j : Int) ∧ (j : Int) < (ds.length : Int) ∧ 0 ≤ at' ∧ 0 ≤ n) (by omega)] at HPS
      have hsz := sB_size (ds.getD j [])
      generalize hwl : (ds.getD j []).length = wl at *
      generalize sB (ds.getD j []) = sw at *
      clear hsr hwl
      have HD1E := fun W (hW : Below w4.heap.size w4 W) => fdocsL_any W bf ds (HF4.out.kept hW) HOK.out 1000 (by omega)
      unfold FDocsPost at HD1E
      rw [show min 1000 ds.length = ds.length by omega] at HD1E
      simp only [Int.cast_ofNat_Int] at HD1E
      have HD1 := Lib.hid HD1E
      have HD2E := fun W (hW : Below w4.heap.size w4 W) => fdocsL_any W bf ds (HF4.out.kept hW) HOK.out 2 (by omega)
      unfold FDocsPost at HD2E
      obtain ⟨mm, hmm⟩ : ∃ mm, mm = min 2 ds.length := ⟨_, rfl⟩
      rw [← hmm] at HD2E
      simp only [Int.cast_ofNat_Int] at HD2E
      have HD2 := Lib.hid HD2E
      have em3 : min (2 : Int) (ds.length : Int) = (mm : Int) := by omega
      clear HD1E HD2E hmm hcv5 hcv7 HFA HFB HSH HCV4 HB4d em em2 hct HRT HTK HR9 HR6 HB5 HB6 HB7 HB8 hlen
      go_wp2_with fail
      refine (HGS.out _ (by first | exact HB9.out | exact HB9.out.drew | exact below_drewN HB9.out _)).mono ?_
      rintro e w10 ⟨a10, rfl, hcv10, hb10⟩
      have HB10 : Hid (Below w4.heap.size w4 w10) := by
        show Below _ _ _
        first
          | exact below_next HB9.out hb10 HB9.out.size
          | exact below_next HB9.out.drew hb10 HB9.out.drew.size
          | exact below_next (below_drewN HB9.out _) hb10 (below_drewN HB9.out _).size
      have HCV10 := Lib.hid hcv10
      clear hcv10 hb10 HB9
      go_wp2_with fail
      refine (HPS.out _ HB10.out).mono ?_
      rintro e w11 ⟨a11, rfl, hcv11, hb11⟩
      have HB11 : Hid (Below w4.heap.size w4 w11) := below_next HB10.out hb11 HB10.out.size
      have hc20 := HCV10.out _ hb11
      have hc21 := hcv11 _ (Below.refl _ _)
      clear hcv11 hb11 HCV10 HB10 HGS HPS
      go_wp2_with fail
      refine (HD1.out _ HB11.out).mono ?_
      rintro e w12 ⟨a12, c12, rfl, hr12, hb12⟩
      have HB12 : Hid (Below w4.heap.size w4 w12) := below_next HB11.out hb12 HB11.out.size
      have HR12 := Lib.hid hr12
      clear hr12 hb12 HB11 HD1 hc20 hc21
      go_wp2_with fail
      refine (HD2.out _ HB12.out).mono ?_
      rintro e w13 ⟨a13, c13, rfl, hr13, hb13⟩
      have HB13 : Hid (Below w4.heap.size w4 w13) := below_next HB12.out hb13 HB12.out.size
      have hst := sametexts_any w13 a12 ax c12 cx ds ds (by omega) HFEW.out.byte HFEW.out.byte (HR12.out.kept hb13) (HS4.out.kept HB13.out)
      rw [decide_eq_true rfl] at hst
      have HST := Lib.hid hst
      clear hr13 hb13 HB12 HR12 HD2 hst
      go_wp2_with fail
      refine HST.out.mono ?_
      rintro e w' ⟨rfl, j13, rfl⟩
      have HB14 : Hid (Below w4.heap.size w4 (w13.drewN j13)) := below_drewN HB13.out j13
      have HSY := Lib.hid (fsyms_any _ bf ds (HF4.out.kept HB14.out))
      clear HST
      go_wp2_with fail
      refine HSY.out.mono ?_
      rintro e w15 ⟨a15, rfl, hr15, hb15⟩
      have HB15 : Hid (Below w4.heap.size w4 w15) := below_next HB14.out hb15 HB14.out.size
      have HR15 := Lib.hid hr15
      have HRB := Lib.hid (refbwt_any w15 ax cx ds (HS4.out.kept HB15.out) HFEW.out.byte (by omega))
      clear hr15 hb15 HSY
      go_wp2_with fail
      refine HRB.out.mono ?_
      rintro e w16 ⟨a16, c16, rfl, ho16, hb16⟩
      have HB16 : Hid (Below w4.heap.size w4 w16) := below_next HB15.out hb16 HB15.out.size
      have hss := samesyms_any w16 a15 a16 (bwtOf ds).length c16 (bwtOf ds) (bwtOf ds) (by rw [bwtOf_len]; omega) (by rw [bwtOf_len]; omega) (HR15.out.kept hb16) (symVs_row ho16)
      rw [decide_eq_true rfl] at hss
      have HSS := Lib.hid hss
      clear ho16 hb16 HRB hss
      go_wp2_with fail
      refine HSS.out.mono ?_
      rintro e w' ⟨rfl, j16, rfl⟩
      have HB17 : Hid (Below w4.heap.size w4 (w16.drewN j16)) := below_drewN HB16.out j16
      clear HSS
      go_wp2_with (go_at_call 28; refine (awake14_any _).mono ?_; rintro e w18 ⟨rfl, hb18⟩)
      go_ret
      exact ⟨rfl, below_next HB4.out (below_next HB17.out hb18 HB17.out.size) HB4.out.size⟩
set_option maxRecDepth 100000 in
set_option maxHeartbeats 4000000 in
theorem fmtells_e (w : World) (a : Option Addr) (cap : Nat) (A : Nat → Option Addr) (C : Nat → Nat) (ds : List (List Nat)) (hin : DocsIn w a A C ds) (a1 : Option Addr) (len cap1 : Nat) (f : Nat → Int) (hl : len ≤ maxLen) (hr : Row w a1 len (fun k => .int .u8 (f k)) ∧ ∀ k, k < len → (Lit.int .u8 (f k)).wf = true) (doc : Int) (_ : (Lit.int .i64 doc).wf = true) (at' : Int) (hat' : (Lit.int .i64 at').wf = true) (n : Int) (hn : (Lit.int .i64 n).wf = true) (most : Int) (_ : (Lit.int .i64 most).wf = true) (hH : 0 ≤ doc ∧ doc < (ds.length : Int)) (hL : 0 ≤ at' ∧ 0 ≤ n ∧ True ∧ at' < ((ds.getD doc.toNat []).length : Int)) :
    Calls Try.prog 9 #[.slice a ds.length cap, .slice a1 len cap1, .int .i64 doc, .int .i64 at', .int .i64 n, .int .i64 most] w fun e w' => e = .returned (.bool true) ∧ Below w.heap.size w w' := by
  obtain ⟨P, hd, hdr, hpb⟩ := bytes_list hr
  subst hd
  unfold maxLen at hl
  have HF := Lib.hid (few_any w a cap A C ds hin.many hin.docs hin.long)
  have HIN := Lib.hid hin
  have HP := Lib.hid hdr
  have HPB := Lib.hid hpb
  have em : bits .and .i64 most 15 = most % 16 := i64_mask most 4 (by omega)
  obtain ⟨mo, hmo, hmo2⟩ : ∃ mo : Nat, most % 16 = mo ∧ mo ≤ 15 := ⟨(most % 16).toNat, by omega, by omega⟩
  rw [hmo] at em
  clear hin hr hdr hpb hmo
  go_enter Try.func9, Try.ntmps9
  go_wp2_with fail
  refine HF.out.mono ?_
  rintro e w' ⟨b, rfl, hfew, rfl⟩
  cases b with
  | false =>
    clear hfew
    go_wp2_with (go_at_call 28; refine (awake14_any _).mono ?_; rintro e w1 ⟨rfl, hb⟩)
    go_ret
    exact ⟨rfl, hb⟩
  | true =>
    obtain ⟨hf1, hf2, hf3⟩ := hfew rfl
    have HFEW := Lib.hid (FewP.mk hf1 hf2 hf3 HIN.out.byte)
    have HOK := Lib.hid HFEW.out.ok
    clear hfew hf2 HF
    by_cases hp : (200 : Int) < (P.length : Int)
    · go_wp2_with (go_at_call 28; refine (awake14_any _).mono ?_; rintro e w1 ⟨rfl, hb⟩)
      go_ret
      exact ⟨rfl, hb⟩
    · have hpd : decide ((200 : Int) < (P.length : Int)) = false := by simp; omega
      have hpd2 : decide (200 < P.length) = false := by simp; omega
      have hp2 : P.length ≤ 200 := by omega
      clear hp hl
      have HSTR := Lib.hid (strings_any w a cap A C ds (by omega) HIN.out.docs)
      go_wp2_with fail
      refine HSTR.out.mono ?_
      rintro e w1 ⟨ax, cx, rfl, hrs, hb1⟩
      have HS1 := Lib.hid hrs
      have HB1 := Lib.hid hb1
      have HNW := Lib.hid (fnew_any w1 a cap A C ds (HIN.out.docs.kept hb1) HOK.out)
      clear hrs hb1 HSTR hpd hpd2
      go_wp2_with fail
      refine HNW.out.mono ?_
      rintro e w2 ⟨bf, rfl, hf, hb2, -⟩
      have HF2 := Lib.hid hf
      have HB2 : Hid (Below w.heap.size w w2) := below_next HB1.out hb2 HB1.out.size
      have HS2 := Lib.hid (HS1.out.kept hb2)
      have hrl := rows_len ds
      have HDN := Lib.hid (fdocs_any w2 bf ds HF2.out)
      have HLN0 := flen_any w2 bf ds HF2.out
      rw [bwtOf_len] at HLN0
      have HLN := Lib.hid HLN0
      clear HLN0
      have HRL := Lib.hid (reflen_any w2 ax cx ds HS2.out (by omega))
      have HP2 := Lib.hid (HP.out.kept HB2.out)
      have hcv := conv_str w2 a1 P cap1 HP2.out
      have HFD := Lib.hid (reffind_all w2 ax cx ds HS2.out HFEW.out.byte (by omega) P HPB.out (by omega))
      clear hf hb2 HS1 HB1 HNW
      go_wp2_with (first
        | (go_at_call 30; refine HDN.out.mono ?_; rintro e w' ⟨rfl, rfl⟩)
        | (go_at_call 31; refine HLN.out.mono ?_; rintro e w' ⟨rfl, rfl⟩)
        | (go_at_call 32; refine HRL.out.mono ?_; rintro e w' ⟨rfl, rfl⟩)
        | fail)
      refine HFD.out.mono ?_
      rintro e w4 ⟨a9, c9, rfl, hr9, hb4, hc9, hn9⟩
      have HR9 := Lib.hid hr9
      have HF4 := Lib.hid (HF2.out.kept hb4)
      have HB4 : Hid (Below w.heap.size w w4) := below_next HB2.out hb4 HB2.out.size
      have HS4 := Lib.hid (HS2.out.kept hb4)
      have HP4 := Lib.hid (HP2.out.kept hb4)
      have hlen : (locL ds P).length ≤ 60000 := by
        unfold locL
        split
        · exact Nat.zero_le _
        · rw [hitL_len ds P _ _ (bkR_is ds HOK.out.byte P)]
          have h1 := (bkR_is ds HOK.out.byte P).len
          have h2 := rows_len ds
          have h3 := HOK.out.all
          omega
      have HFA := Lib.hid (fun W (hW : Below w4.heap.size w4 W) => fhits_any W bf ds (HF4.out.kept hW) HOK.out P HPB.out (by omega) 100000 (by omega))
      unfold FHitsPost at HFA
      rw [List.take_of_length_le (show (locL ds P).length ≤ 100000 by omega)] at HFA
      simp only [Int.cast_ofNat_Int] at HFA
      have HCV4 : Hid (∀ W, Below w4.heap.size w4 W → (convert 22 9 (.slice a1 P.length cap1)).run Try.prog W = .ok (.string (sB P)) W) := fun W hW => conv_str W a1 P cap1 (HP4.out.kept hW)
      have HB4d : Below w4.heap.size w4 w4.drew := (Below.refl _ _).drew
      have HCT := Lib.hid (fcount_all w4.drew bf ds HOK.out (HF4.out.kept HB4d) a1 cap1 P (by omega) HPB.out (HP4.out.kept HB4d))
      clear hr9 hb4 HDN HLN HRL HFD HS2 HF2 HP2 HB2 hcv
      generalize hL : locL ds P = L at *
      have HLL := Lib.hid hL
      clear hL
      obtain ⟨kk, hkk⟩ : ∃ kk, kk = min mo L.length := ⟨_, rfl⟩
      have HFB := Lib.hid (fun W (hW : Below w4.heap.size w4 W) => fhits_any W bf ds (HF4.out.kept hW) HOK.out P HPB.out (by omega) mo (by omega))
      unfold FHitsPost at HFB
      rw [HLL.out] at HFB
      have HTK := Lib.hid (show (L.take mo).length = kk by rw [List.length_take]; omega)
      have em2 : min (mo : Int) (L.length : Int) = (kk : Int) := by omega
      rw [HTK.out] at HFB
      have hct := cut_toH a9 L.length c9 kk (by omega) hc9 hn9
      have HRT : Hid (HRow w4 a9 (L.take mo)) := HR9.out.take mo
      have hcv4 := HCV4.out _ HB4d
      clear hn9 hc9 hkk HLL
      go_upto_region 9 with fail
      go_wp2_with fail
      have hcv4 := HCV4.out _ HB4d
      go_wp2_with fail
      refine wp_region_any (by kernel_rfl) ?_
      change wpAny _ _ _ _ _ #[false, false, false, false, false, false, false, false, false, false, false, false, false, false, false, false, false, false, false, false, false, false, false, false, false, false, false, false] _ (World.drew _)
      refine wpAny_take (i := 0) (v := ?_) rfl (by kernel_rfl) (by kernel_rfl) (by kernel_rfl) (fun _ _ _ h => h) (Or.inl ⟨by rfl, ?_⟩) ?_
      rotate_left
      · intro w
        go_simp
        with_reducible rfl
      change wpAny _ _ _ _ _ _ (Act.put _ (some 75) _) _
      go_frame
      refine wpAny_take (i := 1) (v := ?_) rfl (by kernel_rfl) (by kernel_rfl) (by kernel_rfl) (fun _ _ _ h => h) (Or.inl ⟨by rfl, ?_⟩) ?_
      rotate_left
      · intro w
        go_simp
        with_reducible rfl
      change wpAny _ _ _ _ _ _ (Act.put _ (some 76) _) _
      go_frame
      refine wpAny_take (i := 3) (v := ?_) rfl (by kernel_rfl) (by kernel_rfl) (by kernel_rfl) (fun _ _ _ h => h) (Or.inl ⟨by rfl, ?_⟩) ?_
      rotate_left
      · intro w
        go_simp
        with_reducible rfl
      change wpAny _ _ _ _ _ _ (Act.put _ (some 78) _) _
      go_frame
      refine wpAny_take (i := 4) (v := ?_) rfl (by kernel_rfl) (by kernel_rfl) (by kernel_rfl) (fun _ _ _ h => h) (Or.inl ⟨by rfl, ?_⟩) ?_
      rotate_left
      · intro w
        go_simp
        with_reducible rfl
      change wpAny _ _ _ _ _ _ (Act.put _ (some 79) _) _
      go_frame
      refine wpAny_ready (rs := [2]) (by kernel_rfl) (by simp) ?_
      refine AllReady.cons rfl (fun K hK => ?_) AllReady.nil
      go_simp
      refine HCT.out.mono ?_
      rintro e w5 ⟨rfl, hb5⟩
      have HB5 : Hid (Below w4.heap.size w4 w5) := below_next HB4d hb5 HB4d.size
      have hcv5 := HCV4.out _ HB5.out
      clear hb5 hcv4 HCT
      refine hK _ _ ?_
      clear hK K
      go_frame
      refine wpAny_take (i := 5) (v := ?_) rfl (by kernel_rfl) (by kernel_rfl) (by kernel_rfl) (fun _ _ _ h => h) (Or.inl ⟨by rfl, ?_⟩) ?_
      rotate_left
      · intro w
        go_simp
        with_reducible rfl
      change wpAny _ _ _ _ _ _ (Act.put _ (some 80) _) _
      go_frame
      refine wpAny_take (i := 6) (v := ?_) rfl (by kernel_rfl) (by kernel_rfl) (by kernel_rfl) (fun _ _ _ h => h) (Or.inl ⟨by rfl, ?_⟩) ?_
      rotate_left
      · intro w
        go_simp
        with_reducible rfl
      change wpAny _ _ _ _ _ _ (Act.put _ (some 81) _) _
      go_frame
      refine wpAny_take (i := 7) (v := ?_) rfl (by kernel_rfl) (by kernel_rfl) (by kernel_rfl) (fun _ _ _ h => h) (Or.inl ⟨by rfl, ?_⟩) ?_
      rotate_left
      · intro w
        go_simp
        with_reducible rfl
      change wpAny _ _ _ _ _ _ (Act.put _ (some 82) _) _
      go_frame
      refine wpAny_take (i := 8) (v := ?_) rfl (by kernel_rfl) (by kernel_rfl) (by kernel_rfl) (fun _ _ _ h => h) (Or.inl ⟨by rfl, ?_⟩) ?_
      rotate_left
      · intro w
        go_simp
        with_reducible rfl
      change wpAny _ _ _ _ _ _ (Act.put _ (some 83) _) _
      go_frame
      refine wpAny_take (i := 11) (v := ?_) rfl (by kernel_rfl) (by kernel_rfl) (by kernel_rfl) (fun _ _ _ h => h) (Or.inl ⟨by rfl, ?_⟩) ?_
      rotate_left
      · intro w
        go_simp
        with_reducible rfl
      change wpAny _ _ _ _ _ _ (Act.put _ (some 86) _) _
      go_frame
      refine wpAny_ready (rs := [9]) (by kernel_rfl) (by simp) ?_
      refine AllReady.cons rfl (fun K hK => ?_) AllReady.nil
      go_simp
      refine hK _ _ ?_
      clear hK K
      go_frame
      refine wpAny_ready (rs := [10]) (by kernel_rfl) (by simp) ?_
      refine AllReady.cons rfl (fun K hK => ?_) AllReady.nil
      go_simp
      refine (HFA.out _ HB5.out).mono ?_
      rintro e w6 ⟨a6, c6, rfl, hr6, hb6⟩
      have HB6 : Hid (Below w4.heap.size w4 w6) := below_next HB5.out hb6 HB5.out.size
      have HR6 := Lib.hid hr6
      clear hr6 hb6
      refine hK _ _ ?_
      clear hK K
      go_frame
      refine wpAny_ready (rs := [12]) (by kernel_rfl) (by simp) ?_
      refine AllReady.cons rfl (fun K hK => ?_) AllReady.nil
      go_simp
      refine (samehits_any _ a6 a9 c6 c9 L (by omega) HR6.out (HR9.out.kept HB6.out)).mono ?_
      rintro e w' ⟨rfl, j6, rfl⟩
      have HB7 : Hid (Below w4.heap.size w4 (w6.drewN j6)) := below_drewN HB6.out j6
      have hcv7 := HCV4.out _ HB7.out
      refine hK _ _ ?_
      clear hK K
      go_frame
      refine wpAny_take (i := 13) (v := ?_) rfl (by kernel_rfl) (by kernel_rfl) (by kernel_rfl) (fun _ _ _ h => h) (Or.inl ⟨by rfl, ?_⟩) ?_
      rotate_left
      · intro w
        go_simp
        with_reducible rfl
      change wpAny _ _ _ _ _ _ (Act.put _ (some 88) _) _
      go_frame
      refine wpAny_take (i := 14) (v := ?_) rfl (by kernel_rfl) (by kernel_rfl) (by kernel_rfl) (fun _ _ _ h => h) (Or.inl ⟨by rfl, ?_⟩) ?_
      rotate_left
      · intro w
        go_simp
        with_reducible rfl
      change wpAny _ _ _ _ _ _ (Act.put _ (some 89) _) _
      go_frame
      refine wpAny_take (i := 15) (v := ?_) rfl (by kernel_rfl) (by kernel_rfl) (by kernel_rfl) (fun _ _ _ h => h) (Or.inl ⟨by rfl, ?_⟩) ?_
      rotate_left
      · intro w
        go_simp
        with_reducible rfl
      change wpAny _ _ _ _ _ _ (Act.put _ (some 90) _) _
      go_frame
      refine wpAny_take (i := 16) (v := ?_) rfl (by kernel_rfl) (by kernel_rfl) (by kernel_rfl) (fun _ _ _ h => h) (Or.inl ⟨by rfl, ?_⟩) ?_
      rotate_left
      · intro w
        go_simp
        with_reducible rfl
      change wpAny _ _ _ _ _ _ (Act.put _ (some 91) _) _
      go_frame
      refine wpAny_take (i := 17) (v := ?_) rfl (by kernel_rfl) (by kernel_rfl) (by kernel_rfl) (fun _ _ _ h => h) (Or.inl ⟨by rfl, ?_⟩) ?_
      rotate_left
      · intro w
        go_simp
        with_reducible rfl
      change wpAny _ _ _ _ _ _ (Act.put _ (some 92) _) _
      go_frame
      refine wpAny_take (i := 19) (v := ?_) rfl (by kernel_rfl) (by kernel_rfl) (by kernel_rfl) (fun _ _ _ h => h) (Or.inl ⟨by rfl, ?_⟩) ?_
      rotate_left
      · intro w
        go_simp
        with_reducible rfl
      change wpAny _ _ _ _ _ _ (Act.put _ (some 94) _) _
      go_frame
      refine wpAny_take (i := 20) (v := ?_) rfl (by kernel_rfl) (by kernel_rfl) (by kernel_rfl) (fun _ _ _ h => h) (Or.inl ⟨by rfl, ?_⟩) ?_
      rotate_left
      · intro w
        go_simp
        with_reducible rfl
      change wpAny _ _ _ _ _ _ (Act.put _ (some 95) _) _
      go_frame
      refine wpAny_take (i := 22) (v := ?_) rfl (by kernel_rfl) (by kernel_rfl) (by kernel_rfl) (fun _ _ _ h => h) (Or.inl ⟨by rfl, ?_⟩) ?_
      rotate_left
      · intro w
        go_simp
        with_reducible rfl
      change wpAny _ _ _ _ _ _ (Act.put _ (some 97) _) _
      go_frame
      refine wpAny_take (i := 23) (v := ?_) rfl (by kernel_rfl) (by kernel_rfl) (by kernel_rfl) (fun _ _ _ h => h) (Or.inl ⟨by rfl, ?_⟩) ?_
      rotate_left
      · intro w
        go_simp
        with_reducible rfl
      change wpAny _ _ _ _ _ _ (Act.put _ (some 98) _) _
      go_frame
      refine wpAny_take (i := 24) (v := ?_) rfl (by kernel_rfl) (by kernel_rfl) (by kernel_rfl) (fun _ _ _ h => h) (Or.inl ⟨by rfl, ?_⟩) ?_
      rotate_left
      · intro w
        go_simp
        with_reducible rfl
      change wpAny _ _ _ _ _ _ (Act.put _ (some 99) _) _
      go_frame
      refine wpAny_ready (rs := [18]) (by kernel_rfl) (by simp) ?_
      refine AllReady.cons rfl (fun K hK => ?_) AllReady.nil
      go_simp
      refine hK _ _ ?_
      clear hK K
      go_frame
      refine wpAny_ready (rs := [21]) (by kernel_rfl) (by simp) ?_
      refine AllReady.cons rfl (fun K hK => ?_) AllReady.nil
      go_simp
      refine (HFB.out _ HB7.out).mono ?_
      rintro e w8 ⟨a8, c8, rfl, hr8, hb8⟩
      have HB8 : Hid (Below w4.heap.size w4 w8) := below_next HB7.out hb8 HB7.out.size
      have HSH := Lib.hid (samehits_any w8 a8 a9 c8 c9 (L.take mo) (by have := HTK.out; omega) hr8 (HRT.out.kept HB8.out))
      rw [HTK.out] at HSH
      clear hr8 hb8
      refine hK _ _ ?_
      clear hK K
      go_frame
      refine wpAny_ready (rs := [25]) (by kernel_rfl) (by simp) ?_
      refine AllReady.cons rfl (fun K hK => ?_) AllReady.nil
      go_simp
      refine HSH.out.mono ?_
      rintro e w' ⟨rfl, j8, rfl⟩
      have HB9 : Hid (Below w4.heap.size w4 (w8.drewN j8)) := below_drewN HB8.out j8
      refine hK _ _ ?_
      clear hK K
      go_frame
      refine wpAny_take (i := 26) (v := ?_) rfl (by kernel_rfl) (by kernel_rfl) (by kernel_rfl) (fun _ _ _ h => h) (Or.inl ⟨by rfl, ?_⟩) ?_
      rotate_left
      · intro w
        go_simp
        with_reducible rfl
      change wpAny _ _ _ _ _ _ (Act.put _ (some 101) _) _
      go_frame
      refine wpAny_take (i := 27) (v := ?_) rfl (by kernel_rfl) (by kernel_rfl) (by kernel_rfl) (fun _ _ _ h => h) (Or.inl ⟨by rfl, ?_⟩) ?_
      rotate_left
      · intro w
        go_simp
        with_reducible rfl
      change wpAny _ _ _ _ _ _ (Act.put _ (some 102) _) _
      go_frame
      refine wpAny_done (by kernel_rfl) ?_ _
      obtain ⟨j, rfl, hj⟩ : ∃ j : Nat, doc = (j : Int) ∧ j < ds.length := ⟨doc.toNat, by omega, by omega⟩
      have h2 : (j : Int) < (ds.length : Int) := by omega
      obtain ⟨k, rfl⟩ : ∃ k : Nat, at' = (k : Int) := ⟨at'.toNat, by omega⟩
      obtain ⟨m, rfl⟩ : ∃ m : Nat, n = (m : Int) := ⟨n.toNat, by omega⟩
      have HGS := Lib.hid (fun W (hW : Below w4.heap.size w4 W) => get_S W bf ds HOK.out (HF4.out.kept hW) (j : Int))
      have HPS := Lib.hid (fun W (hW : Below w4.heap.size w4 W) => piece_S W bf ds HOK.out (HF4.out.kept hW) (j : Int) (k : Int) (m : Int) hat' hn)
      have hdl := HOK.out.long _ (doc_mem hj)
      have hx := fun W => (run_ix (P := Try.prog) 40 (by kernel_rfl) size_str ax ds.length cx HS4.out.at_ .i64) W j hj
      have hsr := (HS4.out.kept HB9.out).cell j hj
      have d0 : (w8.drewN j8).cell? ⟨bOf ax, oOf ax + j, none⟩ = some (.string (sB (ds.getD j []))) := hsr
      rw [show whL ds (j : Int) = ds.getD j [] by unfold whL; rw [if_pos (by omega), Int.toNat_natCast], decide_eq_true (p := 0 ≤ (j : Int) ∧ (j : Int) < (ds.length : Int)) (by omega)] at HGS
      rw [show pcL ds (j : Int) (k : Int) (m : Int) = pieceL (ds.getD j []) k m by unfold pcL; rw [if_pos (by omega), Int.toNat_natCast, Int.toNat_natCast, Int.toNat_natCast], decide_eq_true (p := 0 ≤ (j : Int) ∧ (j : Int) < (ds.length : Int) ∧ 0 ≤ (k : Int) ∧ 0 ≤ (m : Int)) (by omega)] at HPS
      have hkl : k < (ds.getD j []).length := by
        have h := hL.2.2.2
        rw [Int.toNat_natCast] at h
        omega
      obtain ⟨e, he⟩ : ∃ e, e = min m ((ds.getD j []).length - k) := ⟨_, rfl⟩
      have hcu : (sB (ds.getD j [])).extract k (k + e) = sB (pieceL (ds.getD j []) k m) := by
        rw [sB_cut]
        refine congrArg sB ?_
        unfold pieceL
        rw [List.take_eq_take_iff, List.length_drop]
        omega
      have em5 : min (m : Int) (((ds.getD j []).length - k : Nat) : Int) = (e : Int) := by omega
      have y1 : IntKind.i64.wrap (((ds.getD j []).length : Int) - (k : Int)) = (((ds.getD j []).length - k : Nat) : Int) := by rw [show ((ds.getD j []).length : Int) - (k : Int) = (((ds.getD j []).length - k : Nat) : Int) by omega]; exact IntWalk.i64_in _ (by omega)
      have y2 : IntKind.i64.wrap ((k : Int) + (e : Int)) = ((k + e : Nat) : Int) := by rw [show (k : Int) + (e : Int) = ((k + e : Nat) : Int) by omega]; exact IntWalk.i64_in _ (by omega)
      clear he hL
      generalize (pieceL (ds.getD j []) k m).length = pl at *
      generalize sB (pieceL (ds.getD j []) k m) = sp at *
      have hsz := sB_size (ds.getD j [])
      generalize hwl : (ds.getD j []).length = wl at *
      generalize sB (ds.getD j []) = sw at *
      clear hsr hwl
      have t5 : (k : Int) < (wl : Int) := by omega
      have HD1E := fun W (hW : Below w4.heap.size w4 W) => fdocsL_any W bf ds (HF4.out.kept hW) HOK.out 1000 (by omega)
      unfold FDocsPost at HD1E
      rw [show min 1000 ds.length = ds.length by omega] at HD1E
      simp only [Int.cast_ofNat_Int] at HD1E
      have HD1 := Lib.hid HD1E
      have HD2E := fun W (hW : Below w4.heap.size w4 W) => fdocsL_any W bf ds (HF4.out.kept hW) HOK.out 2 (by omega)
      unfold FDocsPost at HD2E
      obtain ⟨mm, hmm⟩ : ∃ mm, mm = min 2 ds.length := ⟨_, rfl⟩
      rw [← hmm] at HD2E
      simp only [Int.cast_ofNat_Int] at HD2E
      have HD2 := Lib.hid HD2E
      have em3 : min (2 : Int) (ds.length : Int) = (mm : Int) := by omega
      clear HD1E HD2E hmm hcv5 hcv7 HFA HFB HSH HCV4 HB4d em em2 hct HRT HTK HR9 HR6 HB5 HB6 HB7 HB8 hlen
      go_wp2_with fail
      refine (HGS.out _ (by first | exact HB9.out | exact HB9.out.drew | exact below_drewN HB9.out _)).mono ?_
      rintro e w10 ⟨a10, rfl, hcv10, hb10⟩
      have HB10 : Hid (Below w4.heap.size w4 w10) := by
        show Below _ _ _
        first
          | exact below_next HB9.out hb10 HB9.out.size
          | exact below_next HB9.out.drew hb10 HB9.out.drew.size
          | exact below_next (below_drewN HB9.out _) hb10 (below_drewN HB9.out _).size
      have HCV10 := Lib.hid hcv10
      clear hcv10 hb10 HB9
      go_wp2_with fail
      refine (HPS.out _ HB10.out).mono ?_
      rintro e w11 ⟨a11, rfl, hcv11, hb11⟩
      have HB11 : Hid (Below w4.heap.size w4 w11) := below_next HB10.out hb11 HB10.out.size
      have hc20 := HCV10.out _ hb11
      have hc21 := hcv11 _ (Below.refl _ _)
      clear hcv11 hb11 HCV10 HB10 HGS HPS
      go_wp2_with fail
      refine (HD1.out _ HB11.out).mono ?_
      rintro e w12 ⟨a12, c12, rfl, hr12, hb12⟩
      have HB12 : Hid (Below w4.heap.size w4 w12) := below_next HB11.out hb12 HB11.out.size
      have HR12 := Lib.hid hr12
      clear hr12 hb12 HB11 HD1 hc20 hc21
      go_wp2_with fail
      refine (HD2.out _ HB12.out).mono ?_
      rintro e w13 ⟨a13, c13, rfl, hr13, hb13⟩
      have HB13 : Hid (Below w4.heap.size w4 w13) := below_next HB12.out hb13 HB12.out.size
      have hst := sametexts_any w13 a12 ax c12 cx ds ds (by omega) HFEW.out.byte HFEW.out.byte (HR12.out.kept hb13) (HS4.out.kept HB13.out)
      rw [decide_eq_true rfl] at hst
      have HST := Lib.hid hst
      clear hr13 hb13 HB12 HR12 HD2 hst
      go_wp2_with fail
      refine HST.out.mono ?_
      rintro e w' ⟨rfl, j13, rfl⟩
      have HB14 : Hid (Below w4.heap.size w4 (w13.drewN j13)) := below_drewN HB13.out j13
      have HSY := Lib.hid (fsyms_any _ bf ds (HF4.out.kept HB14.out))
      clear HST
      go_wp2_with fail
      refine HSY.out.mono ?_
      rintro e w15 ⟨a15, rfl, hr15, hb15⟩
      have HB15 : Hid (Below w4.heap.size w4 w15) := below_next HB14.out hb15 HB14.out.size
      have HR15 := Lib.hid hr15
      have HRB := Lib.hid (refbwt_any w15 ax cx ds (HS4.out.kept HB15.out) HFEW.out.byte (by omega))
      clear hr15 hb15 HSY
      go_wp2_with fail
      refine HRB.out.mono ?_
      rintro e w16 ⟨a16, c16, rfl, ho16, hb16⟩
      have HB16 : Hid (Below w4.heap.size w4 w16) := below_next HB15.out hb16 HB15.out.size
      have hss := samesyms_any w16 a15 a16 (bwtOf ds).length c16 (bwtOf ds) (bwtOf ds) (by rw [bwtOf_len]; omega) (by rw [bwtOf_len]; omega) (HR15.out.kept hb16) (symVs_row ho16)
      rw [decide_eq_true rfl] at hss
      have HSS := Lib.hid hss
      clear ho16 hb16 HRB hss
      go_wp2_with fail
      refine HSS.out.mono ?_
      rintro e w' ⟨rfl, j16, rfl⟩
      have HB17 : Hid (Below w4.heap.size w4 (w16.drewN j16)) := below_drewN HB16.out j16
      clear HSS
      go_wp2_with (go_at_call 28; refine (awake14_any _).mono ?_; rintro e w18 ⟨rfl, hb18⟩)
      go_ret
      exact ⟨rfl, below_next HB4.out (below_next HB17.out hb18 HB17.out.size) HB4.out.size⟩
set_option maxRecDepth 100000 in
set_option maxHeartbeats 4000000 in
theorem fmtells_f (w : World) (a : Option Addr) (cap : Nat) (A : Nat → Option Addr) (C : Nat → Nat) (ds : List (List Nat)) (hin : DocsIn w a A C ds) (a1 : Option Addr) (len cap1 : Nat) (f : Nat → Int) (hl : len ≤ maxLen) (hr : Row w a1 len (fun k => .int .u8 (f k)) ∧ ∀ k, k < len → (Lit.int .u8 (f k)).wf = true) (doc : Int) (_ : (Lit.int .i64 doc).wf = true) (at' : Int) (hat' : (Lit.int .i64 at').wf = true) (n : Int) (hn : (Lit.int .i64 n).wf = true) (most : Int) (_ : (Lit.int .i64 most).wf = true) (hH : 0 ≤ doc ∧ doc < (ds.length : Int)) (hL : 0 ≤ at' ∧ 0 ≤ n ∧ True ∧ ((ds.getD doc.toNat []).length : Int) ≤ at') :
    Calls Try.prog 9 #[.slice a ds.length cap, .slice a1 len cap1, .int .i64 doc, .int .i64 at', .int .i64 n, .int .i64 most] w fun e w' => e = .returned (.bool true) ∧ Below w.heap.size w w' := by
  obtain ⟨P, hd, hdr, hpb⟩ := bytes_list hr
  subst hd
  unfold maxLen at hl
  have HF := Lib.hid (few_any w a cap A C ds hin.many hin.docs hin.long)
  have HIN := Lib.hid hin
  have HP := Lib.hid hdr
  have HPB := Lib.hid hpb
  have em : bits .and .i64 most 15 = most % 16 := i64_mask most 4 (by omega)
  obtain ⟨mo, hmo, hmo2⟩ : ∃ mo : Nat, most % 16 = mo ∧ mo ≤ 15 := ⟨(most % 16).toNat, by omega, by omega⟩
  rw [hmo] at em
  clear hin hr hdr hpb hmo
  go_enter Try.func9, Try.ntmps9
  go_wp2_with fail
  refine HF.out.mono ?_
  rintro e w' ⟨b, rfl, hfew, rfl⟩
  cases b with
  | false =>
    clear hfew
    go_wp2_with (go_at_call 28; refine (awake14_any _).mono ?_; rintro e w1 ⟨rfl, hb⟩)
    go_ret
    exact ⟨rfl, hb⟩
  | true =>
    obtain ⟨hf1, hf2, hf3⟩ := hfew rfl
    have HFEW := Lib.hid (FewP.mk hf1 hf2 hf3 HIN.out.byte)
    have HOK := Lib.hid HFEW.out.ok
    clear hfew hf2 HF
    by_cases hp : (200 : Int) < (P.length : Int)
    · go_wp2_with (go_at_call 28; refine (awake14_any _).mono ?_; rintro e w1 ⟨rfl, hb⟩)
      go_ret
      exact ⟨rfl, hb⟩
    · have hpd : decide ((200 : Int) < (P.length : Int)) = false := by simp; omega
      have hpd2 : decide (200 < P.length) = false := by simp; omega
      have hp2 : P.length ≤ 200 := by omega
      clear hp hl
      have HSTR := Lib.hid (strings_any w a cap A C ds (by omega) HIN.out.docs)
      go_wp2_with fail
      refine HSTR.out.mono ?_
      rintro e w1 ⟨ax, cx, rfl, hrs, hb1⟩
      have HS1 := Lib.hid hrs
      have HB1 := Lib.hid hb1
      have HNW := Lib.hid (fnew_any w1 a cap A C ds (HIN.out.docs.kept hb1) HOK.out)
      clear hrs hb1 HSTR hpd hpd2
      go_wp2_with fail
      refine HNW.out.mono ?_
      rintro e w2 ⟨bf, rfl, hf, hb2, -⟩
      have HF2 := Lib.hid hf
      have HB2 : Hid (Below w.heap.size w w2) := below_next HB1.out hb2 HB1.out.size
      have HS2 := Lib.hid (HS1.out.kept hb2)
      have hrl := rows_len ds
      have HDN := Lib.hid (fdocs_any w2 bf ds HF2.out)
      have HLN0 := flen_any w2 bf ds HF2.out
      rw [bwtOf_len] at HLN0
      have HLN := Lib.hid HLN0
      clear HLN0
      have HRL := Lib.hid (reflen_any w2 ax cx ds HS2.out (by omega))
      have HP2 := Lib.hid (HP.out.kept HB2.out)
      have hcv := conv_str w2 a1 P cap1 HP2.out
      have HFD := Lib.hid (reffind_all w2 ax cx ds HS2.out HFEW.out.byte (by omega) P HPB.out (by omega))
      clear hf hb2 HS1 HB1 HNW
      go_wp2_with (first
        | (go_at_call 30; refine HDN.out.mono ?_; rintro e w' ⟨rfl, rfl⟩)
        | (go_at_call 31; refine HLN.out.mono ?_; rintro e w' ⟨rfl, rfl⟩)
        | (go_at_call 32; refine HRL.out.mono ?_; rintro e w' ⟨rfl, rfl⟩)
        | fail)
      refine HFD.out.mono ?_
      rintro e w4 ⟨a9, c9, rfl, hr9, hb4, hc9, hn9⟩
      have HR9 := Lib.hid hr9
      have HF4 := Lib.hid (HF2.out.kept hb4)
      have HB4 : Hid (Below w.heap.size w w4) := below_next HB2.out hb4 HB2.out.size
      have HS4 := Lib.hid (HS2.out.kept hb4)
      have HP4 := Lib.hid (HP2.out.kept hb4)
      have hlen : (locL ds P).length ≤ 60000 := by
        unfold locL
        split
        · exact Nat.zero_le _
        · rw [hitL_len ds P _ _ (bkR_is ds HOK.out.byte P)]
          have h1 := (bkR_is ds HOK.out.byte P).len
          have h2 := rows_len ds
          have h3 := HOK.out.all
          omega
      have HFA := Lib.hid (fun W (hW : Below w4.heap.size w4 W) => fhits_any W bf ds (HF4.out.kept hW) HOK.out P HPB.out (by omega) 100000 (by omega))
      unfold FHitsPost at HFA
      rw [List.take_of_length_le (show (locL ds P).length ≤ 100000 by omega)] at HFA
      simp only [Int.cast_ofNat_Int] at HFA
      have HCV4 : Hid (∀ W, Below w4.heap.size w4 W → (convert 22 9 (.slice a1 P.length cap1)).run Try.prog W = .ok (.string (sB P)) W) := fun W hW => conv_str W a1 P cap1 (HP4.out.kept hW)
      have HB4d : Below w4.heap.size w4 w4.drew := (Below.refl _ _).drew
      have HCT := Lib.hid (fcount_all w4.drew bf ds HOK.out (HF4.out.kept HB4d) a1 cap1 P (by omega) HPB.out (HP4.out.kept HB4d))
      clear hr9 hb4 HDN HLN HRL HFD HS2 HF2 HP2 HB2 hcv
      generalize hL : locL ds P = L at *
      have HLL := Lib.hid hL
      clear hL
      obtain ⟨kk, hkk⟩ : ∃ kk, kk = min mo L.length := ⟨_, rfl⟩
      have HFB := Lib.hid (fun W (hW : Below w4.heap.size w4 W) => fhits_any W bf ds (HF4.out.kept hW) HOK.out P HPB.out (by omega) mo (by omega))
      unfold FHitsPost at HFB
      rw [HLL.out] at HFB
      have HTK := Lib.hid (show (L.take mo).length = kk by rw [List.length_take]; omega)
      have em2 : min (mo : Int) (L.length : Int) = (kk : Int) := by omega
      rw [HTK.out] at HFB
      have hct := cut_toH a9 L.length c9 kk (by omega) hc9 hn9
      have HRT : Hid (HRow w4 a9 (L.take mo)) := HR9.out.take mo
      have hcv4 := HCV4.out _ HB4d
      clear hn9 hc9 hkk HLL
      go_upto_region 9 with fail
      go_wp2_with fail
      have hcv4 := HCV4.out _ HB4d
      go_wp2_with fail
      refine wp_region_any (by kernel_rfl) ?_
      change wpAny _ _ _ _ _ #[false, false, false, false, false, false, false, false, false, false, false, false, false, false, false, false, false, false, false, false, false, false, false, false, false, false, false, false] _ (World.drew _)
      refine wpAny_take (i := 0) (v := ?_) rfl (by kernel_rfl) (by kernel_rfl) (by kernel_rfl) (fun _ _ _ h => h) (Or.inl ⟨by rfl, ?_⟩) ?_
      rotate_left
      · intro w
        go_simp
        with_reducible rfl
      change wpAny _ _ _ _ _ _ (Act.put _ (some 75) _) _
      go_frame
      refine wpAny_take (i := 1) (v := ?_) rfl (by kernel_rfl) (by kernel_rfl) (by kernel_rfl) (fun _ _ _ h => h) (Or.inl ⟨by rfl, ?_⟩) ?_
      rotate_left
      · intro w
        go_simp
        with_reducible rfl
      change wpAny _ _ _ _ _ _ (Act.put _ (some 76) _) _
      go_frame
      refine wpAny_take (i := 3) (v := ?_) rfl (by kernel_rfl) (by kernel_rfl) (by kernel_rfl) (fun _ _ _ h => h) (Or.inl ⟨by rfl, ?_⟩) ?_
      rotate_left
      · intro w
        go_simp
        with_reducible rfl
      change wpAny _ _ _ _ _ _ (Act.put _ (some 78) _) _
      go_frame
      refine wpAny_take (i := 4) (v := ?_) rfl (by kernel_rfl) (by kernel_rfl) (by kernel_rfl) (fun _ _ _ h => h) (Or.inl ⟨by rfl, ?_⟩) ?_
      rotate_left
      · intro w
        go_simp
        with_reducible rfl
      change wpAny _ _ _ _ _ _ (Act.put _ (some 79) _) _
      go_frame
      refine wpAny_ready (rs := [2]) (by kernel_rfl) (by simp) ?_
      refine AllReady.cons rfl (fun K hK => ?_) AllReady.nil
      go_simp
      refine HCT.out.mono ?_
      rintro e w5 ⟨rfl, hb5⟩
      have HB5 : Hid (Below w4.heap.size w4 w5) := below_next HB4d hb5 HB4d.size
      have hcv5 := HCV4.out _ HB5.out
      clear hb5 hcv4 HCT
      refine hK _ _ ?_
      clear hK K
      go_frame
      refine wpAny_take (i := 5) (v := ?_) rfl (by kernel_rfl) (by kernel_rfl) (by kernel_rfl) (fun _ _ _ h => h) (Or.inl ⟨by rfl, ?_⟩) ?_
      rotate_left
      · intro w
        go_simp
        with_reducible rfl
      change wpAny _ _ _ _ _ _ (Act.put _ (some 80) _) _
      go_frame
      refine wpAny_take (i := 6) (v := ?_) rfl (by kernel_rfl) (by kernel_rfl) (by kernel_rfl) (fun _ _ _ h => h) (Or.inl ⟨by rfl, ?_⟩) ?_
      rotate_left
      · intro w
        go_simp
        with_reducible rfl
      change wpAny _ _ _ _ _ _ (Act.put _ (some 81) _) _
      go_frame
      refine wpAny_take (i := 7) (v := ?_) rfl (by kernel_rfl) (by kernel_rfl) (by kernel_rfl) (fun _ _ _ h => h) (Or.inl ⟨by rfl, ?_⟩) ?_
      rotate_left
      · intro w
        go_simp
        with_reducible rfl
      change wpAny _ _ _ _ _ _ (Act.put _ (some 82) _) _
      go_frame
      refine wpAny_take (i := 8) (v := ?_) rfl (by kernel_rfl) (by kernel_rfl) (by kernel_rfl) (fun _ _ _ h => h) (Or.inl ⟨by rfl, ?_⟩) ?_
      rotate_left
      · intro w
        go_simp
        with_reducible rfl
      change wpAny _ _ _ _ _ _ (Act.put _ (some 83) _) _
      go_frame
      refine wpAny_take (i := 11) (v := ?_) rfl (by kernel_rfl) (by kernel_rfl) (by kernel_rfl) (fun _ _ _ h => h) (Or.inl ⟨by rfl, ?_⟩) ?_
      rotate_left
      · intro w
        go_simp
        with_reducible rfl
      change wpAny _ _ _ _ _ _ (Act.put _ (some 86) _) _
      go_frame
      refine wpAny_ready (rs := [9]) (by kernel_rfl) (by simp) ?_
      refine AllReady.cons rfl (fun K hK => ?_) AllReady.nil
      go_simp
      refine hK _ _ ?_
      clear hK K
      go_frame
      refine wpAny_ready (rs := [10]) (by kernel_rfl) (by simp) ?_
      refine AllReady.cons rfl (fun K hK => ?_) AllReady.nil
      go_simp
      refine (HFA.out _ HB5.out).mono ?_
      rintro e w6 ⟨a6, c6, rfl, hr6, hb6⟩
      have HB6 : Hid (Below w4.heap.size w4 w6) := below_next HB5.out hb6 HB5.out.size
      have HR6 := Lib.hid hr6
      clear hr6 hb6
      refine hK _ _ ?_
      clear hK K
      go_frame
      refine wpAny_ready (rs := [12]) (by kernel_rfl) (by simp) ?_
      refine AllReady.cons rfl (fun K hK => ?_) AllReady.nil
      go_simp
      refine (samehits_any _ a6 a9 c6 c9 L (by omega) HR6.out (HR9.out.kept HB6.out)).mono ?_
      rintro e w' ⟨rfl, j6, rfl⟩
      have HB7 : Hid (Below w4.heap.size w4 (w6.drewN j6)) := below_drewN HB6.out j6
      have hcv7 := HCV4.out _ HB7.out
      refine hK _ _ ?_
      clear hK K
      go_frame
      refine wpAny_take (i := 13) (v := ?_) rfl (by kernel_rfl) (by kernel_rfl) (by kernel_rfl) (fun _ _ _ h => h) (Or.inl ⟨by rfl, ?_⟩) ?_
      rotate_left
      · intro w
        go_simp
        with_reducible rfl
      change wpAny _ _ _ _ _ _ (Act.put _ (some 88) _) _
      go_frame
      refine wpAny_take (i := 14) (v := ?_) rfl (by kernel_rfl) (by kernel_rfl) (by kernel_rfl) (fun _ _ _ h => h) (Or.inl ⟨by rfl, ?_⟩) ?_
      rotate_left
      · intro w
        go_simp
        with_reducible rfl
      change wpAny _ _ _ _ _ _ (Act.put _ (some 89) _) _
      go_frame
      refine wpAny_take (i := 15) (v := ?_) rfl (by kernel_rfl) (by kernel_rfl) (by kernel_rfl) (fun _ _ _ h => h) (Or.inl ⟨by rfl, ?_⟩) ?_
      rotate_left
      · intro w
        go_simp
        with_reducible rfl
      change wpAny _ _ _ _ _ _ (Act.put _ (some 90) _) _
      go_frame
      refine wpAny_take (i := 16) (v := ?_) rfl (by kernel_rfl) (by kernel_rfl) (by kernel_rfl) (fun _ _ _ h => h) (Or.inl ⟨by rfl, ?_⟩) ?_
      rotate_left
      · intro w
        go_simp
        with_reducible rfl
      change wpAny _ _ _ _ _ _ (Act.put _ (some 91) _) _
      go_frame
      refine wpAny_take (i := 17) (v := ?_) rfl (by kernel_rfl) (by kernel_rfl) (by kernel_rfl) (fun _ _ _ h => h) (Or.inl ⟨by rfl, ?_⟩) ?_
      rotate_left
      · intro w
        go_simp
        with_reducible rfl
      change wpAny _ _ _ _ _ _ (Act.put _ (some 92) _) _
      go_frame
      refine wpAny_take (i := 19) (v := ?_) rfl (by kernel_rfl) (by kernel_rfl) (by kernel_rfl) (fun _ _ _ h => h) (Or.inl ⟨by rfl, ?_⟩) ?_
      rotate_left
      · intro w
        go_simp
        with_reducible rfl
      change wpAny _ _ _ _ _ _ (Act.put _ (some 94) _) _
      go_frame
      refine wpAny_take (i := 20) (v := ?_) rfl (by kernel_rfl) (by kernel_rfl) (by kernel_rfl) (fun _ _ _ h => h) (Or.inl ⟨by rfl, ?_⟩) ?_
      rotate_left
      · intro w
        go_simp
        with_reducible rfl
      change wpAny _ _ _ _ _ _ (Act.put _ (some 95) _) _
      go_frame
      refine wpAny_take (i := 22) (v := ?_) rfl (by kernel_rfl) (by kernel_rfl) (by kernel_rfl) (fun _ _ _ h => h) (Or.inl ⟨by rfl, ?_⟩) ?_
      rotate_left
      · intro w
        go_simp
        with_reducible rfl
      change wpAny _ _ _ _ _ _ (Act.put _ (some 97) _) _
      go_frame
      refine wpAny_take (i := 23) (v := ?_) rfl (by kernel_rfl) (by kernel_rfl) (by kernel_rfl) (fun _ _ _ h => h) (Or.inl ⟨by rfl, ?_⟩) ?_
      rotate_left
      · intro w
        go_simp
        with_reducible rfl
      change wpAny _ _ _ _ _ _ (Act.put _ (some 98) _) _
      go_frame
      refine wpAny_take (i := 24) (v := ?_) rfl (by kernel_rfl) (by kernel_rfl) (by kernel_rfl) (fun _ _ _ h => h) (Or.inl ⟨by rfl, ?_⟩) ?_
      rotate_left
      · intro w
        go_simp
        with_reducible rfl
      change wpAny _ _ _ _ _ _ (Act.put _ (some 99) _) _
      go_frame
      refine wpAny_ready (rs := [18]) (by kernel_rfl) (by simp) ?_
      refine AllReady.cons rfl (fun K hK => ?_) AllReady.nil
      go_simp
      refine hK _ _ ?_
      clear hK K
      go_frame
      refine wpAny_ready (rs := [21]) (by kernel_rfl) (by simp) ?_
      refine AllReady.cons rfl (fun K hK => ?_) AllReady.nil
      go_simp
      refine (HFB.out _ HB7.out).mono ?_
      rintro e w8 ⟨a8, c8, rfl, hr8, hb8⟩
      have HB8 : Hid (Below w4.heap.size w4 w8) := below_next HB7.out hb8 HB7.out.size
      have HSH := Lib.hid (samehits_any w8 a8 a9 c8 c9 (L.take mo) (by have := HTK.out; omega) hr8 (HRT.out.kept HB8.out))
      rw [HTK.out] at HSH
      clear hr8 hb8
      refine hK _ _ ?_
      clear hK K
      go_frame
      refine wpAny_ready (rs := [25]) (by kernel_rfl) (by simp) ?_
      refine AllReady.cons rfl (fun K hK => ?_) AllReady.nil
      go_simp
      refine HSH.out.mono ?_
      rintro e w' ⟨rfl, j8, rfl⟩
      have HB9 : Hid (Below w4.heap.size w4 (w8.drewN j8)) := below_drewN HB8.out j8
      refine hK _ _ ?_
      clear hK K
      go_frame
      refine wpAny_take (i := 26) (v := ?_) rfl (by kernel_rfl) (by kernel_rfl) (by kernel_rfl) (fun _ _ _ h => h) (Or.inl ⟨by rfl, ?_⟩) ?_
      rotate_left
      · intro w
        go_simp
        with_reducible rfl
      change wpAny _ _ _ _ _ _ (Act.put _ (some 101) _) _
      go_frame
      refine wpAny_take (i := 27) (v := ?_) rfl (by kernel_rfl) (by kernel_rfl) (by kernel_rfl) (fun _ _ _ h => h) (Or.inl ⟨by rfl, ?_⟩) ?_
      rotate_left
      · intro w
        go_simp
        with_reducible rfl
      change wpAny _ _ _ _ _ _ (Act.put _ (some 102) _) _
      go_frame
      refine wpAny_done (by kernel_rfl) ?_ _
      obtain ⟨j, rfl, hj⟩ : ∃ j : Nat, doc = (j : Int) ∧ j < ds.length := ⟨doc.toNat, by omega, by omega⟩
      have h2 : (j : Int) < (ds.length : Int) := by omega
      obtain ⟨k, rfl⟩ : ∃ k : Nat, at' = (k : Int) := ⟨at'.toNat, by omega⟩
      obtain ⟨m, rfl⟩ : ∃ m : Nat, n = (m : Int) := ⟨n.toNat, by omega⟩
      have HGS := Lib.hid (fun W (hW : Below w4.heap.size w4 W) => get_S W bf ds HOK.out (HF4.out.kept hW) (j : Int))
      have HPS := Lib.hid (fun W (hW : Below w4.heap.size w4 W) => piece_S W bf ds HOK.out (HF4.out.kept hW) (j : Int) (k : Int) (m : Int) hat' hn)
      have hdl := HOK.out.long _ (doc_mem hj)
      have hx := fun W => (run_ix (P := Try.prog) 40 (by kernel_rfl) size_str ax ds.length cx HS4.out.at_ .i64) W j hj
      have hsr := (HS4.out.kept HB9.out).cell j hj
      have d0 : (w8.drewN j8).cell? ⟨bOf ax, oOf ax + j, none⟩ = some (.string (sB (ds.getD j []))) := hsr
      rw [show whL ds (j : Int) = ds.getD j [] by unfold whL; rw [if_pos (by omega), Int.toNat_natCast], decide_eq_true (p := 0 ≤ (j : Int) ∧ (j : Int) < (ds.length : Int)) (by omega)] at HGS
      rw [show pcL ds (j : Int) (k : Int) (m : Int) = pieceL (ds.getD j []) k m by unfold pcL; rw [if_pos (by omega), Int.toNat_natCast, Int.toNat_natCast, Int.toNat_natCast], decide_eq_true (p := 0 ≤ (j : Int) ∧ (j : Int) < (ds.length : Int) ∧ 0 ≤ (k : Int) ∧ 0 ≤ (m : Int)) (by omega)] at HPS
      have hkl : (ds.getD j []).length ≤ k := by
        have h := hL.2.2.2
        rw [Int.toNat_natCast] at h
        omega
      rw [show pieceL (ds.getD j []) k m = [] by unfold pieceL; rw [List.drop_of_length_le hkl, List.take_nil], sB_nil, List.length_nil] at HPS
      clear hL
      have hsz := sB_size (ds.getD j [])
      generalize hwl : (ds.getD j []).length = wl at *
      generalize sB (ds.getD j []) = sw at *
      clear hsr hwl
      have t5 : decide ((k : Int) < (wl : Int)) = false := by simp; omega
      have HD1E := fun W (hW : Below w4.heap.size w4 W) => fdocsL_any W bf ds (HF4.out.kept hW) HOK.out 1000 (by omega)
      unfold FDocsPost at HD1E
      rw [show min 1000 ds.length = ds.length by omega] at HD1E
      simp only [Int.cast_ofNat_Int] at HD1E
      have HD1 := Lib.hid HD1E
      have HD2E := fun W (hW : Below w4.heap.size w4 W) => fdocsL_any W bf ds (HF4.out.kept hW) HOK.out 2 (by omega)
      unfold FDocsPost at HD2E
      obtain ⟨mm, hmm⟩ : ∃ mm, mm = min 2 ds.length := ⟨_, rfl⟩
      rw [← hmm] at HD2E
      simp only [Int.cast_ofNat_Int] at HD2E
      have HD2 := Lib.hid HD2E
      have em3 : min (2 : Int) (ds.length : Int) = (mm : Int) := by omega
      clear HD1E HD2E hmm hcv5 hcv7 HFA HFB HSH HCV4 HB4d em em2 hct HRT HTK HR9 HR6 HB5 HB6 HB7 HB8 hlen
      go_wp2_with fail
      refine (HGS.out _ (by first | exact HB9.out | exact HB9.out.drew | exact below_drewN HB9.out _)).mono ?_
      rintro e w10 ⟨a10, rfl, hcv10, hb10⟩
      have HB10 : Hid (Below w4.heap.size w4 w10) := by
        show Below _ _ _
        first
          | exact below_next HB9.out hb10 HB9.out.size
          | exact below_next HB9.out.drew hb10 HB9.out.drew.size
          | exact below_next (below_drewN HB9.out _) hb10 (below_drewN HB9.out _).size
      have HCV10 := Lib.hid hcv10
      clear hcv10 hb10 HB9
      go_wp2_with fail
      refine (HPS.out _ HB10.out).mono ?_
      rintro e w11 ⟨a11, rfl, hcv11, hb11⟩
      have HB11 : Hid (Below w4.heap.size w4 w11) := below_next HB10.out hb11 HB10.out.size
      have hc20 := HCV10.out _ hb11
      have hc21 := hcv11 _ (Below.refl _ _)
      clear hcv11 hb11 HCV10 HB10 HGS HPS
      go_wp2_with fail
      refine (HD1.out _ HB11.out).mono ?_
      rintro e w12 ⟨a12, c12, rfl, hr12, hb12⟩
      have HB12 : Hid (Below w4.heap.size w4 w12) := below_next HB11.out hb12 HB11.out.size
      have HR12 := Lib.hid hr12
      clear hr12 hb12 HB11 HD1 hc20 hc21
      go_wp2_with fail
      refine (HD2.out _ HB12.out).mono ?_
      rintro e w13 ⟨a13, c13, rfl, hr13, hb13⟩
      have HB13 : Hid (Below w4.heap.size w4 w13) := below_next HB12.out hb13 HB12.out.size
      have hst := sametexts_any w13 a12 ax c12 cx ds ds (by omega) HFEW.out.byte HFEW.out.byte (HR12.out.kept hb13) (HS4.out.kept HB13.out)
      rw [decide_eq_true rfl] at hst
      have HST := Lib.hid hst
      clear hr13 hb13 HB12 HR12 HD2 hst
      go_wp2_with fail
      refine HST.out.mono ?_
      rintro e w' ⟨rfl, j13, rfl⟩
      have HB14 : Hid (Below w4.heap.size w4 (w13.drewN j13)) := below_drewN HB13.out j13
      have HSY := Lib.hid (fsyms_any _ bf ds (HF4.out.kept HB14.out))
      clear HST
      go_wp2_with fail
      refine HSY.out.mono ?_
      rintro e w15 ⟨a15, rfl, hr15, hb15⟩
      have HB15 : Hid (Below w4.heap.size w4 w15) := below_next HB14.out hb15 HB14.out.size
      have HR15 := Lib.hid hr15
      have HRB := Lib.hid (refbwt_any w15 ax cx ds (HS4.out.kept HB15.out) HFEW.out.byte (by omega))
      clear hr15 hb15 HSY
      go_wp2_with fail
      refine HRB.out.mono ?_
      rintro e w16 ⟨a16, c16, rfl, ho16, hb16⟩
      have HB16 : Hid (Below w4.heap.size w4 w16) := below_next HB15.out hb16 HB15.out.size
      have hss := samesyms_any w16 a15 a16 (bwtOf ds).length c16 (bwtOf ds) (bwtOf ds) (by rw [bwtOf_len]; omega) (by rw [bwtOf_len]; omega) (HR15.out.kept hb16) (symVs_row ho16)
      rw [decide_eq_true rfl] at hss
      have HSS := Lib.hid hss
      clear ho16 hb16 HRB hss
      go_wp2_with fail
      refine HSS.out.mono ?_
      rintro e w' ⟨rfl, j16, rfl⟩
      have HB17 : Hid (Below w4.heap.size w4 (w16.drewN j16)) := below_drewN HB16.out j16
      clear HSS
      go_wp2_with (go_at_call 28; refine (awake14_any _).mono ?_; rintro e w18 ⟨rfl, hb18⟩)
      go_ret
      exact ⟨rfl, below_next HB4.out (below_next HB17.out hb18 HB17.out.size) HB4.out.size⟩
set_option maxHeartbeats 400000 in
theorem fmtells_walk (w : World) (a : Option Addr) (cap : Nat) (A : Nat → Option Addr) (C : Nat → Nat) (ds : List (List Nat)) (hin : DocsIn w a A C ds) (a1 : Option Addr) (len cap1 : Nat) (f : Nat → Int) (hl : len ≤ maxLen) (hr : Row w a1 len (fun k => .int .u8 (f k)) ∧ ∀ k, k < len → (Lit.int .u8 (f k)).wf = true) (doc : Int) (hdoc : (Lit.int .i64 doc).wf = true) (at' : Int) (hat' : (Lit.int .i64 at').wf = true) (n : Int) (hn : (Lit.int .i64 n).wf = true) (most : Int) (hm : (Lit.int .i64 most).wf = true) :
    Calls Try.prog 9 #[.slice a ds.length cap, .slice a1 len cap1, .int .i64 doc, .int .i64 at', .int .i64 n, .int .i64 most] w fun e w' => e = .returned (.bool true) ∧ Below w.heap.size w w' := by
  by_cases h1 : doc < 0
  · exact fmtells_a w a cap A C ds hin a1 len cap1 f hl hr doc hdoc at' hat' n hn most hm h1
  by_cases h2 : (ds.length : Int) ≤ doc
  · exact fmtells_b w a cap A C ds hin a1 len cap1 f hl hr doc hdoc at' hat' n hn most hm h2
  have h3 : 0 ≤ doc ∧ doc < (ds.length : Int) := by omega
  by_cases h4 : at' < 0
  · exact fmtells_c w a cap A C ds hin a1 len cap1 f hl hr doc hdoc at' hat' n hn most hm h3 h4
  by_cases h5 : n < 0
  · exact fmtells_d w a cap A C ds hin a1 len cap1 f hl hr doc hdoc at' hat' n hn most hm h3 ⟨by omega, h5⟩
  by_cases h6 : at' < ((ds.getD doc.toNat []).length : Int)
  · exact fmtells_e w a cap A C ds hin a1 len cap1 f hl hr doc hdoc at' hat' n hn most hm h3 ⟨by omega, by omega, trivial, h6⟩
  · exact fmtells_f w a cap A C ds hin a1 len cap1 f hl hr doc hdoc at' hat' n hn most hm h3 ⟨by omega, by omega, trivial, by omega⟩
end Go.Proofs.Ytjpoebmjfedecaa
