/-
  The statement FmHits: its walk.
-/
import Derived.Test.YtjpoebmjfedecaaFmAwake
import Derived.Test.YtjpoebmjfedecaaFmPiece
import Derived.Deep.CutBlock
import Derived.Deep.RegionLaw
namespace Go.Proofs.Ytjpoebmjfedecaa
open Go.RowKit

theorem mem_piece (ds : List (List Nat)) (j k m : Nat) (hj : j < ds.length) (hk : k < (ds.getD j []).length) : (j, k) ∈ hitL ds (pieceL (ds.getD j []) k m) := by
  refine (mem_hitL ds _ _).2 ⟨⟨hj, Nat.le_of_lt hk⟩, ?_⟩
  unfold prefH textAt pieceL
  rw [decide_eq_true_iff]
  simp only [List.length_take, List.length_drop]
  rw [List.take_eq_take_iff]
  simp only [List.length_drop]
  omega
theorem hit_piece (ds : List (List Nat)) (P : List Nat) (p : Nat × Nat) (h : p ∈ hitL ds P) : pieceL (ds.getD p.1 []) p.2 P.length = P := by
  have := ((mem_hitL ds P p).1 h).2
  unfold prefH textAt at this
  exact of_decide_eq_true this
set_option maxRecDepth 100000 in
set_option maxHeartbeats 1000000 in
theorem fmhits_walk (w : World) (a : Option Addr) (cap : Nat) (A : Nat → Option Addr) (C : Nat → Nat) (ds : List (List Nat)) (hin : DocsIn w a A C ds) (doc : Int) (_ : (Lit.int .i64 doc).wf = true) (at' : Int) (_ : (Lit.int .i64 at').wf = true) (n : Int) (_ : (Lit.int .i64 n).wf = true) :
    Calls Try.prog 8 #[.slice a ds.length cap, .int .i64 doc, .int .i64 at', .int .i64 n] w fun e w' => e = .returned (.bool true) ∧ Below w.heap.size w w' := by
  have HF := Lib.hid (few_any w a cap A C ds hin.many hin.docs hin.long)
  have HIN := Lib.hid hin
  clear hin
  go_enter Try.func8, Try.ntmps8
  go_wp2_with fail
  refine HF.out.mono ?_
  rintro e w' ⟨b, rfl, hfew, rfl⟩
  cases b with
  | false =>
    clear hfew
    go_wp2_with (go_at_call 28; refine (awake14_any _).mono ?_; rintro e w1 ⟨rfl, hb⟩)
    go_ret
    exact ⟨rfl, hb⟩
  | true =>
    obtain ⟨hf1, hf2, hf3⟩ := hfew rfl
    have HFEW := Lib.hid (FewP.mk hf1 hf2 hf3 HIN.out.byte)
    clear hfew hf2 HF
    have HOK := Lib.hid HFEW.out.ok
    rcases Nat.eq_zero_or_pos ds.length with h0 | h0
    · have t0 : ((ds.length : Int) == 0) = true := by rw [h0]; rfl
      go_wp2_with (go_at_call 28; refine (awake14_any _).mono ?_; rintro e w1 ⟨rfl, hb⟩)
      go_ret
      exact ⟨rfl, hb⟩
    · have t0 : ((ds.length : Int) == 0) = false := by rw [beq_eq_false_iff_ne]; omega
      have em : bits .and .i64 doc 65535 = doc % 65536 := i64_mask doc 16 (by omega)
      obtain ⟨j0, hj0⟩ : ∃ j0 : Nat, doc % 65536 = (j0 : Int) := ⟨(doc % 65536).toNat, by omega⟩
      have hj1 : (j0 : Int).tmod (ds.length : Int) = ((j0 % ds.length : Nat) : Int) := by rw [Int.tmod_eq_emod_of_nonneg (by omega)]; omega
      have hjl : j0 % ds.length < ds.length := Nat.mod_lt _ h0
      rw [hj0] at em
      clear hj0
      generalize j0 % ds.length = j at *
      have hx := fun W => (run_ix (P := Try.prog) 25 (by kernel_rfl) size_bytes a ds.length cap HIN.out.docs.top.at_ .i64) W j hjl
      have hc := HIN.out.docs.top.cell j hjl
      have hdl := HOK.out.long _ (doc_mem hjl)
      have HDR := Lib.hid (HIN.out.docs.each j hjl)
      have HCC := Lib.hid HIN.out
      have HMP := Lib.hid (fun k m hk => mem_piece ds j k m hjl hk)
      generalize hd : ds.getD j [] = d at *
      have HD := Lib.hid hd
      clear hd
      rcases Nat.eq_zero_or_pos d.length with h1 | h1
      · have t1 : ((d.length : Int) == 0) = true := by rw [h1]; rfl
        go_wp2_with (go_at_call 28; refine (awake14_any _).mono ?_; rintro e w1 ⟨rfl, hb⟩)
        go_ret
        exact ⟨rfl, hb⟩
      · have t1 : ((d.length : Int) == 0) = false := by rw [beq_eq_false_iff_ne]; omega
        have em2 : bits .and .i64 at' 65535 = at' % 65536 := i64_mask at' 16 (by omega)
        obtain ⟨k0, hk0⟩ : ∃ k0 : Nat, at' % 65536 = (k0 : Int) := ⟨(at' % 65536).toNat, by omega⟩
        have hk1 : (k0 : Int).tmod (d.length : Int) = ((k0 % d.length : Nat) : Int) := by rw [Int.tmod_eq_emod_of_nonneg (by omega)]; omega
        have hkl : k0 % d.length < d.length := Nat.mod_lt _ h1
        rw [hk0] at em2
        clear hk0
        generalize k0 % d.length = k at *
        have em3 : bits .and .i64 n 15 = n % 16 := i64_mask n 4 (by omega)
        obtain ⟨m, hm⟩ : ∃ m : Nat, (n % 16) + 1 = (m : Int) := ⟨(n % 16 + 1).toNat, by omega⟩
        have hm1 : 1 ≤ m := by omega
        have hm2 : m ≤ 16 := by omega
        have ew : IntKind.i64.wrap (n % 16 + 1) = (m : Int) := by rw [hm]; exact IntWalk.i64_in _ (by omega)
        have ew2 : IntKind.i64.wrap ((k : Int) + (m : Int)) = ((k + m : Nat) : Int) := by rw [show (k : Int) + (m : Int) = ((k + m : Nat) : Int) by omega]; exact IntWalk.i64_in _ (by omega)
        obtain ⟨P, hP⟩ : ∃ P, P = pieceL d k m := ⟨_, rfl⟩
        have hPl : P.length = min m (d.length - k) := by rw [hP, pieceL_len]
        have hcap : d.length ≤ C j := by have := HIN.out.caps j hjl; rw [HD.out] at this; exact this
        have hPb : ∀ c ∈ P, c < 256 := fun c hc => by
          rw [hP] at hc
          unfold pieceL at hc
          exact HIN.out.byte d (by rw [← HD.out]; exact doc_mem hjl) c (List.mem_of_mem_drop (List.mem_of_mem_take hc))
        have HPM : Hid ((j, k) ∈ hitL ds P) := by rw [hP]; exact HMP.out k m hkl
        obtain ⟨e, he⟩ : ∃ e, e = min (k + m) d.length := ⟨_, rfl⟩
        have he1 : k ≤ e := by omega
        have he2 : e ≤ d.length := by omega
        have hPe : P.length = e - k := by omega
        have hrow : Row w (Option.map (fun x => x.add k) (A j)) P.length (byteV P) := by
          have h2 := cut_row HDR.out (C j) k e he1 he2 hcap
          have hcut : cutB (A j) (C j) k = Option.map (fun x => x.add k) (A j) := by unfold cutB; rw [if_neg (by omega)]; simp
          rw [hcut, ← hPe] at h2
          refine h2.congr fun q hq => ?_
          unfold byteV
          rw [hP]
          unfold pieceL
          rw [List.getD_eq_getElem?_getD, List.getD_eq_getElem?_getD, List.getElem?_take_of_lt (by omega), List.getElem?_drop]
        have HROW := Lib.hid hrow
        have HPB := Lib.hid hPb
        have HE := Lib.hid he
        have HPE := Lib.hid hPe
        have g8 : ¬ C j = k := by omega
        have hPpos : 0 < P.length := by omega
        have hP16 : P.length ≤ 16 := by omega
        clear hm hP hPl hPb hrow he hPe HMP HDR
        have HPN : Hid (P.length = e - k) := HPE.out
        have em4 : min ((k : Int) + (m : Int)) (d.length : Int) = (e : Int) := by have := HE.out; omega
        have he3 : e ≤ C j := by omega
        go_wp2_with fail
        go_quiet (fail)
        have HROW2 := Lib.hid (HROW.out.drewN nq)
        have HD2 := Lib.hid (HIN.out.docs.drewN nq)
        have HB2 : Hid (Below w.heap.size w (w.drewN nq)) := below_drewN (Below.refl _ w) nq
        clear HROW hc hx ew ew2 em em2 em3 hk1 hj1 HE HPE
        generalize w.drewN nq = w2 at *
        go_wp2_with fail
        clear em4
        refine (fnew_any w2 a cap A C ds HD2.out HOK.out).mono ?_
        rintro e w3 ⟨bf, rfl, hf, hb3, -⟩
        have HF3 := Lib.hid hf
        have HB3 : Hid (Below w.heap.size w w3) := below_next HB2.out hb3 HB2.out.size
        have HROW3 := Lib.hid (HROW2.out.kept hb3)
        clear hf hb3 HB2 HROW2 HD2
        have hcv := conv_str w3 _ P (C j - k) HROW3.out
        rw [HPN.out] at hcv
        have HHT := Lib.hid (fhits_any w3 bf ds HF3.out HOK.out P HPB.out (by omega) 100000 (by omega))
        have hloc : (locL ds P).take 100000 = hitL ds P := by
          have hn : P ≠ [] := fun h => by rw [h] at hPpos; exact absurd hPpos (by simp)
          have h1 : locL ds P = hitL ds P := if_neg hn
          have h2 := hitL_len ds P _ _ (bkR_is ds HOK.out.byte P)
          have h3 := (bkR_is ds HOK.out.byte P).len
          have h4 := rows_len ds
          have h5 := HOK.out.all
          rw [h1, List.take_of_length_le (by omega)]
        have HLC := Lib.hid (hitL_len ds P _ _ (bkR_is ds HOK.out.byte P))
        have hll : (hitL ds P).length ≤ 60000 := by
          have h2 := hitL_len ds P _ _ (bkR_is ds HOK.out.byte P)
          have h3 := (bkR_is ds HOK.out.byte P).len
          have h4 := rows_len ds
          have h5 := HOK.out.all
          omega
        unfold FHitsPost at HHT
        rw [hloc] at HHT
        have HLX := Lib.hid (lex_hitL ds P)
        have HHP := Lib.hid (hit_piece ds P)
        have HVL := Lib.hid (fun p (h : p ∈ hitL ds P) => ((mem_hitL ds P p).1 h).1)
        generalize hitL ds P = T at *
        go_wp2_with fail
        refine HHT.out.mono ?_
        rintro e9 w4 ⟨a4, c4, rfl, hr4, hb4⟩
        have HR4 := Lib.hid hr4
        have HF4 := Lib.hid (HF3.out.kept hb4)
        have HRW4 := Lib.hid (HROW3.out.kept hb4)
        have HB4 : Hid (Below w.heap.size w w4) := below_next HB3.out hb4 HB3.out.size
        clear hr4 hb4 hcv HHT HF3 HROW3 HB3 hloc
        go_wp2_with fail
        have HIXT := Lib.hid (run_ix2 (P := Try.prog) 44 (by kernel_rfl) size_hit' a4 T.length c4 HR4.out.at_)
        go_loopw [13, 14] (fun v13 v14 wr => ∃ i : Nat, i ≤ T.length ∧ v14 = .int .i64 (i : Int) ∧ v13 = .bool (decide ((j, k) ∈ T.take i)) ∧ Below w4.heap.size w4 wr) (fun _ v14 _ => T.length - (intOf v14).toNat)
        case atStart => exact ⟨0, Nat.zero_le _, rfl, by simp, Below.refl _ _⟩
        case round =>
          obtain ⟨i, hi, rfl, rfl, hbel⟩ := hrel
          have HFr := Lib.hid (HF4.out.kept hbel)
          have HRr := Lib.hid (HR4.out.kept hbel)
          have HPr := Lib.hid (HRW4.out.kept hbel)
          have HBr := Lib.hid hbel
          clear hbel
          by_cases hlt : i < T.length
          · obtain ⟨q1, q2, hq⟩ : ∃ q1 q2, T.getD i (0, 0) = (q1, q2) := ⟨_, _, rfl⟩
            have hti : T[i]? = some (q1, q2) := by rw [← hq, List.getD_eq_getElem?_getD, List.getElem?_eq_getElem hlt]; rfl
            have hmem : (q1, q2) ∈ T := List.mem_of_getElem? hti
            have hv := HVL.out _ hmem
            have hpc := HHP.out _ hmem
            simp only at hpc
            have hv1 : q1 < ds.length := hv.1
            have hv2 : q2 ≤ (ds.getD q1 []).length := hv.2
            have hv3 := HOK.out.long _ (doc_mem hv1)
            have HPCE := fpiece_any wr.drew bf ds HOK.out (HFr.out.drewN 1) q1 hv1 q2 P.length (WalkArith.wf_i64 ⟨by omega, by omega⟩) (WalkArith.wf_i64 ⟨by omega, by omega⟩)
            rw [hpc] at HPCE
            have HPC := Lib.hid HPCE
            have d1 := HRr.out.c0 i hlt
            have d2 := HRr.out.c1 i hlt
            rw [hq] at d1 d2
            simp only at d1 d2
            have hx1 := fun W => HIXT.out W i hlt
            have hek : ((e - k : Nat) : Int) = (P.length : Int) := by rw [HPN.out]
            clear hv hpc HPCE hq
            go_upto_region 16 with fail
            go_cut [15, 16] (fun s15 s16 wx => s16 = .bool true ∧ ∃ a5, s15 = .slice a5 P.length P.length ∧ Row wx a5 P.length (byteV P) ∧ Below wr.heap.size wr wx)
            case first =>
              go_region_law ((go_simp; go_at_call 29; refine HPC.out.mono ?_; rintro e5 w5 ⟨a5, rfl, hr5, hb5⟩; have HR5 := Lib.hid hr5; have HB5 := Lib.hid hb5; clear hr5 hb5))
              all_goals
                go_wp2_with fail
                go_meet
                exact ⟨rfl, a5, rfl, HR5.out, below_next (below_drewN (Below.refl _ _) 1) HB5.out (Nat.le_refl _)⟩
            case rest =>
              obtain ⟨rfl, a5, rfl, hr5, hb5⟩ := hcut
              have HR5 := Lib.hid hr5
              have HB5 := Lib.hid hb5
              clear hr5 hb5 d1 d2 HPC
              have hcq : ∀ q, (convert 22 9 (.slice a5 P.length P.length)).run Try.prog (wc.drewN q) = .ok (.string (sB P)) (wc.drewN q) := fun q => conv_str _ a5 P P.length (HR5.out.drewN q)
              have HRc := Lib.hid (HRr.out.kept HB5.out)
              have HPc := Lib.hid (HPr.out.kept HB5.out)
              have hcp : ∀ q, (convert 22 9 (.slice (Option.map (fun x => x.add k) (A j)) (e - k) (C j - k))).run Try.prog (wc.drewN q) = .ok (.string (sB P)) (wc.drewN q) := fun q => by
                have := conv_str (wc.drewN q) _ P (C j - k) (HPc.out.drewN q)
                rw [HPN.out] at this
                exact this
              have f1 := HRc.out.c0 i hlt
              have f2 := HRc.out.c1 i hlt
              rw [show T.getD i (0, 0) = (q1, q2) by rw [List.getD_eq_getElem?_getD, hti]; rfl] at f1 f2
              simp only at f1 f2
              have HTK : Hid (decide ((j, k) ∈ T.take (i + 1)) = (decide ((j, k) ∈ T.take i) || decide ((q1, q2) = (j, k)))) := by
                show _ = _
                have e1 : T.take (i + 1) = T.take i ++ [(q1, q2)] := by
                  rw [List.take_add_one, hti]; rfl
                rw [e1]
                simp only [List.mem_append, List.mem_singleton, Bool.decide_or]
                congr 1
                simp only [eq_comm]
              have HBc : Hid (Below w4.heap.size w4 wc) := below_next HBr.out HB5.out HBr.out.size
              rcases Nat.eq_zero_or_pos i with hz | hz
              · have hg0 : decide ((0 : Int) < (i : Int)) = false := by simp; omega
                have hg1 : decide (0 < i) = false := by simp; omega
                clear hz
                go_upto_region 18 with fail
                go_quiet (fail)
                go_wp2
                all_goals
                  refine ⟨⟨i + 1, by omega, by go_num, congrArg Value.bool ?_, below_drewN HBc.out nq⟩, by simp [intOf]; omega⟩
                  rw [HTK.out]
                  first
                    | (rw [decide_eq_true (show (j, k) ∈ T.take i by assumption)]; rfl)
                    | (rw [decide_eq_false (show ¬ (j, k) ∈ T.take i by assumption), Bool.false_or]
                       symm
                       first
                         | exact decide_eq_true (Prod.ext (show q1 = j by omega) (show q2 = k by omega))
                         | exact decide_eq_false (fun h => by injection h with g1 g2; omega))
              · obtain ⟨p1, p2, hp⟩ : ∃ p1 p2, T.getD (i - 1) (0, 0) = (p1, p2) := ⟨_, _, rfl⟩
                have hx0 := fun W => HIXT.out W (i - 1) (by omega)
                have b1 := HRc.out.c0 (i - 1) (by omega)
                have b2 := HRc.out.c1 (i - 1) (by omega)
                rw [hp] at b1 b2
                simp only at b1 b2
                have y0 : IntKind.i64.wrap ((i : Int) - 1) = ((i - 1 : Nat) : Int) := by rw [show (i : Int) - 1 = ((i - 1 : Nat) : Int) by omega]; exact IntWalk.i64_in _ (by omega)
                have hg0 : (0 : Int) < (i : Int) := by omega
                have hlex : p1 < q1 ∨ p1 = q1 ∧ p2 < q2 := by
                  have h1 := List.pairwise_iff_getElem.1 HLX.out (i - 1) i (by omega) hlt (by omega)
                  have e1 : T[i - 1]'(by omega) = (p1, p2) := by rw [← hp, List.getD_eq_getElem?_getD, List.getElem?_eq_getElem (by omega)]; rfl
                  have e2 : T[i]'hlt = (q1, q2) := by rw [List.getElem?_eq_getElem hlt] at hti; exact Option.some.inj hti
                  rw [e1, e2] at h1
                  exact h1
                have l1 : decide ((q1 : Int) < (p1 : Int)) = false := by simp; omega
                have l2 : decide (q1 < p1) = false := by simp; omega
                rcases hlex with hl | ⟨hl1, hl2⟩
                · have l3 : ((q1 : Int) == (p1 : Int)) = false := by rw [beq_eq_false_iff_ne]; omega
                  go_upto_region 18 with fail
                  go_quiet (fail)
                  go_wp2
                  all_goals
                    refine ⟨⟨i + 1, by omega, by go_num, congrArg Value.bool ?_, below_drewN HBc.out nq⟩, by simp [intOf]; omega⟩
                    rw [HTK.out]
                    first
                      | (rw [decide_eq_true (show (j, k) ∈ T.take i by assumption)]; rfl)
                      | (rw [decide_eq_false (show ¬ (j, k) ∈ T.take i by assumption), Bool.false_or]
                         symm
                         first
                           | exact decide_eq_true (Prod.ext (show q1 = j by omega) (show q2 = k by omega))
                           | exact decide_eq_false (fun h => by injection h with g1 g2; omega))
                · have l3 : ((q1 : Int) == (p1 : Int)) = true := by rw [beq_iff_eq]; omega
                  have l4 : decide ((q2 : Int) ≤ (p2 : Int)) = false := by simp; omega
                  have l5 : decide (q2 ≤ p2) = false := by simp; omega
                  go_upto_region 18 with fail
                  go_quiet (fail)
                  go_wp2
                  all_goals
                    refine ⟨⟨i + 1, by omega, by go_num, congrArg Value.bool ?_, below_drewN HBc.out nq⟩, by simp [intOf]; omega⟩
                    rw [HTK.out]
                    first
                      | (rw [decide_eq_true (show (j, k) ∈ T.take i by assumption)]; rfl)
                      | (rw [decide_eq_false (show ¬ (j, k) ∈ T.take i by assumption), Bool.false_or]
                         symm
                         first
                           | exact decide_eq_true (Prod.ext (show q1 = j by omega) (show q2 = k by omega))
                           | exact decide_eq_false (fun h => by injection h with g1 g2; omega))
          · obtain rfl : i = T.length := by omega
            have hd : decide ((T.length : Int) < (T.length : Int)) = false := by simp
            have hd2 : decide (T.length < T.length) = false := by simp
            have hft : decide ((j, k) ∈ T.take T.length) = true := by rw [List.take_length]; exact decide_eq_true HPM.out
            rw [hft]
            have HCTE := fcount_any wr bf ds HFr.out (Option.map (fun x => x.add k) (A j)) (C j - k) P (by omega) HPB.out HPr.out hPpos
            rw [← HLC.out, HPN.out] at HCTE
            have HCT := Lib.hid HCTE
            clear HCTE
            go_wp2_with (first
              | (go_at_call 27; refine HCT.out.mono ?_; rintro e8 w8 ⟨rfl, hb8⟩; have HB8 := Lib.hid hb8; clear hb8)
              | (go_at_call 28; refine (awake14_any _).mono ?_; rintro e9 w9 ⟨rfl, hb9⟩; have HB9 := Lib.hid hb9; clear hb9))
            go_ret
            exact ⟨rfl, below_next (below_next (below_next HB4.out HBr.out HB4.out.size) HB8.out (below_next HB4.out HBr.out HB4.out.size).size) HB9.out (below_next (below_next HB4.out HBr.out HB4.out.size) HB8.out (below_next HB4.out HBr.out HB4.out.size).size).size⟩
end Go.Proofs.Ytjpoebmjfedecaa
