/-
  The statement BackNests: its walk.
-/
import Derived.Test.YtckmabdphdcpmaaBackAwake
import Derived.Test.YtckmabdphdcpmaaBackNestMath
namespace Go.Proofs.Ytckmabdphdcpmaa
open Go.RowKit

theorem owns_one (w : World) (e : TypeId) (v : Value) : (w.alloc (.cells #[v] e)).ownsRow w.heap.size e 1 (.slice (some ⟨w.heap.size, 0, none⟩) 1 1) 1 [v] :=
  ⟨by simp, .inr ⟨w.heap.size, 1, #[v], rfl, Nat.le_refl _, World.alloc_heap_new w _, Nat.le_refl _, by simp [maxLen], rfl, rfl⟩⟩
theorem cut_to8 (a : Option Addr) (n cap k : Nat) (h : k ≤ n) (hc : n ≤ cap) (h1 : a = some ⟨bOf a, oOf a, none⟩) : ∀ W : World, (Instr.slice 23 (.slice a n cap) none (some (.int .i64 (k : Int))) none).run Try.prog W = .ok (.slice a k cap) W := by
  intro W
  cases a with
  | none => cases h1
  | some ad =>
    simp [Instr.slice, run_underlying Try.underlying23, Instr.sliceBounds, run_sliceBound, show (0 : Int) ≤ k by omega, show (k : Int) ≤ cap by omega]
    intro _
    cases ad
    simp [Addr.add]
theorem byteV_cons (c : Nat) (P : List Nat) : ∀ k, k < 1 + P.length → ([Value.int .u8 (c : Int)] ++ (List.range P.length).map (byteV P)).getD k undef = byteV (c :: P) k := fun k hk => by
  cases k with
  | zero => rfl
  | succ k =>
    rw [List.singleton_append, List.getD_eq_getElem?_getD, List.getElem?_cons_succ, List.getElem?_map, List.getElem?_range (by omega)]
    rfl
set_option maxRecDepth 100000 in
set_option maxHeartbeats 2000000 in
theorem bnests_walk (w : World) (a : Option Addr) (cap : Nat) (A : Nat → Option Addr) (C : Nat → Nat) (ds : List (List Nat)) (hin : DocsIn w a A C ds) (a1 : Option Addr) (len cap1 : Nat) (f : Nat → Int) (hl : len ≤ maxLen) (hr : Row w a1 len (fun k => .int .u8 (f k)) ∧ ∀ k, k < len → (Lit.int .u8 (f k)).wf = true) :
    Calls Try.prog 3 #[.slice a ds.length cap, .slice a1 len cap1] w fun e w' => e = .returned (.bool true) ∧ Below w.heap.size w w' := by
  obtain ⟨P, hd, hdr, hpb⟩ := bytes_list hr
  subst hd
  unfold maxLen at hl
  have HF := Lib.hid (few_any w a cap A C ds hin.many hin.docs hin.long)
  have hix := run_ix (P := Try.prog) 22 (by kernel_rfl) size_bytes a ds.length cap hin.docs.top.at_ .i64
  have HIN := Lib.hid hin
  have HP := Lib.hid hdr
  have HPB := Lib.hid hpb
  clear hin hr hdr hpb
  go_enter Try.func3, Try.ntmps3
  go_wp2_with fail
  refine HF.out.mono ?_
  rintro e w' ⟨b, rfl, hfew, rfl⟩
  cases b with
  | false =>
    clear hfew hix
    go_wp2_with (go_at_call 9; refine (awake12_any _).mono ?_; rintro e w1 ⟨rfl, hb⟩)
    go_ret
    exact ⟨rfl, hb⟩
  | true =>
    obtain ⟨hf1, hf2, hf3⟩ := hfew rfl
    have HFEW := Lib.hid (FewP.mk hf1 hf2 hf3 HIN.out.byte)
    clear hfew hf2 HF
    have HOK := Lib.hid HFEW.out.ok
    by_cases h0 : P.length = 0
    · have h0b : ((P.length : Int) == 0) = true := by rw [h0]; rfl
      clear h0 hix
      go_wp2_with (go_at_call 9; refine (awake12_any _).mono ?_; rintro e w1 ⟨rfl, hb⟩)
      go_ret
      exact ⟨rfl, hb⟩
    · have h0b : ((P.length : Int) == 0) = false := by rw [beq_eq_false_iff_ne]; omega
      by_cases hp : (50 : Int) < (P.length : Int)
      · clear h0 hix
        go_wp2_with (go_at_call 9; refine (awake12_any _).mono ?_; rintro e w1 ⟨rfl, hb⟩)
        go_ret
        exact ⟨rfl, hb⟩
      · have hpd : decide ((50 : Int) < (P.length : Int)) = false := by simp; omega
        have hpl : P.length ≤ 50 := by omega
        have hp0 : 0 < P.length := by omega
        clear hp hl h0
        go_wp2_with fail
        refine (bmade_any w a cap A C ds HIN.out.docs HOK.out).mono ?_
        rintro e w1 ⟨bx, bm, al, cl, rfl, hi, hb1, hlo⟩
        have HI1 := Lib.hid hi
        have HB1 := Lib.hid hb1
        have HP1 := Lib.hid (HP.out.kept hb1)
        have hLl : (bwtOf ds).length ≤ 3040 := by rw [bwtOf_len]; exact hf3
        have HISB := Lib.hid (bkR_is ds HFEW.out.byte P)
        have HSZ := Lib.hid (seg_zeros ds P _ _ HISB.out)
        have hle := bkR_le (bwtOf ds) P
        have HSA := Lib.hid (sumK_all (bwtOf ds) (lo := (bkR (bwtOf ds) P).1) hle.2 (bwtOf_le ds HFEW.out.byte))
        rw [HSZ.out] at HSA
        have HSS := Lib.hid (fun c => sumK_succ (bwtOf ds) hle.1 c)
        have HSL := Lib.hid (fun c => sumK_le (bwtOf ds) (lo := (bkR (bwtOf ds) P).1) hle.2 c)
        have HS0 := Lib.hid (sumK_zero (bwtOf ds) (bkR (bwtOf ds) P).1 (bkR (bwtOf ds) P).2)
        have HGP := Lib.hid (fun c => rk_gap (bwtOf ds) c hle.1 hle.2)
        have HCN := Lib.hid (fun c => bkR_cons (bwtOf ds) c P)
        clear hi hb1 hlo HSZ HISB
        generalize bwtOf ds = L at *
        go_wp2_with fail
        refine (bcount_any w1 bx bm al cl L HI1.out a1 cap1 P (by omega) HPB.out HP1.out hp0).mono ?_
        rintro e w2 ⟨rfl, hb2⟩
        have HB2 : Hid (Below w.heap.size w w2) := below_next HB1.out hb2 HB1.out.size
        have HI2 := Lib.hid (HI1.out.kept hb2)
        have HP2 := Lib.hid (HP1.out.kept hb2)
        obtain ⟨lo, hi, hlh⟩ : ∃ lo hi, bkR L P = (lo, hi) := ⟨_, _, rfl⟩
        rw [hlh] at HSA HSS HSL HS0 HGP HCN hle ⊢
        simp only at HSA HSS HSL HS0 HGP HCN hle ⊢
        clear hb2 HB1 HI1 HP1 hlh
        obtain ⟨i1, hi1', hza1, hzb1, hzc1⟩ := info_parts info_u8
        have hNN : hi - lo ≤ 3040 := by omega
        generalize hN : hi - lo = N at *
        clear hN
        go_wp2_with fail
        go_loopw [7, 8] (fun v7 v8 wr => ∃ c : Nat, c ≤ 256 ∧ v8 = .int .i64 (c : Int) ∧ v7 = .int .i64 ((sumK L lo hi c : Nat) : Int) ∧ Below w2.heap.size w2 wr) (fun _ v8 _ => 256 - (intOf v8).toNat)
        case atStart => exact ⟨0, by omega, rfl, by rw [HS0.out]; rfl, Below.refl _ _⟩
        case round =>
          obtain ⟨c, hc, rfl, rfl, hbel⟩ := hrel
          have HBW := Lib.hid hbel
          by_cases hlt : c < 256
          · have ew8 : IntKind.u8.wrap (c : Int) = (c : Int) := IntWalk.u8_in _ (by omega)
            have hb0 : Below wr.heap.size wr (wr.alloc (.cells #[.int .u8 (c : Int)] 5)) := (Below.refl _ wr).alloc (Nat.le_refl _) _
            have hPw := (HP2.out.kept hbel).kept hb0
            obtain ⟨v5, w5, hrun5, hown5, hg5, -⟩ := run_append_row (P := Try.prog) (wr.alloc (.cells #[.int .u8 (c : Int)] 5)) wr.heap.size 23 23 5 i1 _ 1 Try.underlying23 hi1' hza1 hzb1 hzc1 rfl _ 1 _ (owns_one wr 5 (.int .u8 (c : Int))) a1 P.length cap1 _ hPw (fun _ _ => rfl) (by simp only [maxLen]; omega) (by omega) (by simp)
            have hB5 : Below wr.heap.size wr w5 := hb0.grown hg5 (by simp) (fun k hk => by simp [Value.ownBlock] at hk; omega)
            obtain ⟨av5, cv5, rfl, -⟩ := Row.of_owns hown5
            have hr5 : Row w5 av5 (c :: P).length (byteV (c :: P)) := by
              rw [List.length_cons, Nat.add_comm]
              exact (owns_row hown5).1.congr (byteV_cons c P)
            have R5 := Lib.hid hrun5
            have HR5 := Lib.hid hr5
            have HB5 : Hid (Below w2.heap.size w2 w5) := below_next hbel hB5 hbel.size
            have hsk := HSL.out c
            have hsk2 := HSL.out (c + 1)
            have hss := HSS.out c
            have hgp := HGP.out (c + 1)
            have hct := bcount_any w5 bx bm al cl L (HI2.out.kept HB5.out) av5 cv5 (c :: P) (by simp; omega) (fun x hx => by
              rcases List.mem_cons.1 hx with h | h
              · omega
              · exact HPB.out x h) hr5 (by simp)
            rw [HCN.out] at hct
            simp only [List.length_cons] at hct
            rw [Nat.add_sub_add_left, Nat.add_comm P.length 1] at hct
            have HCT := Lib.hid hct
            generalize rkC L (c + 1) hi - rkC L (c + 1) lo = kk at *
            have HSS2 := Lib.hid hss
            have t1 : decide ((N : Int) < (kk : Int)) = false := by simp; omega
            clear hrun5 hown5 hg5 hB5 hr5 hPw hb0 hct hss hbel
            generalize sumK L lo hi c = sc at *
            go_wp2_with (with_reducible refine wpList_append_run rfl _ _ _ rfl R5.out rfl rfl ?_)
            refine HCT.out.mono ?_
            rintro e w6 ⟨rfl, hb6⟩
            have HB6 : Hid (Below w2.heap.size w2 w6) := below_next HB5.out hb6 HB5.out.size
            clear hb6 HCT R5 HB5 HR5
            go_wp2_with fail
            go_roundw
            case rel => exact ⟨c + 1, by omega, by go_num, by (rw [HSS2.out]) <;> go_num, HB6.out⟩
            case measure => simp [intOf]; omega
          · obtain rfl : c = 256 := by omega
            have hcd : decide ((256 : Int) < 256) = false := by decide
            have hsl := HSL.out 256
            have hsa := HSA.out
            clear hc hlt hbel HSS HSL HS0 HGP HCN
            generalize sumK L lo hi 256 = S0 at *
            have HSA2 := Lib.hid hsa
            clear hsa
            have HBS : Hid (Below w.heap.size w wr) := below_next HB2.out HBW.out HB2.out.size
            have HD := Lib.hid (HIN.out.docs.kept HBS.out)
            have HPw := Lib.hid (HP2.out.kept HBW.out)
            go_wp2_with fail
            obtain ⟨wo, hwo⟩ : ∃ wo : World, wo = wr := ⟨_, rfl⟩
            subst hwo
            go_loopw [7, 10] (fun v7 v10 wi => ∃ i m : Nat, i ≤ ds.length ∧ v10 = .int .i64 (i : Int) ∧ v7 = .int .i64 ((S0 + (begD ds P i).length : Nat) : Int) ∧ wi = wo.drewN m) (fun _ v10 _ => ds.length - (intOf v10).toNat)
            case atStart => exact ⟨0, 0, Nat.zero_le _, rfl, by rw [begD_zero]; rfl, rfl⟩
            case round =>
              obtain ⟨i, m, hi, rfl, rfl, rfl⟩ := hrel
              have hbl := begD_le ds P i
              by_cases hlt : i < ds.length
              · have HBN := Lib.hid (begD_succ ds P i)
                have d1 : wo.cell? ⟨bOf a, oOf a + i, none⟩ = some (.slice (A i) (ds.getD i []).length (C i)) := HD.out.top.cell i hlt
                have hr1 := HD.out.each i hlt
                have hby := HFEW.out.byte _ (doc_mem hlt)
                have hcp := HIN.out.caps i hlt
                have hlg := HOK.out.long _ (doc_mem hlt)
                generalize (begD ds P i).length = B at *
                generalize ds.getD i [] = d at *
                have hx := fun W => hix W i hlt
                by_cases hge : P.length ≤ d.length
                · have y0 : (P.length : Int) ≤ (d.length : Int) := by omega
                  have hA : A i = some ⟨bOf (A i), oOf (A i), none⟩ := by
                    rcases hr1.at_ with h | h
                    · omega
                    · exact h
                  have hct := cut_to8 (A i) d.length (C i) P.length hge hcp hA
                  have hrT : Row wo (A i) (d.take P.length).length (byteV (d.take P.length)) := by
                    rw [List.length_take, Nat.min_eq_left hge]
                    refine (hr1.take hge).congr fun k hk => ?_
                    show Value.int .u8 ((d.getD k 0 : Nat) : Int) = Value.int .u8 (((d.take P.length).getD k 0 : Nat) : Int)
                    rw [List.getD_eq_getElem?_getD, List.getD_eq_getElem?_getD, List.getElem?_take_of_lt hk]
                  have hc1 : ∀ q, (convert 23 9 (.slice (A i) P.length (C i))).run Try.prog (wo.drewN q) = .ok (.string (sB (d.take P.length))) (wo.drewN q) := fun q => by
                    have := conv_str (wo.drewN q) (A i) (d.take P.length) (C i) (hrT.drewN q)
                    rw [List.length_take, Nat.min_eq_left hge] at this
                    exact this
                  have hc2 : ∀ q, (convert 23 9 (.slice a1 P.length cap1)).run Try.prog (wo.drewN q) = .ok (.string (sB P)) (wo.drewN q) := fun q => conv_str _ _ P _ (HPw.out.drewN q)
                  have heq := sB_eq (d.take P.length) P (fun c hc => hby c (List.mem_of_mem_take hc)) HPB.out
                  obtain ⟨wq, hwq⟩ : ∃ wq, wq = wo.drewN m := ⟨_, rfl⟩
                  have e1 : wq.cell? ⟨bOf a, oOf a + i, none⟩ = some (.slice (A i) d.length (C i)) := by rw [hwq]; exact d1
                  have hc3 : ∀ q, (convert 23 9 (.slice (A i) P.length (C i))).run Try.prog (wq.drewN q) = .ok (.string (sB (d.take P.length))) (wq.drewN q) := fun q => by rw [hwq, World.drewN_drewN]; exact hc1 _
                  have hc4 : ∀ q, (convert 23 9 (.slice a1 P.length cap1)).run Try.prog (wq.drewN q) = .ok (.string (sB P)) (wq.drewN q) := fun q => by rw [hwq, World.drewN_drewN]; exact hc2 _
                  have HWQ := Lib.hid hwq
                  rw [← hwq]
                  clear hwq d1 hc1 hc2 hrT hr1 hby hA hcp hlg
                  by_cases he : d.take P.length = P
                  · have hbe : ((sB (d.take P.length)).toList == (sB P).toList) = true := by rw [heq]; simpa using he
                    rw [if_pos he] at HBN
                    clear he heq hix
                    generalize sB (d.take P.length) = x at *
                    generalize sB P = y at *
                    go_wp2_with fail
                    go_quiet (fail)
                    clear hc3 hc4 hct e1 hbe
                    go_wp2_with fail
                    go_roundw
                    case rel => exact ⟨i + 1, _, by omega, by go_num, by (rw [HBN.out]) <;> go_num, by rw [HWQ.out, World.drewN_drewN]⟩
                    case measure => simp [intOf]; omega
                  · have hbe : ((sB (d.take P.length)).toList == (sB P).toList) = false := by rw [heq]; simpa using he
                    rw [if_neg he] at HBN
                    clear he heq hix
                    generalize sB (d.take P.length) = x at *
                    generalize sB P = y at *
                    go_wp2_with fail
                    go_quiet (fail)
                    clear hc3 hc4 hct e1 hbe
                    go_wp2_with fail
                    go_roundw
                    case rel => exact ⟨i + 1, _, by omega, by go_num, by rw [HBN.out, Nat.add_zero], by rw [HWQ.out, World.drewN_drewN]⟩
                    case measure => simp [intOf]; omega
                · have y0 : decide ((P.length : Int) ≤ (d.length : Int)) = false := by simp; omega
                  have y1 : decide (P.length ≤ d.length) = false := by simp; omega
                  have hnp : ¬ d.take P.length = P := fun e => by
                    have := congrArg List.length e
                    rw [List.length_take] at this
                    omega
                  rw [if_neg hnp] at HBN
                  clear hr1 hby hcp hlg hnp hix hge
                  go_wp2_with fail
                  go_quiet (fail)
                  go_wp2_with fail
                  go_roundw
                  case rel => exact ⟨i + 1, _, by omega, by go_num, by rw [HBN.out, Nat.add_zero], rfl⟩
                  case measure => simp [intOf]; omega
              · obtain rfl : i = ds.length := by omega
                have hdd : decide ((ds.length : Int) < (ds.length : Int)) = false := by simp
                rw [HSA2.out]
                have hNz : ((N : Int) == (N : Int)) = true := by simp
                have HBf : Hid (Below w.heap.size w (wo.drewN m)) := below_drewN HBS.out m
                generalize wo.drewN m = wf at *
                clear hix hlt hi
                go_wp2_with (go_at_call 9; refine (awake12_any _).mono ?_; rintro e w9 ⟨rfl, hb9⟩)
                go_ret
                exact ⟨rfl, below_next HBf.out hb9 HBf.out.size⟩
end Go.Proofs.Ytckmabdphdcpmaa
