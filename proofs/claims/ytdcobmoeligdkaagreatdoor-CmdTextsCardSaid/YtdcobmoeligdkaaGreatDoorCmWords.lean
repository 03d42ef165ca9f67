/-
  cmd.words: the iterator over the pieces of a line.
-/
import Derived.Test.YtdcobmoeligdkaaGreatDoorCmShape
import Derived.Test.YtdcobmoeligdkaaGreatDoorSeqH
import Derived.Test.YtdcobmoeligdkaaGreatDoorStillW
namespace Go.Proofs.YtdcobmoeligdkaaGreatDoor
open Go.RowKit Go.Shelf
attribute [local go_sem] Oper.semAt_some

theorem unq_size (w : World) (r : List UInt8) (hr : r.length ≤ 100000) : Calls Tryz.prog 44 #[.string (uS r)] w fun e w' =>
    ∃ v b, e = .returned (.tuple #[v, .int .i64 ((((unq r).map (·.2)).getD 0 : Nat) : Int), .bool b]) ∧ Below w.heap.size w w' := by
  refine (unquote_any w r hr).mono ?_
  rintro e w' ⟨hb, (⟨h1, rfl⟩ | ⟨b, n, a, h1, rfl, _, _⟩)⟩
  · exact ⟨_, _, by rw [h1]; rfl, hb⟩
  · exact ⟨_, _, by rw [h1]; rfl, hb⟩
theorem indexB_le (l : List UInt8) (c : UInt8) : Lib.indexByte l c < (l.length : Int) ∨ Lib.indexByte l c < 0 := by
  rcases Int.lt_or_le (Lib.indexByte l c) 0 with h | h
  · exact .inr h
  · obtain ⟨o, ho⟩ : ∃ o : Nat, Lib.indexByte l c = (o : Int) := ⟨(Lib.indexByte l c).toNat, by omega⟩
    have h3 := (List.getElem?_eq_some_iff.1 (Lib.indexByte_some ho).1).1
    exact .inl (by omega)
theorem words_any (w : World) (s needs : ByteArray) : Calls Tryz.prog 22 #[.string s, .string needs] w fun e w' =>
    e = .returned (.func (.func 42) #[] #[.pointer (some ⟨w.heap.size + 1, 0, none⟩), .pointer (some ⟨w.heap.size, 0, none⟩)]) ∧ w' = (w.alloc (.cells #[.string s] 9)).alloc (.cells #[.string needs] 9) := by
  go_enter Tryz.func22, Tryz.ntmps22
  go_wp2
  go_ret
  exact ⟨by simp, rfl⟩
def encW (x : UInt8 × List UInt8) : Array Value := #[.int .u8 (x.1.toNat : Int), .string (uS x.2)]
theorem bool_waysW {e : Ending} {A C : Prop} (h : (e = .returned (.bool true) ∧ A) ∨ (e = .returned (.bool false) ∧ C)) : ∃ b : Bool, e = .returned (.bool b) ∧ ((b = true ∧ A) ∨ (b = false ∧ C)) := by
  rcases h with ⟨h1, h2⟩ | ⟨h1, h2⟩
  · exact ⟨true, h1, .inl ⟨rfl, h2⟩⟩
  · exact ⟨false, h1, .inr ⟨rfl, h2⟩⟩
theorem cutp_any (t : List UInt8) (W : World) : Calls Tryz.prog 43 #[.string (uS t), .string ⟨#[32]⟩] W fun e w' => e = .returned (.tuple #[.string (uS (if t.head? = some 32 then t.tail else t)), .bool (decide (t.head? = some 32))]) ∧ W = w' := by
  refine (Tryz.strings_CutPrefix (uS t) ⟨#[32]⟩ W).mono ?_
  rintro e w' ⟨rfl, hw⟩
  refine ⟨?_, hw.symm⟩
  have h1 : (uS t).data.toList = t := rfl
  have h2 : (⟨#[32]⟩ : ByteArray).data.toList = [32] := rfl
  rw [h1, h2]
  cases t with
  | nil => rfl
  | cons a r =>
    by_cases h : a = 32
    · subst h
      simp [Lib.trimPrefix, Lib.hasPrefix, uS]
    · have h' : ¬ (32 : UInt8) = a := fun e => h e.symm
      have h3 : List.isPrefixOf [32] (a :: r) = false := by simp [List.isPrefixOf, h']
      simp [Lib.trimPrefix, Lib.hasPrefix, uS, h, h', h3]
theorem cut_toU (s : List UInt8) (k : Nat) (h : k ≤ s.length) : ∀ W : World, (Instr.slice 9 (.string (uS s)) none (some (.int .i64 (k : Int))) none).run Tryz.prog W = .ok (.string (uS (s.take k))) W := by
  intro W
  have hz := uS_size s
  rw [← uS_take]
  simp [Instr.slice, run_underlying Tryz.underlying9, Instr.sliceBounds, run_sliceBound, show (0 : Int) ≤ k by omega, show (k : Int) ≤ (uS s).size by omega]
theorem cut_fromU (s : List UInt8) (k : Nat) (h : k ≤ s.length) : ∀ W : World, (Instr.slice 9 (.string (uS s)) (some (.int .i64 (k : Int))) none none).run Tryz.prog W = .ok (.string (uS (s.drop k))) W := by
  intro W
  have hz := uS_size s
  rw [← uS_drop, ← hz]
  simp [Instr.slice, run_underlying Tryz.underlying9, Instr.sliceBounds, run_sliceBound, show (0 : Int) ≤ k by omega, show (k : Int) ≤ (uS s).size by omega]
theorem blank_any (t : List UInt8) (W : World) : Calls Tryz.prog 45 #[.string (uS t), .int .u8 32] W fun e w' => e = .returned (.int .i64 (Lib.indexByte t 32)) ∧ W = w' := by
  refine (Tryz.strings_IndexByte (uS t) 32 W).mono ?_
  rintro e w' ⟨rfl, hw⟩
  exact ⟨rfl, hw.symm⟩
set_option maxRecDepth 100000 in
set_option maxHeartbeats 2000000 in
theorem words1_any (n : Nat) (hn : 1 ≤ n) (w : World) (nB sB : Nat) (needs s : List UInt8) (hne : nB ≠ sB) (hnl : needs.length ≤ 100) (hsl : s.length ≤ 10000) (hnB : w.cell? ⟨nB, 0, none⟩ = some (.string (uS needs))) (hsB : Boxed w sB 9 (.string (uS s))) :
    SeqH Fence.wide n Tryz.prog 42 #[.pointer (some ⟨nB, 0, none⟩), .pointer (some ⟨sB, 0, none⟩)] encW (fun b => b = sB) (fun b => b = nB) (fun xs => xs = wordsL needs s) (fun pre => pre <+: wordsL needs s) (fun pre x => pre ++ [x] <+: wordsL needs s) w := by
  intro l J Jx W hW hJ hJx hY h0
  have hwf : ∀ f, Fence.wide.fn f = True := fun _ => rfl
  refine callsIn_of_wp Tryz.func42 rfl trivial ?_ rfl
  simp only [Tryz.ntmps42, List.size_toArray, List.length_cons, List.length_nil, Nat.reduceAdd, Nat.reduceSub, Array.replicate_succ, Array.replicate_zero, List.push_toArray, List.append_toArray, List.nil_append, List.cons_append]
  have HY := Lib.hid hY
  have HJ := Lib.hid hJ
  have HJX := Lib.hid hJx
  have H0 := Lib.hid h0
  have hnbl := World.block_lt_of_cell? w _ hnB
  have c1 : W.cell? ⟨nB, 0, none⟩ = some (.string (uS needs)) := (hW.cell (p := ⟨nB, 0, none⟩) hnbl).trans hnB
  have HS0 : Hid (Boxed W sB 9 (.string (uS s))) := (hW.block sB hsB.lt).trans hsB
  have HNE := Lib.hid hne
  have hsz := uS_size needs
  clear hY hJ hJx h0 hW hsB hnB hnbl hne
  gi_wp2
  gi_loopw [11] (fun v11 wr => ∃ (k : Nat) (t : List UInt8) (pre : List (UInt8 × List UInt8)), k ≤ needs.length ∧ v11 = .int .i64 (k : Int) ∧ t.length ≤ 10000 ∧ J (fun b => b = sB) pre wr ∧ Boxed wr sB 9 (.string (uS t)) ∧ wr.cell? ⟨nB, 0, none⟩ = some (.string (uS needs)) ∧ Hid (wordsL needs s = pre ++ wordsL (needs.drop k) t)) (fun v11 _ => needs.length - (intOf v11).toNat)
  case atStart => exact ⟨0, s, [], Nat.zero_le _, rfl, hsl, H0.out, HS0.out, c1, rfl⟩
  case round =>
    obtain ⟨k, t, pre, hk, rfl, htl, hj, hsb, hnb, HW⟩ := hrel
    have HJ0 := Lib.hid hj
    have HSB := Lib.hid hsb
    have HNB := Lib.hid hnb
    clear hj hsb
    by_cases hlt : k < needs.length
    · obtain ⟨c, hc⟩ : ∃ c, needs[k]? = some c := ⟨needs[k], List.getElem?_eq_getElem hlt⟩
      have hdr : needs.drop k = c :: needs.drop (k + 1) := by
        rw [List.drop_eq_getElem_cons hlt]; congr 1
        exact Option.some.inj ((List.getElem?_eq_getElem hlt).symm.trans hc)
      have hix := ixS needs k c hc k rfl
      rw [hdr] at HW
      have x2 := HSB.out.cell
      have HCP := Lib.hid (cutp_any t)
      by_cases hh : t.head? = some 32
      · obtain ⟨r, rfl⟩ : ∃ r, t = 32 :: r := by
          cases t with
          | nil => cases hh
          | cons a r => exact ⟨r, by rw [List.head?_cons] at hh; rw [Option.some.inj hh]⟩
        rw [if_pos hh, decide_eq_true hh, List.tail_cons] at HCP
        have hrl : r.length ≤ 9999 := by simp at htl; omega
        have HWC : Hid (wordsL needs s = pre ++ ((c, r.take (pieceLen c r)) :: wordsL (needs.drop (k + 1)) (r.drop (pieceLen c r)))) := by
          show _ = _
          rw [HW.out, wordsL, if_pos (by decide)]
        have hcl := c.toNat_lt
        have hrz := uS_size r
        clear hh HW hdr hc htl
        by_cases ht : c.toNat = 116
        · have htb : ((c.toNat : Int) == 116) = true := by rw [ht]; rfl
          have HUS := Lib.hid (unq_size wr r (by omega))
          obtain ⟨P, hPe⟩ : ∃ P, P = ((unq r).map (·.2)).getD 0 := ⟨_, rfl⟩
          have HP : Hid (P ≤ r.length ∧ pieceLen c r = P) := ⟨by
            rw [hPe]
            cases hu : unq r with
            | none => exact Nat.zero_le _
            | some p => exact (unq_len hu).2.1, by unfold pieceLen; rw [if_pos ht, hPe]⟩
          rw [← hPe] at HUS
          clear hPe
          clear ht
          gi_wp2_with (first
            | (gi_at_call 43; refine (callsIn_wide.2 (HCP.out _)).mono ?_; rintro e w4 ⟨rfl, rfl⟩)
            | (gi_at_call 44; refine (callsIn_wide.2 HUS.out).mono ?_; rintro e w5 ⟨v5, b5, rfl, hb5⟩; have HB5 := Lib.hid hb5; clear hb5; have c1 : w5.cell? ⟨nB, 0, none⟩ = some (.string (uS needs)) := (HB5.out.cell (p := ⟨nB, 0, none⟩) (World.block_lt_of_cell? wr _ HNB.out)).trans HNB.out))
          have HJx : Hid (J (fun b => b = sB) pre w5) := HJ.out.step HJ0.out (StepX.of_below HB5.out)
          have HSx : Hid (Boxed w5 sB 9 (.string (uS (32 :: r)))) := (HB5.out.block sB HSB.out.lt).trans HSB.out
          have HNx := Lib.hid c1
          clear c1
          clear x2 hnb
          obtain ⟨hPl, hP⟩ := HP.out
          have hs1 := cut_toU r P hPl
          have hs2 := cut_fromU r P hPl
          have hW2 : wordsL needs s = (pre ++ [(c, r.take P)]) ++ wordsL (needs.drop (k + 1)) (r.drop P) := by
            rw [HWC.out, hP, List.append_assoc]; rfl
          have HW2 := Lib.hid hW2
          have hJ2 : J (fun b => b = sB) pre w5.drew := HJ.out.step HJx.out ((StepX.refl _ w5).drew)
          obtain ⟨fn, tmps, assign, body, hy, hR⟩ := HY.out (fun b => b = sB) pre (c, r.take P) w5.drew hJ2 (by rw [hW2]; exact List.prefix_append _ _)
          have HYR := Lib.hid hR
          unfold encW at hy
          simp only at hy
          have x2 := HSx.out.cell
          have x1 := HNx.out
          have hrd : (r.drop P).length ≤ 10000 := by rw [List.length_drop]; omega
          clear hR hJ2 hW2 hP hPl
          generalize r.drop P = rd at *
          generalize r.take P = rt at *
          refine wpW_region_still_tail 7 (by kernel_rfl) (by kernel_rfl) (by kernel_rfl) ?_
          simp only [List.take_succ_cons, List.take_zero, List.drop_succ_cons, List.drop_zero]
          change wpStill _ _ w5.drew (fun a' => wpListIn _ _ _ _ _ _ a' w5.drew) _ _
          repeat still_step
          refine wpStill_nil ?_
          change wpListIn _ _ _ _ _ _ _ w5.drew
          gi_wp2
          refine HYR.out.mono ?_
          rintro e0 W3 ⟨hkx, hkk, (⟨rfl, hJ3⟩ | ⟨rfl, hJ3⟩)⟩
          · have hb3 : Boxed W3 sB 9 (.string (uS (32 :: r))) := (hkx.block sB HSx.out.lt rfl).trans HSx.out
            have n3 : W3.cell? ⟨nB, 0, none⟩ = some (.string (uS needs)) := (World.cell?_of_block (a := ⟨nB, 0, none⟩) (hkk.block nB (World.block_lt_of_cell? w5 _ HNx.out) rfl)).trans HNx.out
            have y2 := hb3.cell
            have y3 := hb3.frozen
            have HB4 := Lib.hid (hb3.set (.string (uS rd)))
            have HJ4 : Hid (J (fun b => b = sB) (pre ++ [(c, rt)]) (W3.setCell ⟨sB, 0, none⟩ (.string (uS rd)))) := HJ.out.step hJ3 (StepX.setCell _ _ _ rfl)
            have HN4 : Hid ((W3.setCell ⟨sB, 0, none⟩ (.string (uS rd))).cell? ⟨nB, 0, none⟩ = some (.string (uS needs))) :=
              (World.cell?_of_block (a := ⟨nB, 0, none⟩) (Below.heap_setCell W3 ⟨sB, 0, none⟩ _ nB HNE.out)).trans n3
            clear hJ3 hkx hkk hy hb3 n3 x1 x2 hs1
            gi_wp2
            go_roundw
            case rel => exact ⟨k + 1, rd, pre ++ [(c, rt)], by omega, by go_num, hrd, HJ4.out, HB4.out, HN4.out, HW2.out⟩
            case measure => simp [intOf]; omega
          · have HJ3 := Lib.hid hJ3
            clear hJ3 hkx hkk hy
            gi_wp2
            refine bodyPost_ret (results_none rfl _ _ _) rfl ?_
            exact ⟨⟨_, rfl⟩, .inr ⟨_, _, by rw [HW2.out]; exact List.prefix_append _ _, HJ3.out⟩⟩
        · have htb : ((c.toNat : Int) == 116) = false := by rw [beq_eq_false_iff_ne]; omega
          by_cases hn' : c.toNat = 110
          · have hnb' : ((c.toNat : Int) == 110) = true := by rw [hn']; rfl
            have HBL := Lib.hid (blank_any r)
            have hpl : pieceLen c r = blank r := by unfold pieceLen; rw [if_neg ht, if_pos hn']
            have HJx := HJ0
            have HSx := HSB
            have HNx := HNB
            by_cases h0 : Lib.indexByte r 32 < 0
            · obtain ⟨P, hPe⟩ : ∃ P, P = r.length := ⟨_, rfl⟩
              have HP : Hid (P ≤ r.length ∧ pieceLen c r = P) := ⟨by omega, by rw [hpl, hPe]; unfold blank; rw [if_pos h0]⟩
              rw [← hPe] at hrz
              clear hPe
              clear ht hn' hpl
              generalize Lib.indexByte r 32 = q at *
              have h0d : decide ((0 : Int) ≤ q) = false := by simp; omega
              gi_wp2_with (first
                | (gi_at_call 43; refine (callsIn_wide.2 (HCP.out _)).mono ?_; rintro e w4 ⟨rfl, rfl⟩)
                | (gi_at_call 45; refine (callsIn_wide.2 (HBL.out _)).mono ?_; rintro e w5 ⟨rfl, rfl⟩))
              obtain ⟨hPl, hP⟩ := HP.out
              have hs1 := cut_toU r P hPl
              have hs2 := cut_fromU r P hPl
              have hW2 : wordsL needs s = (pre ++ [(c, r.take P)]) ++ wordsL (needs.drop (k + 1)) (r.drop P) := by
                rw [HWC.out, hP, List.append_assoc]; rfl
              have HW2 := Lib.hid hW2
              have hJ2 : J (fun b => b = sB) pre wr.drew := HJ.out.step HJx.out ((StepX.refl _ wr).drew)
              obtain ⟨fn, tmps, assign, body, hy, hR⟩ := HY.out (fun b => b = sB) pre (c, r.take P) wr.drew hJ2 (by rw [hW2]; exact List.prefix_append _ _)
              have HYR := Lib.hid hR
              unfold encW at hy
              simp only at hy
              have x2 := HSx.out.cell
              have x1 := HNx.out
              have hrd : (r.drop P).length ≤ 10000 := by rw [List.length_drop]; omega
              clear hR hJ2 hW2 hP hPl
              generalize r.drop P = rd at *
              generalize r.take P = rt at *
              refine wpW_region_still_tail 7 (by kernel_rfl) (by kernel_rfl) (by kernel_rfl) ?_
              simp only [List.take_succ_cons, List.take_zero, List.drop_succ_cons, List.drop_zero]
              change wpStill _ _ wr.drew (fun a' => wpListIn _ _ _ _ _ _ a' wr.drew) _ _
              repeat still_step
              refine wpStill_nil ?_
              change wpListIn _ _ _ _ _ _ _ wr.drew
              gi_wp2
              refine HYR.out.mono ?_
              rintro e0 W3 ⟨hkx, hkk, (⟨rfl, hJ3⟩ | ⟨rfl, hJ3⟩)⟩
              · have hb3 : Boxed W3 sB 9 (.string (uS (32 :: r))) := (hkx.block sB HSx.out.lt rfl).trans HSx.out
                have n3 : W3.cell? ⟨nB, 0, none⟩ = some (.string (uS needs)) := (World.cell?_of_block (a := ⟨nB, 0, none⟩) (hkk.block nB (World.block_lt_of_cell? wr _ HNx.out) rfl)).trans HNx.out
                have y2 := hb3.cell
                have y3 := hb3.frozen
                have HB4 := Lib.hid (hb3.set (.string (uS rd)))
                have HJ4 : Hid (J (fun b => b = sB) (pre ++ [(c, rt)]) (W3.setCell ⟨sB, 0, none⟩ (.string (uS rd)))) := HJ.out.step hJ3 (StepX.setCell _ _ _ rfl)
                have HN4 : Hid ((W3.setCell ⟨sB, 0, none⟩ (.string (uS rd))).cell? ⟨nB, 0, none⟩ = some (.string (uS needs))) :=
                  (World.cell?_of_block (a := ⟨nB, 0, none⟩) (Below.heap_setCell W3 ⟨sB, 0, none⟩ _ nB HNE.out)).trans n3
                clear hJ3 hkx hkk hy hb3 n3 x1 x2 hs1
                gi_wp2
                go_roundw
                case rel => exact ⟨k + 1, rd, pre ++ [(c, rt)], by omega, by go_num, hrd, HJ4.out, HB4.out, HN4.out, HW2.out⟩
                case measure => simp [intOf]; omega
              · have HJ3 := Lib.hid hJ3
                clear hJ3 hkx hkk hy
                gi_wp2
                refine bodyPost_ret (results_none rfl _ _ _) rfl ?_
                exact ⟨⟨_, rfl⟩, .inr ⟨_, _, by rw [HW2.out]; exact List.prefix_append _ _, HJ3.out⟩⟩
            · obtain ⟨P, hPe⟩ : ∃ P : Nat, Lib.indexByte r 32 = (P : Int) := ⟨(Lib.indexByte r 32).toNat, by omega⟩
              have HP : Hid (P ≤ r.length ∧ pieceLen c r = P) := ⟨by have := indexB_le r 32; omega, by rw [hpl]; unfold blank; rw [if_neg h0, hPe]; rfl⟩
              rw [hPe] at HBL
              clear hPe
              clear ht hn' hpl h0
              have h0d : decide ((0 : Int) ≤ (P : Int)) = true := by simp
              gi_wp2_with (first
                | (gi_at_call 43; refine (callsIn_wide.2 (HCP.out _)).mono ?_; rintro e w4 ⟨rfl, rfl⟩)
                | (gi_at_call 45; refine (callsIn_wide.2 (HBL.out _)).mono ?_; rintro e w5 ⟨rfl, rfl⟩))
              obtain ⟨hPl, hP⟩ := HP.out
              have hs1 := cut_toU r P hPl
              have hs2 := cut_fromU r P hPl
              have hW2 : wordsL needs s = (pre ++ [(c, r.take P)]) ++ wordsL (needs.drop (k + 1)) (r.drop P) := by
                rw [HWC.out, hP, List.append_assoc]; rfl
              have HW2 := Lib.hid hW2
              have hJ2 : J (fun b => b = sB) pre wr.drew := HJ.out.step HJx.out ((StepX.refl _ wr).drew)
              obtain ⟨fn, tmps, assign, body, hy, hR⟩ := HY.out (fun b => b = sB) pre (c, r.take P) wr.drew hJ2 (by rw [hW2]; exact List.prefix_append _ _)
              have HYR := Lib.hid hR
              unfold encW at hy
              simp only at hy
              have x2 := HSx.out.cell
              have x1 := HNx.out
              have hrd : (r.drop P).length ≤ 10000 := by rw [List.length_drop]; omega
              clear hR hJ2 hW2 hP hPl
              generalize r.drop P = rd at *
              generalize r.take P = rt at *
              refine wpW_region_still_tail 7 (by kernel_rfl) (by kernel_rfl) (by kernel_rfl) ?_
              simp only [List.take_succ_cons, List.take_zero, List.drop_succ_cons, List.drop_zero]
              change wpStill _ _ wr.drew (fun a' => wpListIn _ _ _ _ _ _ a' wr.drew) _ _
              repeat still_step
              refine wpStill_nil ?_
              change wpListIn _ _ _ _ _ _ _ wr.drew
              gi_wp2
              refine HYR.out.mono ?_
              rintro e0 W3 ⟨hkx, hkk, (⟨rfl, hJ3⟩ | ⟨rfl, hJ3⟩)⟩
              · have hb3 : Boxed W3 sB 9 (.string (uS (32 :: r))) := (hkx.block sB HSx.out.lt rfl).trans HSx.out
                have n3 : W3.cell? ⟨nB, 0, none⟩ = some (.string (uS needs)) := (World.cell?_of_block (a := ⟨nB, 0, none⟩) (hkk.block nB (World.block_lt_of_cell? wr _ HNx.out) rfl)).trans HNx.out
                have y2 := hb3.cell
                have y3 := hb3.frozen
                have HB4 := Lib.hid (hb3.set (.string (uS rd)))
                have HJ4 : Hid (J (fun b => b = sB) (pre ++ [(c, rt)]) (W3.setCell ⟨sB, 0, none⟩ (.string (uS rd)))) := HJ.out.step hJ3 (StepX.setCell _ _ _ rfl)
                have HN4 : Hid ((W3.setCell ⟨sB, 0, none⟩ (.string (uS rd))).cell? ⟨nB, 0, none⟩ = some (.string (uS needs))) :=
                  (World.cell?_of_block (a := ⟨nB, 0, none⟩) (Below.heap_setCell W3 ⟨sB, 0, none⟩ _ nB HNE.out)).trans n3
                clear hJ3 hkx hkk hy hb3 n3 x1 x2 hs1
                gi_wp2
                go_roundw
                case rel => exact ⟨k + 1, rd, pre ++ [(c, rt)], by omega, by go_num, hrd, HJ4.out, HB4.out, HN4.out, HW2.out⟩
                case measure => simp [intOf]; omega
              · have HJ3 := Lib.hid hJ3
                clear hJ3 hkx hkk hy
                gi_wp2
                refine bodyPost_ret (results_none rfl _ _ _) rfl ?_
                exact ⟨⟨_, rfl⟩, .inr ⟨_, _, by rw [HW2.out]; exact List.prefix_append _ _, HJ3.out⟩⟩
          · have hnb' : ((c.toNat : Int) == 110) = false := by rw [beq_eq_false_iff_ne]; omega
            obtain ⟨P, hPe⟩ : ∃ P, P = r.length := ⟨_, rfl⟩
            have HP : Hid (P ≤ r.length ∧ pieceLen c r = P) := ⟨by omega, by unfold pieceLen; rw [if_neg ht, if_neg hn', hPe]⟩
            rw [← hPe] at hrz
            clear hPe
            have HJx := HJ0
            have HSx := HSB
            have HNx := HNB
            clear ht hn'
            gi_wp2_with (gi_at_call 43; refine (callsIn_wide.2 (HCP.out _)).mono ?_; rintro e w4 ⟨rfl, rfl⟩)
            obtain ⟨hPl, hP⟩ := HP.out
            have hs1 := cut_toU r P hPl
            have hs2 := cut_fromU r P hPl
            have hW2 : wordsL needs s = (pre ++ [(c, r.take P)]) ++ wordsL (needs.drop (k + 1)) (r.drop P) := by
              rw [HWC.out, hP, List.append_assoc]; rfl
            have HW2 := Lib.hid hW2
            have hJ2 : J (fun b => b = sB) pre wr.drew := HJ.out.step HJx.out ((StepX.refl _ wr).drew)
            obtain ⟨fn, tmps, assign, body, hy, hR⟩ := HY.out (fun b => b = sB) pre (c, r.take P) wr.drew hJ2 (by rw [hW2]; exact List.prefix_append _ _)
            have HYR := Lib.hid hR
            unfold encW at hy
            simp only at hy
            have x2 := HSx.out.cell
            have x1 := HNx.out
            have hrd : (r.drop P).length ≤ 10000 := by rw [List.length_drop]; omega
            clear hR hJ2 hW2 hP hPl
            generalize r.drop P = rd at *
            generalize r.take P = rt at *
            refine wpW_region_still_tail 7 (by kernel_rfl) (by kernel_rfl) (by kernel_rfl) ?_
            simp only [List.take_succ_cons, List.take_zero, List.drop_succ_cons, List.drop_zero]
            change wpStill _ _ wr.drew (fun a' => wpListIn _ _ _ _ _ _ a' wr.drew) _ _
            repeat still_step
            refine wpStill_nil ?_
            change wpListIn _ _ _ _ _ _ _ wr.drew
            gi_wp2
            refine HYR.out.mono ?_
            rintro e0 W3 ⟨hkx, hkk, (⟨rfl, hJ3⟩ | ⟨rfl, hJ3⟩)⟩
            · have hb3 : Boxed W3 sB 9 (.string (uS (32 :: r))) := (hkx.block sB HSx.out.lt rfl).trans HSx.out
              have n3 : W3.cell? ⟨nB, 0, none⟩ = some (.string (uS needs)) := (World.cell?_of_block (a := ⟨nB, 0, none⟩) (hkk.block nB (World.block_lt_of_cell? wr _ HNx.out) rfl)).trans HNx.out
              have y2 := hb3.cell
              have y3 := hb3.frozen
              have HB4 := Lib.hid (hb3.set (.string (uS rd)))
              have HJ4 : Hid (J (fun b => b = sB) (pre ++ [(c, rt)]) (W3.setCell ⟨sB, 0, none⟩ (.string (uS rd)))) := HJ.out.step hJ3 (StepX.setCell _ _ _ rfl)
              have HN4 : Hid ((W3.setCell ⟨sB, 0, none⟩ (.string (uS rd))).cell? ⟨nB, 0, none⟩ = some (.string (uS needs))) :=
                (World.cell?_of_block (a := ⟨nB, 0, none⟩) (Below.heap_setCell W3 ⟨sB, 0, none⟩ _ nB HNE.out)).trans n3
              clear hJ3 hkx hkk hy hb3 n3 x1 x2 hs1
              gi_wp2
              go_roundw
              case rel => exact ⟨k + 1, rd, pre ++ [(c, rt)], by omega, by go_num, hrd, HJ4.out, HB4.out, HN4.out, HW2.out⟩
              case measure => simp [intOf]; omega
            · have HJ3 := Lib.hid hJ3
              clear hJ3 hkx hkk hy
              gi_wp2
              refine bodyPost_ret (results_none rfl _ _ _) rfl ?_
              exact ⟨⟨_, rfl⟩, .inr ⟨_, _, by rw [HW2.out]; exact List.prefix_append _ _, HJ3.out⟩⟩
      · rw [if_neg hh, decide_eq_false hh] at HCP
        have hw1 : wordsL needs s = pre ++ [(33, t)] := by
          rw [HW.out]; congr 1
          cases t with
          | nil => rfl
          | cons b r =>
            rw [wordsL, if_neg]
            intro e
            exact hh (by rw [List.head?_cons]; congr 1; exact UInt8.toNat_inj.1 e)
        obtain ⟨fn, tmps, assign, body, hy, hR⟩ := HY.out (fun b => b = sB) pre (33, t) wr HJ0.out (by rw [hw1]; exact List.prefix_refl _)
        have HYR := Lib.hid hR
        have HW1 := Lib.hid hw1
        have e33 : (((33 : UInt8).toNat : Nat) : Int) = 33 := rfl
        unfold encW at hy
        simp only [e33] at hy
        clear e33
        clear hR hw1 hh hdr hc hix
        gi_wp2_with (gi_at_call 43; refine (callsIn_wide.2 (HCP.out _)).mono ?_; rintro e w4 ⟨rfl, rfl⟩)
        refine HYR.out.mono ?_
        rintro e0 W3 ⟨hkx, hkk, (⟨rfl, hJ3⟩ | ⟨rfl, hJ3⟩)⟩
        · have HJ3 := Lib.hid hJ3
          clear hJ3 hkx hkk hy
          gi_wp2
          refine bodyPost_ret (results_none rfl _ _ _) rfl ?_
          exact ⟨⟨_, rfl⟩, .inl ⟨_, _, HW1.out.symm, HJ3.out⟩⟩
        · have HJ3 := Lib.hid hJ3
          clear hJ3 hkx hkk hy
          gi_wp2
          refine bodyPost_ret (results_none rfl _ _ _) rfl ?_
          exact ⟨⟨_, rfl⟩, .inr ⟨_, _, by rw [HW1.out]; exact List.prefix_refl _, HJ3.out⟩⟩
    · obtain rfl : k = needs.length := by omega
      have hd : decide ((needs.length : Int) < (needs.length : Int)) = false := by simp
      have x2 := HSB.out.cell
      have hw1 : wordsL needs s = pre ++ [(0, t)] := by
        have := HW.out
        rw [List.drop_length] at this
        exact this
      obtain ⟨fn, tmps, assign, body, hy, hR⟩ := HY.out (fun b => b = sB) pre (0, t) wr HJ0.out (by rw [hw1]; exact List.prefix_refl _)
      have HYR := Lib.hid hR
      have HW1 := Lib.hid hw1
      have e0 : (((0 : UInt8).toNat : Nat) : Int) = 0 := rfl
      unfold encW at hy
      simp only [e0] at hy
      clear hR hw1 e0
      gi_wp2
      refine HYR.out.mono ?_
      rintro e0 W3 ⟨hkx, hkk, (⟨rfl, hJ3⟩ | ⟨rfl, hJ3⟩)⟩
      · have HJ3 := Lib.hid hJ3
        clear hJ3 hkx hkk hy
        gi_wp2
        go_end0
        exact ⟨⟨_, rfl⟩, .inl ⟨_, _, HW1.out.symm, HJ3.out⟩⟩
      · have HJ3 := Lib.hid hJ3
        clear hJ3 hkx hkk hy
        gi_wp2
        go_end0
        exact ⟨⟨_, rfl⟩, .inr ⟨_, _, by rw [HW1.out]; exact List.prefix_refl _, HJ3.out⟩⟩
end Go.Proofs.YtdcobmoeligdkaaGreatDoor
