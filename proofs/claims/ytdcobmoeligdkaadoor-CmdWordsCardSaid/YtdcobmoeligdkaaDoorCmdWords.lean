/-
  The statement CmdWords: its walk.
-/
import Derived.Test.YtdcobmoeligdkaaDoorCmRows
import Derived.Test.YtdcobmoeligdkaaDoorCmDigits
import Derived.BigRegion
namespace Go.Proofs.YtdcobmoeligdkaaDoor
open Go.RowKit Go.Shelf

/-- the rows of the words and of the forms -/
structure WSt (w : World) (wr : World) : Prop where
  nm : wr.heap[w.heap.size]? = some (.cells nmA 9 (0, 0))
  fm : wr.heap[w.heap.size + 1]? = some (.cells fmA 9 (0, 0))
  bel : Below w.heap.size w wr
theorem WSt.kept {w wr W : World} (h : WSt w wr) (hb : Below wr.heap.size wr W) : WSt w W :=
  ⟨(hb.block _ (Array.getElem?_eq_some_iff.1 h.nm).1).trans h.nm, (hb.block _ (Array.getElem?_eq_some_iff.1 h.fm).1).trans h.fm, below_next h.bel hb h.bel.size⟩
theorem WSt.name {w wr : World} (h : WSt w wr) (i : Nat) (hi : i < 17) : wr.cell? ⟨w.heap.size, i, none⟩ = some (.string (uS (wordK (i + 1)))) := (cell_of_row _ _ _ _ _ _ h.nm).trans (nmA_at i hi)
theorem WSt.form {w wr : World} (h : WSt w wr) (i : Nat) (hi : i < 17) : wr.cell? ⟨w.heap.size + 1, i, none⟩ = some (.string (uS (formK (i + 1)))) := (cell_of_row _ _ _ _ _ _ h.fm).trans (fmA_at i hi)
set_option maxRecDepth 100000 in
set_option maxHeartbeats 4000000 in
theorem cmdWords_walk (w : World) (he : Env w) (k : Int) (hk : (Lit.int .i64 k).wf = true) (a : Option Addr) (cap : Nat) (b : List UInt8) (hbl : b.length ≤ maxLen) (hr : Row w a b.length (bV b)) (x : Int) (hx : (Lit.int .i64 x).wf = true) :
    Calls Tryd.prog 3 #[.int .i64 k, .slice a b.length cap, .int .i64 x] w fun e w' => e = .returned (.bool true) ∧ Below w.heap.size w w' := by
  have HAW := Lib.hid (fun (W : World) (hW : Below w.heap.size w W) => awake27_any W (he.kept hW))
  by_cases hlong : 60 < b.length
  · have hli : (60 : Int) < (b.length : Int) := by omega
    clear he hr
    go_enter Tryd.func3, Tryd.ntmps3
    go_wp2_with (go_at_call 6; refine (HAW.out w (Below.refl _ _)).mono ?_; rintro e w7 ⟨rfl, hb7⟩)
    go_ret
    exact ⟨rfl, hb7⟩
  have hli : ¬ (60 : Int) < (b.length : Int) := by omega
  have hb60 : b.length ≤ 60 := by omega
  obtain ⟨I, hI, hI17⟩ : ∃ I : Nat, (bits .and .i64 k 255).tmod 17 = (I : Int) ∧ I < 17 := by
    have h := i64_mask k 8 (by omega)
    have e : (2 : Int) ^ 8 - 1 = 255 := by decide
    rw [e] at h
    rw [h]
    have h0 := Int.emod_nonneg k (show ((2 : Int) ^ 8) ≠ 0 by decide)
    rw [Int.tmod_eq_emod_of_nonneg h0]
    refine ⟨((k % 2 ^ 8) % 17).toNat, by omega, by omega⟩
  obtain ⟨N, hN, hN9⟩ : ∃ N : Nat, bits .and .i64 x 16777215 = (N : Int) ∧ N ≤ 16777215 := by
    have h := i64_mask x 24 (by omega)
    have e : (2 : Int) ^ 24 - 1 = 16777215 := by decide
    rw [e] at h
    rw [h]
    have h0 := Int.emod_nonneg x (show ((2 : Int) ^ 24) ≠ 0 by decide)
    refine ⟨(x % 2 ^ 24).toNat, by omega, by omega⟩
  have HE := Lib.hid he
  have HR := Lib.hid hr
  have HPA : Hid (∀ W, Below w.heap.size w W → ∀ s : List UInt8, s.length ≤ 9000 → Calls Tryd.prog 9 #[.string (uS s)] W (ParsePost W s)) := fun W hW s hs => parse_any W (HE.out.kept hW) s hs
  have HBAD := Lib.hid (bad_none b N (I + 1) (by omega) (by omega) hb60 (by omega))
  have HPB : Hid (∀ W, Below w.heap.size w W → ∀ s : List UInt8, parseL s = none → s.length ≤ 9000 → Calls Tryd.prog 9 #[.string (uS s)] W fun e w' => e = .returned (.tuple #[.agg zeroC, .int .i64 3]) ∧ Below W.heap.size W w') := fun W hW s hs hl => by
    refine (HPA.out W hW s hl).mono ?_
    rintro e w' ⟨hb, (⟨-, rfl⟩ | ⟨st, v, q1, q2, q3, h, -⟩)⟩
    · exact ⟨rfl, hb⟩
    · rw [hs] at h; cases h
  have hnd := need_ok (I + 1) (by omega)
  have hixN : ∀ (bb : Nat) (W : World) (k : Nat), k < 17 → (Instr.indexAt 24 (.slice (some ⟨bb, 0, none⟩) 17 17) (.int .i64 (k : Int))).run Tryd.prog W = .ok (.pointer (some ⟨bb, k, none⟩)) W := fun bb W k hk => by
    have := run_ix (P := Tryd.prog) 24 (by kernel_rfl) size_strc (some ⟨bb, 0, none⟩) 17 17 (.inr rfl) .i64 W k hk
    simpa [bOf, oOf] using this
  clear he hr hk hx hlong hbl
  go_enter Tryd.func3, Tryd.ntmps3
  go_upto_region 5 with fail
  have HW0 : Hid (WSt w ((w.alloc (.cells nmA 9)).alloc (.cells fmA 9))) :=
    ⟨(Below.heap_alloc _ _ _ (by rw [World.size_alloc]; omega)).trans (World.alloc_heap_new w _), by have := World.alloc_heap_new (w.alloc (.cells nmA 9)) (.cells fmA 9); rwa [World.size_alloc] at this, ((Below.refl _ _).alloc (Nat.le_refl _) _).alloc (by simp) _⟩
  rw [← nmA_is, ← fmA_is]
  generalize ((w.alloc (.cells nmA 9)).alloc (.cells fmA 9)) = w2 at *
  have d0 := HW0.out.name I hI17
  have hx7 := fun W => hixN w.heap.size W I hI17
  have hx8 := fun W => hixN (w.heap.size + 1) W I hI17
  obtain ⟨L, hL⟩ : ∃ L, L = (needsOf (I + 1)).length := ⟨_, rfl⟩
  have hL4 : L ≤ 4 := by rw [hL]; exact hnd.2
  have hfs : (uS (formK (I + 1))).size = L := (uS_size _).trans ((List.length_map ..).trans hL.symm)
  have HLL := Lib.hid hL
  have HND := Lib.hid hnd.1
  have hIi : (I : Int) < 17 := by omega
  have hSL : ∀ j, (sJ b N (I + 1) j).length ≤ 800 := fun j => sJ_len b N (I + 1) j (by omega) hb60 (by omega)
  have HSL := Lib.hid hSL
  rw [← sJ_zero b N (I + 1)] at d0
  clear hixN hnd hL hSL
  go_wp2
  clear d0
  go_loopw [10, 11, 12] (fun v10 v11 v12 wr => ∃ j : Nat, j ≤ L ∧ v10 = .string (uS (sJ b N (I + 1) j)) ∧ v11 = .string (uS (sJ b N (I + 1) (j - 1))) ∧ v12 = .int .i64 (j : Int) ∧ WSt w wr) (fun _ _ v12 _ => L - (intOf v12).toNat)
  case atStart => exact ⟨0, Nat.zero_le _, rfl, rfl, rfl, HW0.out⟩
  case round =>
    obtain ⟨j, hj, rfl, rfl, rfl, hws⟩ := hrel
    have HWS := Lib.hid hws
    have d8 := hws.form I hI17
    have d7 := hws.name I hI17
    clear hws
    by_cases hlt : j < L
    · obtain ⟨c, hc⟩ : ∃ c, (needsOf (I + 1))[j]? = some c := ⟨(needsOf (I + 1))[j]'(by rw [← HLL.out]; exact hlt), List.getElem?_eq_getElem _⟩
      have hcf : (formK (I + 1))[j]? = some (upC c) := by unfold formK; rw [List.getElem?_map, hc]; rfl
      have hix := ixS (formK (I + 1)) j (upC c) hcf j rfl
      have hs1 := HSL.out j
      have hs2 := HSL.out (j + 1)
      have hsn := sJ_succ b N (I + 1) j c hc
      have hcm : c = 116 ∨ c = 110 ∨ c = 113 := by
        have := List.mem_of_getElem? hc
        rcases words_need (I + 1) (by omega) (by omega) with e | e | e | e | e | e | e <;> rw [e] at this <;> simp at this
        · exact .inl this
        · exact .inr (.inl this)
        · rcases this with h | h
          · exact .inl h
          · exact .inr (.inl h)
        · exact .inr (.inr this)
        · rcases this with h | h
          · exact .inl h
          · exact .inr (.inl h)
        · exact .inr (.inl this)
      clear hc hcf
      obtain ⟨sn, hSN⟩ : ∃ sn, sn = sJ b N (I + 1) (j + 1) := ⟨_, rfl⟩
      obtain ⟨s, hS⟩ : ∃ s, s = sJ b N (I + 1) j := ⟨_, rfl⟩
      rw [← hSN] at hsn hs2
      rw [← hS] at hsn hs1 ⊢
      have HSP : Hid (Value.string (uS s) = .string (uS (sJ b N (I + 1) (j + 1 - 1)))) := by show _ = _; rw [Nat.add_sub_cancel, hS]
      have HSN : Hid (Value.string (uS sn) = .string (uS (sJ b N (I + 1) (j + 1)))) := by show _ = _; rw [hSN]
      clear hSN hS
      rcases hcm with rfl | rfl | rfl
      · have e1 : ((upC 116).toNat : Int) = 84 := by decide
        rw [e1] at hix
        rw [tok_t] at hsn
        have hq := quoteL_len b
        have ha0 : ∀ W : World, (Op.stringOp .add (uS s) ⟨#[32]⟩).run Tryd.prog W = .ok (.string (uS (s ++ [32]))) W := add_uS s [32] (by simp; omega)
        have ha1 := add_uS (s ++ [32]) (quoteL b) (by simp; omega)
        rw [show s ++ [32] ++ quoteL b = sn by rw [hsn]; simp] at ha1
        have hcv := convA wr a b cap (HR.out.kept HWS.out.bel)
        have HQ := Lib.hid (rquote_any wr b (by omega))
        generalize s ++ [32] = l1 at *
        clear hsn hq
        generalize quoteL b = qb at *
        go_wp2_with (go_at_call 7; refine HQ.out.mono ?_; rintro e w4 ⟨rfl, hb4⟩; have HW4 := Lib.hid (HWS.out.kept hb4); clear hb4)
        go_roundw
        case rel => exact ⟨j + 1, by omega, HSN.out, HSP.out, by go_num, HW4.out⟩
        case measure => simp [intOf]; omega
      · have e1 : ((upC 110).toNat : Int) = 110 := by decide
        rw [e1] at hix
        rw [tok_n] at hsn
        have hq := dec_len9 (u := N + j) (by omega)
        have ha0 : ∀ W : World, (Op.stringOp .add (uS s) ⟨#[32]⟩).run Tryd.prog W = .ok (.string (uS (s ++ [32]))) W := add_uS s [32] (by simp; omega)
        have ha1 := add_uS (s ++ [32]) (Lib.decDigits (N + j)) (by simp; omega)
        rw [show s ++ [32] ++ Lib.decDigits (N + j) = sn by rw [hsn]; simp] at ha1
        have hdg := digits_any wr (N + j) (by omega)
        rw [Int.natCast_add] at hdg
        have HDG := Lib.hid hdg
        generalize s ++ [32] = l1 at *
        clear hsn hq hdg
        generalize Lib.decDigits (N + j) = dd at *
        go_wp2_with (go_at_call 8; refine HDG.out.mono ?_; rintro e w4 ⟨rfl, hw4⟩; subst hw4)
        go_roundw
        case rel => exact ⟨j + 1, by omega, HSN.out, HSP.out, by go_num, HWS.out⟩
        case measure => simp [intOf]; omega
      · have e1 : ((upC 113).toNat : Int) = 81 := by decide
        rw [e1] at hix
        rw [tok_q] at hsn
        have ha0 : ∀ W : World, (Op.stringOp .add (uS s) ⟨#[32, 33, 34, 113, 34]⟩).run Tryd.prog W = .ok (.string (uS sn)) W := by
          have := add_uS s [32, 33, 34, 113, 34] (by simp; omega)
          rw [show s ++ [32, 33, 34, 113, 34] = sn from hsn.symm] at this
          exact this
        clear hsn
        go_wp2
        go_roundw
        case rel => exact ⟨j + 1, by omega, HSN.out, HSP.out, by go_num, HWS.out⟩
        case measure => simp [intOf]; omega
    · obtain rfl : j = L := by omega
      have hd : decide ((j : Int) < (j : Int)) = false := by simp
      have hK1 : 1 ≤ I + 1 := by omega
      have hK17 : I + 1 ≤ 17 := by omega
      have hN16 : N ≤ 16777216 := by omega
      have hst := stK_is b N (I + 1) hK1 hK17 hb60 hN16
      have hpl := parse_all b N (I + 1) hK1 hK17 hb60 hN16
      have hll := line_all b N (I + 1) hK1 hK17
      have htl := text_all b N (I + 1) hK1 hK17 hb60 hN16
      have hbd := HBAD.out
      have hlt := fun hne => last_none b N (I + 1) hK1 hK17 hb60 hN16 hne
      have hje : j = 0 → sJ b N (I + 1) (j - 1) = sJ b N (I + 1) j := fun h => by rw [h]
      have hjn : j ≠ 0 → needsOf (I + 1) ≠ [] := fun h e => h (by rw [HLL.out, e]; rfl)
      have hsa := sJ_all b N (I + 1)
      have hsl := HSL.out j
      have hsl2 := HSL.out (j - 1)
      have hwl : (wordK (I + 1)).length ≤ 6 := word_len (I + 1) hK17
      have htn := tail_len b N hb60 hN16 (needsOf (I + 1)) 0 (by have := (need_ok (I + 1) hK17).2; omega)
      have hn4 := (need_ok (I + 1) hK17).2
      unfold badL at hbd
      rw [← HLL.out] at hpl hll hbd hlt hsa
      obtain ⟨sF, hsF⟩ : ∃ sF, sF = sJ b N (I + 1) j := ⟨_, rfl⟩
      obtain ⟨sL, hsL⟩ : ∃ sL, sL = sJ b N (I + 1) (j - 1) := ⟨_, rfl⟩
      rw [← hsF] at hpl hll hbd hlt hsa hsl hje ⊢
      rw [← hsL] at hlt hsl2 hje ⊢
      obtain ⟨wd, hwd⟩ : ∃ wd, wd = wordK (I + 1) := ⟨_, rfl⟩
      rw [← hwd] at hbd hsa hwl d7
      have HWDN : Hid (wordK (I + 1) = wd) := hwd.symm
      generalize tailL b N (needsOf (I + 1)) 0 = tl at *
      generalize stK b N (I + 1) = st at *
      have HLE : Hid (sL = sF ∨ (sL ≠ sF ∧ parseL sL = none)) := by
        by_cases h : j = 0
        · exact .inl (hje h)
        · have := hlt (hjn h); exact .inr ⟨this.2, this.1⟩
      have hkd : (st.kind : Int) = (I : Int) + 1 := by rw [hst.1]; omega
      have hI1 : ((I + 1 : Nat) : Int) = (I : Int) + 1 := by omega
      have HP1 := Lib.hid hpl
      have HT1 : Hid (TextR ((I : Int) + 1) st.n st.m st.k st.text st.q) := by rw [← hI1]; exact htl
      have HL1 : Hid (lineL ((I : Int) + 1).toNat st.n st.m st.k st.text (qtextL st.q) = sF) := by
        show _ = _
        rw [← hI1, Int.toNat_natCast]; exact hll
      have HSA := Lib.hid hsa
      have HBD := Lib.hid hbd
      have HST := Lib.hid hst
      have hstl := hst.2.1
      have HPF := Lib.hid (HPA.out wr HWS.out.bel sF (by omega))
      clear hst hpl hll htl hbd hlt hje hjn hsa HBAD hsF hsL hwd hI1 hI hN HLL HSL HND HW0 hb60
      go_wp2_with (go_at_call 9; refine Hid.out ?_)
      refine Lib.hid ?_
      refine HPF.out.mono ?_
      rintro e w4 ⟨hb4, (⟨h, -⟩ | ⟨st', v, q1, q2, q3, h, rfl, ⟨av, rfl, hav, -⟩, hqv⟩)⟩
      · rw [HP1.out] at h; cases h
      rw [HP1.out] at h
      obtain rfl := Option.some.inj h
      obtain ⟨y1, y2, y3, y4, y5, y6, rfl, rfl, rfl⟩ := hqv.form
      unfold cmdV cmdA
      rw [hkd]
      have hqv' : QAt w4 _ st.q _ _ _ := hqv
      have HQV := Lib.hid hqv
      clear hqv hqv' h hkd
      have HW4 := Lib.hid (HWS.out.kept hb4)
      have hb5 : Below w4.heap.size w4 (w4.alloc (.cells #[.int .i64 ((I : Int) + 1), .slice av st.text.length st.text.length, .int .i64 (st.n : Int), .int .i64 (st.m : Int), .int .i64 (st.k : Int), .int .i64 st.q.k, .slice y1 y2 y3, .slice y4 y5 y6] 31)) := (Below.refl _ _).alloc (Nat.le_refl _) _
      have hB5 : (w4.alloc (.cells #[.int .i64 ((I : Int) + 1), .slice av st.text.length st.text.length, .int .i64 (st.n : Int), .int .i64 (st.m : Int), .int .i64 (st.k : Int), .int .i64 st.q.k, .slice y1 y2 y3, .slice y4 y5 y6] 31)).heap[w4.heap.size]? = some (.cells #[.int .i64 ((I : Int) + 1), .slice av st.text.length st.text.length, .int .i64 (st.n : Int), .int .i64 (st.m : Int), .int .i64 (st.k : Int), .int .i64 st.q.k, .slice y1 y2 y3, .slice y4 y5 y6] 31 (0, 0)) := World.alloc_heap_new _ _
      have HB5 := Lib.hid hB5
      have HW5 := Lib.hid (HW4.out.kept hb5)
      have HTX := Lib.hid (text_any (w4.alloc (.cells #[.int .i64 ((I : Int) + 1), .slice av st.text.length st.text.length, .int .i64 (st.n : Int), .int .i64 (st.m : Int), .int .i64 (st.k : Int), .int .i64 st.q.k, .slice y1 y2 y3, .slice y4 y5 y6] 31)) (HE.out.kept HW5.out.bel) ((I : Int) + 1) st.n st.m st.k ⟨by have := HST.out; omega, by have := HST.out; omega⟩ ⟨by have := HST.out; omega, by have := HST.out; omega⟩ ⟨by have := HST.out; omega, by have := HST.out; omega⟩ ⟨by omega, by omega⟩ av st.text.length st.text (by omega) (hav.kept hb5) _ st.q _ _ _ (HQV.out.kept hb5))
      unfold cmdI at HTX
      clear hb4 hb5 hB5 hav hstl
      go_wp2_with (go_at_call 10; refine Hid.out ?_)
      refine Lib.hid ?_
      refine HTX.out.mono ?_
      rintro e w6 ⟨hb6, (⟨h, -⟩ | ⟨-, rfl⟩)⟩
      · exact absurd HT1.out h
      rw [HL1.out]
      have HW6 := Lib.hid (HW5.out.kept hb6)
      have z0 : w6.cell? ⟨w4.heap.size, 0, none⟩ = some (.int .i64 ((I : Int) + 1)) := cell_of_row _ _ 0 _ _ _ ((hb6.block _ (Array.getElem?_eq_some_iff.1 HB5.out).1).trans HB5.out)
      have hq := uS_eq sF sF
      have hq2 : decide (sF = sF) = true := decide_eq_true rfl
      have d7' := HW6.out.name I hI17
      rw [HWDN.out] at d7'
      have hws : (uS wd).size = wd.length := uS_size wd
      have a1 : ∀ W : World, (Op.stringOp .add (uS sF) ⟨#[32]⟩).run Tryd.prog W = .ok (.string (uS (sF ++ [32]))) W := add_uS sF [32] (by simp; omega)
      have a2 : ∀ W : World, (Op.stringOp .add ⟨#[32]⟩ (uS sF)).run Tryd.prog W = .ok (.string (uS (32 :: sF))) W := add_uS [32] sF (by simp; omega)
      have a3 : ∀ W : World, (Op.stringOp .add (uS sF) ⟨#[32, 49]⟩).run Tryd.prog W = .ok (.string (uS (sF ++ [32, 49]))) W := add_uS sF [32, 49] (by simp; omega)
      have a4 : ∀ W : World, (Op.stringOp .add (uS sF) ⟨#[120]⟩).run Tryd.prog W = .ok (.string (uS (sF ++ [120]))) W := add_uS sF [120] (by simp; omega)
      have a5 : ∀ W : World, (Op.stringOp .add (uS wd) ⟨#[32]⟩).run Tryd.prog W = .ok (.string (uS (wd ++ [32]))) W := add_uS wd [32] (by simp; omega)
      have a6 := add_uS (wd ++ [32]) tl (by simp; omega)
      rw [show wd ++ [32] ++ tl = wd ++ 32 :: tl by simp] at a6
      have a7 := cut_fromU sF wd.length (by rw [HSA.out]; simp)
      rw [show sF.drop wd.length = tl by rw [HSA.out]; exact List.drop_left' rfl] at a7
      clear hb6 d7 hsl hwl htn hn4
      generalize sF ++ [32, 49] = l3 at *
      generalize sF ++ [120] = l4 at *
      generalize 32 :: sF = l2 at *
      generalize wd ++ 32 :: tl = l5 at *
      generalize wd ++ [32] = wl at *
      generalize sF ++ [32] = l1 at *
      generalize wd.length = wn at *
      go_upto_region 23 with fail
      go_region
      have HW7 : Hid (WSt w ((w6.alloc (.cells #[.string (uS l1), .string (uS l2), .string (uS l3), .string (uS l4), .string (uS l5)] 9)).drew)) := HW6.out.kept (((Below.refl _ _).alloc (Nat.le_refl _) _).drew)
      have HR7 : Hid (Row ((w6.alloc (.cells #[.string (uS l1), .string (uS l2), .string (uS l3), .string (uS l4), .string (uS l5)] 9)).drew) (some ⟨w6.heap.size, 0, none⟩) 5 (fun k => .string (uS (([l1, l2, l3, l4, l5] : List (List UInt8)).getD k [])))) := by
        refine ⟨.inr rfl, fun k hk => ?_⟩
        have hh := World.alloc_heap_new w6 (.cells #[.string (uS l1), .string (uS l2), .string (uS l3), .string (uS l4), .string (uS l5)] 9)
        show (w6.alloc _).cell? ⟨w6.heap.size, 0 + k, none⟩ = _
        rw [Nat.zero_add, cell_of_row _ _ k _ _ _ hh]
        match k, hk with
        | 0, _ => rfl
        | 1, _ => rfl
        | 2, _ => rfl
        | 3, _ => rfl
        | 4, _ => rfl
      generalize ((w6.alloc (.cells #[.string (uS l1), .string (uS l2), .string (uS l3), .string (uS l4), .string (uS l5)] 9)).drew) = w7 at *
      have HPX : Hid (∀ W, Below w.heap.size w W → ∀ k, k < 5 → Calls Tryd.prog 9 #[.string (uS (([l1, l2, l3, l4, l5] : List (List UInt8)).getD k []))] W fun e w' => e = .returned (.tuple #[.agg zeroC, .int .i64 3]) ∧ Below W.heap.size W w') := fun W hW k hk => by
        have hm : ([l1, l2, l3, l4, l5] : List (List UInt8)).getD k [] ∈ [l1, l2, l3, l4, l5] := by
          rw [List.getD_eq_getElem?_getD, List.getElem?_eq_getElem (show k < ([l1, l2, l3, l4, l5] : List (List UInt8)).length from hk)]
          exact List.getElem_mem _
        have h := HBD.out _ hm
        exact HPB.out W hW _ h.1 (by omega)
      have hix5 : ∀ (W : World) (k : Nat), k < 5 → (Instr.indexAt 24 (.slice (some ⟨w6.heap.size, 0, none⟩) 5 5) (.int .i64 (k : Int))).run Tryd.prog W = .ok (.pointer (some ⟨w6.heap.size, k, none⟩)) W := fun W k hk => by
        have := run_ix (P := Tryd.prog) 24 (by kernel_rfl) size_strc (some ⟨w6.heap.size, 0, none⟩) 5 5 (.inr rfl) .i64 W k hk
        simpa [bOf, oOf] using this
      generalize ([l1, l2, l3, l4, l5] : List (List UInt8)) = xs at *
      clear a1 a2 a3 a4 a5 a6 a7 z0 d7' HB5 HTX HQV HP1 HT1 HL1 HBD
      go_wp2
      go_loopw [127] (fun v127 wr => ∃ q : Nat, q ≤ 5 ∧ v127 = .int .i64 (q : Int) ∧ Row wr (some ⟨w6.heap.size, 0, none⟩) 5 (fun k => .string (uS (xs.getD k []))) ∧ WSt w wr) (fun v127 _ => 5 - (intOf v127).toNat)
      case atStart => exact ⟨0, by omega, rfl, HR7.out, HW7.out⟩
      case round =>
        obtain ⟨q, hq5, rfl, hrow, hws5⟩ := hrel
        have HRW := Lib.hid hrow
        have HWX := Lib.hid hws5
        clear hrow hws5
        by_cases hlq : q < 5
        · have d1 : wr.cell? ⟨w6.heap.size, q, none⟩ = some (.string (uS (xs.getD q []))) := by have := HRW.out.cell q hlq; simpa [bOf, oOf] using this
          have hki : (q : Int) < 5 := by omega
          have HPR := Lib.hid (HPX.out wr HWX.out.bel q hlq)
          unfold zeroC at HPR
          generalize xs.getD q [] = lk at *
          have hxk := fun W => hix5 W q hlq
          clear hix5
          go_wp2_with (go_at_call 9; refine HPR.out.mono ?_; rintro e w8 ⟨rfl, hb8⟩; have HB8 := Lib.hid hb8; clear hb8)
          go_roundw
          case rel => exact ⟨q + 1, by omega, by go_num, (HRW.out.kept HB8.out).kept ((Below.refl _ _).alloc (Nat.le_refl _) _), (HWX.out.kept HB8.out).kept ((Below.refl _ _).alloc (Nat.le_refl _) _)⟩
          case measure => simp [intOf]; omega
        · obtain rfl : q = 5 := by omega
          have hqe := uS_eq sL sF
          have HA8 := Lib.hid (HAW.out wr HWX.out.bel)
          rcases HLE.out with he | ⟨hne, hpn⟩
          · rw [decide_eq_true he] at hqe
            clear he
            go_wp2_with (go_at_call 6; refine HA8.out.mono ?_; rintro e w9 ⟨rfl, hb9⟩; have HB9 := Lib.hid hb9; clear hb9)
            go_ret
            exact ⟨rfl, below_next HWX.out.bel HB9.out HWX.out.bel.size⟩
          · rw [decide_eq_false hne] at hqe
            have HPL := Lib.hid (HPB.out wr HWX.out.bel sL hpn (by omega))
            unfold zeroC at HPL
            clear hne hpn HA8
            go_wp2_with (go_at_call 9; refine Hid.out ?_)
            refine Lib.hid ?_
            refine HPL.out.mono ?_
            rintro e w8 ⟨rfl, hb8⟩
            have HB8 := Lib.hid (below_next HWX.out.bel hb8 HWX.out.bel.size)
            clear hb8
            go_wp2_with (go_at_call 6; refine (HAW.out _ (HB8.out.alloc HB8.out.size _)).mono ?_; rintro e w9 ⟨rfl, hb9⟩; have HB9 := Lib.hid hb9; clear hb9)
            go_ret
            exact ⟨rfl, below_next (HB8.out.alloc HB8.out.size _) HB9.out (HB8.out.alloc HB8.out.size _).size⟩
end Go.Proofs.YtdcobmoeligdkaaDoor
