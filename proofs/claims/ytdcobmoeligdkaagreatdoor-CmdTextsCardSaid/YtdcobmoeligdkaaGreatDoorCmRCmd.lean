/-
  concordanceref23.Command: the command of any line, as the document reads it.
-/
import Derived.Test.YtdcobmoeligdkaaGreatDoorCmTake
import Derived.Test.YtdcobmoeligdkaaGreatDoorCmRows
import Derived.Test.YtdcobmoeligdkaaGreatDoorCmParse
import Derived.Shelf.SlicesE.DeleteFunc
import Derived.StillTailTactics
namespace Go.Proofs.YtdcobmoeligdkaaGreatDoor
open Go.RowKit Go.Shelf

theorem wordOf_eq (s : List UInt8) : wordOf s = s.take (blank s) := by
  obtain ⟨h1, h2, h3⟩ := blank_le s
  have e : s = s.take (blank s) ++ s.drop (blank s) := (List.take_append_drop _ _).symm
  rcases h2 with h | ⟨t, h⟩
  · rw [h, List.append_nil] at e
    conv => lhs; rw [e]
    exact wordOf_all _ h3
  · rw [h] at e
    conv => lhs; rw [e]
    exact wordOf_blank _ _ h3
theorem kindI_none {w : List UInt8} (h : ∀ i, i < 17 → wordK (i + 1) ≠ w) : kindI w = 0 := by
  unfold kindI
  rcases idxByFrom_spec (fun _ y => wordP w y) (default : List UInt8 × List UInt8) ((shL.drop 1).take 17) 0 with ⟨h1, _⟩ | ⟨k, h1, h2, h3, _⟩
  · have : Lib.idxBy (fun _ y => wordP w y) ((shL.drop 1).take 17) (default : List UInt8 × List UInt8) = -1 := h1
    rw [this]; rfl
  · exfalso
    have hk : k < 17 := h1
    refine h k hk ?_
    have h4 : wordP w ((shL.drop 1).take 17)[k]! = true := h3
    unfold wordP at h4
    have h5 := of_decide_eq_true h4
    rw [← h5]
    have : ∀ K : Fin 17, wordK (K.1 + 1) = (((shL.drop 1).take 17)[K.1]!).1 := by decide
    exact this ⟨k, hk⟩
theorem results_rcmd {tmps : Array Value} {W : World} {rB : Nat} {cs : Array Value} (hr : W.heap[rB]? = some (.cells cs 27 (0, 0))) (hsz : cs.size = 8)
    (hp : tmps.getD 2 undef = .pointer (some ⟨rB, 0, none⟩)) : (results Tryz.f18 tmps).run Tryz.prog W = .ok (.tuple #[.agg cs, tmps.getD 3 undef]) W := by
  rw [results_q2 (p := 2) (u := 3) (ty := 27) (by kernel_rfl), hp]
  have h1 : (loadVar 27 ⟨rB, 0, none⟩).run Tryz.prog W = .ok (.agg cs) W := run_loadVar_row W rB _ _ cs _ _ hr Tryz.underlying27 rfl (by rw [hsz]; kernel_rfl)
  simp only [asAddr, Sem.run_pure, Result.andThen_ok, h1]
set_option maxRecDepth 100000 in
set_option maxHeartbeats 1000000 in
theorem rows_any (w : World) : Calls Tryz.prog 35 #[] w fun e w' => e = .returned (.tuple #[.slice (some ⟨w.heap.size, 0, none⟩) 17 17, .slice (some ⟨w.heap.size + 1, 0, none⟩) 17 17]) ∧ w' = (w.alloc (.cells nmA 9)).alloc (.cells fmA 9) := by
  rw [nmA_is, fmA_is]
  go_enter Tryz.func35, Tryz.ntmps35
  go_wp2
  go_ret2
  exact ⟨by simp, rfl⟩
/-- what the document's Command answers -/
def RCmdP (w : World) (s : List UInt8) (e : Ending) (w' : World) : Prop :=
  Below w.heap.size w w' ∧ ((parseR s = none ∧ e = .returned (.tuple #[.agg zeroC, .int .i64 (if 9000 < s.length then 2 else 3)])) ∨
    ∃ st v q1 q2 q3, parseR s = some st ∧ e = .returned (.tuple #[cmdV st v q1 q2 q3, .int .i64 0]) ∧ TxtOk w.heap.size w' v st.text ∧ QAt w' (fun b => w.heap.size ≤ b) st.q q1 q2 q3)
/-- the result's cells, the rows -/
structure CSt (w : World) (wr : World) : Prop where
  r : wr.heap[w.heap.size]? = some (.cells zeroC 27 (0, 0))
  nm : wr.heap[w.heap.size + 1]? = some (.cells nmA 9 (0, 0))
  fm : wr.heap[w.heap.size + 2]? = some (.cells fmA 9 (0, 0))
  bel : Below w.heap.size w wr
theorem CSt.kept {w wr W : World} (h : CSt w wr) (hb : Below wr.heap.size wr W) : CSt w W :=
  ⟨(hb.block _ (Array.getElem?_eq_some_iff.1 h.r).1).trans h.r, (hb.block _ (Array.getElem?_eq_some_iff.1 h.nm).1).trans h.nm, (hb.block _ (Array.getElem?_eq_some_iff.1 h.fm).1).trans h.fm, below_next h.bel hb h.bel.size⟩
theorem CSt.step {w wr W : World} {CB : Nat} (h : CSt w wr) (hb : StepX (fun b => b = CB) wr W) (hc : w.heap.size + 3 ≤ CB) : CSt w W :=
  ⟨(hb.block _ (Array.getElem?_eq_some_iff.1 h.r).1 (by omega)).trans h.r, (hb.block _ (Array.getElem?_eq_some_iff.1 h.nm).1 (by omega)).trans h.nm, (hb.block _ (Array.getElem?_eq_some_iff.1 h.fm).1 (by omega)).trans h.fm, h.bel.trans (hb.below h.bel.size (fun b hb => by have : b = CB := hb; omega))⟩
theorem CSt.name {w wr : World} (h : CSt w wr) (i : Nat) (hi : i < 17) : wr.cell? ⟨w.heap.size + 1, i, none⟩ = some (.string (uS (wordK (i + 1)))) := (cell_of_row _ _ _ _ _ _ h.nm).trans (nmA_at i hi)
theorem CSt.form {w wr : World} (h : CSt w wr) (i : Nat) (hi : i < 17) : wr.cell? ⟨w.heap.size + 2, i, none⟩ = some (.string (uS (formK (i + 1)))) := (cell_of_row _ _ _ _ _ _ h.fm).trans (fmA_at i hi)
/-- the command so far -/
structure PSt (w : World) (CB : Nat) (st : PCmd) (v q1 q2 q3 : Value) (wr : World) : Prop where
  c : CmdAt wr CB st v q1 q2 q3
  t : TxtOk (CB + 1) wr v st.text
  q : QAt wr (fun b => CB + 1 ≤ b) st.q q1 q2 q3
  s : CSt w wr
  b : w.heap.size + 3 ≤ CB
theorem PSt.kept {w wr W : World} {CB : Nat} {st : PCmd} {v q1 q2 q3 : Value} (h : PSt w CB st v q1 q2 q3 wr) (hb : Below wr.heap.size wr W) : PSt w CB st v q1 q2 q3 W := by
  refine ⟨h.c.kept hb, ?_, h.q.kept hb, h.s.kept hb, h.b⟩
  obtain ⟨a, c, h1, h2, h3⟩ := h.t
  exact ⟨a, c, h1, h2.kept hb, h3⟩
theorem PSt.take {w wr W : World} {CB : Nat} {st st' : PCmd} {v q1 q2 q3 v' q1' q2' q3' : Value} (h : PSt w CB st v q1 q2 q3 wr) (hst : StepX (fun b => b = CB) wr W) (hc : CmdAt W CB st' v' q1' q2' q3')
    (ht : (v' = v ∧ st'.text = st.text) ∨ TxtOk wr.heap.size W v' st'.text) (hq : (q1' = q1 ∧ q2' = q2 ∧ q3' = q3 ∧ st'.q = st.q) ∨ QAt W (fun b => wr.heap.size ≤ b) st'.q q1' q2' q3') : PSt w CB st' v' q1' q2' q3' W := by
  have hlt := h.c.lt
  refine ⟨hc, ?_, ?_, h.s.step hst h.b, h.b⟩
  · rcases ht with ⟨rfl, e⟩ | ⟨a, c, h1, h2, h3⟩
    · obtain ⟨a, c, h1, h2, h3⟩ := h.t
      rw [e]
      exact ⟨a, c, h1, row_stepX h2 hst (h3.imp id (fun h => by show ¬ bOf a = CB; omega)), h3⟩
    · exact ⟨a, c, h1, h2, h3.imp id (fun h => by omega)⟩
  · rcases hq with ⟨rfl, rfl, rfl, e⟩ | hq
    · rw [e]
      exact h.q.move (fun b hb hg => hst.block b hb (by show ¬ b = CB; omega)) (fun b _ hg => hg)
    · exact hq.mono (fun b _ hg => by have := hg; omega)
theorem stepT_cnt0 (c : UInt8) (hc : c = 116 ∨ c = 113) (st st' : PCmd) (r : List UInt8) (n : Nat) (h : stepT c st r = some (st', n)) : st'.cnt = st.cnt + 0 := by
  unfold stepT at h
  split at h
  · split at h
    · split at h
      · cases h; rfl
      · cases h
    · cases h
  · split at h
    · obtain ⟨q, _, he⟩ := Option.map_eq_some_iff.1 h
      cases he; rfl
    · rename_i h1 h2
      exfalso
      rcases hc with rfl | rfl
      · exact h1 (by decide)
      · exact h2 (by decide)
theorem stepT_cnt1 (st st' : PCmd) (r : List UInt8) (n : Nat) (h : stepT 110 st r = some (st', n)) : st'.cnt = st.cnt + 1 := by
  unfold stepT at h
  rw [if_neg (by decide), if_neg (by decide)] at h
  split at h
  · cases h
  · cases h; rfl
theorem needs_tnq (K : Nat) (h : K ≤ 17) : ∀ x ∈ needsOf K, x = 116 ∨ x = 110 ∨ x = 113 := by
  have : ∀ K : Fin 18, ∀ x ∈ needsOf K.1, x = 116 ∨ x = 110 ∨ x = 113 := by decide
  exact this ⟨K, by omega⟩
set_option maxRecDepth 100000 in
set_option maxHeartbeats 4000000 in
theorem rcommand_any (w : World) (s : List UInt8) (hs : s.length ≤ 100000) : Calls Tryz.prog 18 #[.string (uS s)] w (RCmdP w s) := by
  have hsz := uS_size s
  have hr0 := World.alloc_heap_new w (.cells zeroC 27)
  have hb0 : Below w.heap.size w (w.alloc (.cells zeroC 27)) := (Below.refl _ _).alloc (Nat.le_refl _) _
  have hs0 := World.size_alloc w (.cells zeroC 27)
  by_cases hlong : 9000 < s.length
  · have HE : Hid (∀ W, Below w.heap.size w W → RCmdP w s (.returned (.tuple #[.agg zeroC, .int .i64 2])) W) := fun W hb => ⟨hb, .inl ⟨by unfold parseR; rw [if_pos hlong], by rw [if_pos hlong]⟩⟩
    have hd : decide ((9000 : Int) < ((s.length : Nat) : Int)) = true := decide_eq_true (by omega)
    have HR0 := Lib.hid hr0
    have HB0 := Lib.hid hb0
    clear hr0 hb0 hs0 hlong
    go_enter Tryz.func18, Tryz.ntmps18
    go_upto_region 2 with fail
    have ez : (w.alloc (.cells #[.int .i64 0, .slice none 0 0, .int .i64 0, .int .i64 0, .int .i64 0, .int .i64 0, .slice none 0 0, .slice none 0 0] 27)) = (w.alloc (.cells zeroC 27)) := rfl
    rw [ez]
    clear ez
    generalize (w.alloc (.cells zeroC 27)) = w0 at *
    go_wp2_with (refine wpList_store_rowTo rfl 27 _ _ rfl rfl w.heap.size zeroC (by as_aux_lemma => kernel_rfl) (by as_aux_lemma => kernel_rfl) 27 zeroC HR0.out (by as_aux_lemma => kernel_rfl) rfl (by as_aux_lemma => kernel_rfl) ?_)
    refine bodyPost_ret (results_rcmd (setRow_heap _ _ _ _ _ _ HR0.out) rfl rfl) rfl ?_
    exact HE.out _ (below_setRowS HB0.out (Nat.le_refl _) _)
  have hd9 : decide ((9000 : Int) < ((s.length : Nat) : Int)) = false := decide_eq_false (by omega)
  have HP3 : Hid (∀ W, parseR s = none → Below w.heap.size w W → RCmdP w s (.returned (.tuple #[.agg zeroC, .int .i64 3])) W) := fun W hn hb => ⟨hb, .inl ⟨hn, by rw [if_neg hlong]⟩⟩
  have HPE : Hid (parseR s = parseL s) := by show _ = _; unfold parseR; rw [if_neg hlong]
  obtain ⟨K0, hK0⟩ : ∃ K0, K0 = blank s := ⟨_, rfl⟩
  have HBL := Lib.hid (blank_le s)
  have HWD := Lib.hid (wordOf_eq s)
  rw [← hK0] at HBL HWD
  have HK0 := Lib.hid hK0
  have hKs : K0 ≤ s.length := HBL.out.1
  have HR0 := Lib.hid hr0
  have HB0 := Lib.hid hb0
  clear hK0 hlong hr0 hb0
  go_enter Tryz.func18, Tryz.ntmps18
  go_upto_region 3 with fail
  have ez : (w.alloc (.cells #[.int .i64 0, .slice none 0 0, .int .i64 0, .int .i64 0, .int .i64 0, .int .i64 0, .slice none 0 0, .slice none 0 0] 27)) = (w.alloc (.cells zeroC 27)) := rfl
  rw [ez]
  clear ez
  generalize (w.alloc (.cells zeroC 27)) = w0 at *
  go_wp2
  go_loopw [4] (fun v4 wr => ∃ k : Nat, k ≤ K0 ∧ v4 = .int .i64 (k : Int) ∧ wr = w0) (fun v4 _ => K0 - (intOf v4).toNat)
  case atStart => exact ⟨0, Nat.zero_le _, rfl, rfl⟩
  case round =>
    obtain ⟨k, hk, rfl, rfl⟩ := hrel
    by_cases hlt : k < K0
    · obtain ⟨ch, hch⟩ : ∃ ch, s[k]? = some ch := ⟨s[k], List.getElem?_eq_getElem (by omega)⟩
      have hix := ixS s k ch hch k rfl
      have hne : ((ch.toNat : Int) != 32) = true := by
        rw [bne_iff_ne]
        intro e
        refine HBL.out.2.2 ch ?_ (UInt8.toNat_inj.1 (by show ch.toNat = 32; omega))
        rw [List.mem_take_iff_getElem]
        obtain ⟨hi, he⟩ := List.getElem?_eq_some_iff.1 hch
        exact ⟨k, by omega, he⟩
      clear hch
      generalize ch.toNat = cn at *
      go_wp2
      go_roundw
      case rel => exact ⟨k + 1, by omega, by go_num, trivial⟩
      case measure => simp only [intOf]; omega
    · obtain rfl : k = K0 := by omega
      have hrw := rows_any wr
      rw [hs0] at hrw
      have HRW := Lib.hid hrw
      clear hrw
      have hixN : ∀ (bb : Nat) (W : World) (k : Nat), k < 17 → (Instr.indexAt 44 (.slice (some ⟨bb, 0, none⟩) 17 17) (.int .i64 (k : Int))).run Tryz.prog W = .ok (.pointer (some ⟨bb, k, none⟩)) W := fun bb W k hk => by
        have := run_ix (P := Tryz.prog) 44 (by kernel_rfl) (fun w => by kernel_rfl) (some ⟨bb, 0, none⟩) 17 17 (.inr rfl) .i64 W k hk
        simpa [bOf, oOf] using this
      have hcut := cut_toU s k hKs
      have HTE : Hid (s.drop k = [] ∨ ∃ t, s.drop k = 32 :: t) := HBL.out.2.1
      have hstop : (¬ k < s.length) ∨ (k < s.length ∧ ∃ ch : UInt8, s[k]? = some ch ∧ (ch.toNat : Int) = 32) := by
        rcases Nat.lt_or_ge k s.length with h | h
        · refine .inr ⟨h, s[k], List.getElem?_eq_getElem h, ?_⟩
          rcases HBL.out.2.1 with e | ⟨t, e⟩
          · have := congrArg List.length e; rw [List.length_drop] at this; simp at this; omega
          · have := congrArg (fun l : List UInt8 => l[0]?) e
            simp only [List.getElem?_drop, Nat.add_zero, List.getElem?_eq_getElem h] at this
            rw [Option.some.inj this]; rfl
        · exact .inl (by omega)
      rcases hstop with hA | ⟨hA, ch, hch, hcn⟩
      · have hA' : ¬ (k : Int) < (s.length : Int) := by omega
        go_wp2_with (go_at_call 35; refine Hid.out ?_)
        refine Lib.hid ?_
        refine HRW.out.mono ?_
        rintro e w1 ⟨rfl, hw1⟩
        have HCS0 : Hid (CSt w w1) := by
          rw [hw1]
          refine ⟨(Below.heap_alloc _ _ _ (by rw [World.size_alloc]; omega)).trans ((Below.heap_alloc _ _ _ (by omega)).trans HR0.out), ?_, ?_, (HB0.out.alloc (by omega) _).alloc (by simp; omega) _⟩
          · have := World.alloc_heap_new wr (.cells nmA 9)
            rw [hs0] at this
            exact (Below.heap_alloc _ _ _ (by rw [World.size_alloc]; omega)).trans this
          · have := World.alloc_heap_new (wr.alloc (.cells nmA 9)) (.cells fmA 9)
            rw [World.size_alloc, hs0] at this
            exact this
        clear hw1 HRW HR0 HB0
        go_wp2
        go_loopw [7] (fun v7 wr => ∃ i : Nat, i ≤ 17 ∧ v7 = .int .i64 (i : Int) ∧ CSt w wr ∧ Hid (∀ i', i' < i → wordK (i' + 1) ≠ s.take k)) (fun v7 _ => 17 - (intOf v7).toNat)
        case atStart => exact ⟨0, Nat.zero_le _, rfl, HCS0.out, fun i' h => absurd h (Nat.not_lt_zero i')⟩
        case round =>
          clear HCS0 hs0
          obtain ⟨i, hi, rfl, hcs, HNE⟩ := hrel
          have HCS := Lib.hid hcs
          clear hcs
          by_cases hi17 : i < 17
          · have hx5 := fun W => hixN (w.heap.size + 1) W i hi17
            have d5 := HCS.out.name i hi17
            have hcmp := uS_eq (wordK (i + 1)) (s.take k)
            have hii : (i : Int) < 17 := by omega
            by_cases hw : wordK (i + 1) = s.take k
            · rw [decide_eq_true hw] at hcmp
              have HPR : Hid (parseR s = runS (needsOf (i + 1)) (s.drop k) (st0 (i + 1))) := by
                show _ = _
                rw [HPE.out]
                have e : s = wordK (i + 1) ++ s.drop k := by rw [hw]; exact (List.take_append_drop _ _).symm
                conv => lhs; rw [e]
                exact parse_word (i + 1) (by omega) (by omega) _ HTE.out
              clear hw HNE HWD
              go_wp2
              go_quiet (fail)
              obtain ⟨w5, hw5⟩ : ∃ w5, wr.drewN nq = w5 := ⟨_, rfl⟩
              have HCS5 : Hid (CSt w w5) := by rw [← hw5]; exact HCS.out.kept (below_drewN (Below.refl _ _) _)
              rw [hw5]
              clear hw5 d5 hx5 hcmp HCS
              have hb6 : Below w5.heap.size w5 (w5.alloc (.cells #[.int .i64 ((i : Int) + 1), .slice none 0 0, .int .i64 0, .int .i64 0, .int .i64 0, .int .i64 0, .slice none 0 0, .slice none 0 0] 27)) := (Below.refl _ _).alloc (Nat.le_refl _) _
              have HPS0 : Hid (PSt w w5.heap.size (st0 (i + 1)) (.slice none 0 0) (.int .i64 0) (.slice none 0 0) (.slice none 0 0) (w5.alloc (.cells #[.int .i64 ((i : Int) + 1), .slice none 0 0, .int .i64 0, .int .i64 0, .int .i64 0, .int .i64 0, .slice none 0 0, .slice none 0 0] 27))) := by
                refine ⟨?_, ⟨none, 0, rfl, Row.nil _ _ _, .inl rfl⟩, QAt.zero _ _, HCS5.out.kept hb6, ?_⟩
                · have := World.alloc_heap_new w5 (.cells #[.int .i64 ((i : Int) + 1), .slice none 0 0, .int .i64 0, .int .i64 0, .int .i64 0, .int .i64 0, .slice none 0 0, .slice none 0 0] 27)
                  exact this
                · have := (Array.getElem?_eq_some_iff.1 HCS5.out.fm).1; omega
              have d6 := HPS0.out.s.form i hi17
              have hx6 := fun W => hixN (w.heap.size + 2) W i hi17
              obtain ⟨L, hL⟩ : ∃ L, L = (needsOf (i + 1)).length := ⟨_, rfl⟩
              have hfs : (uS (formK (i + 1))).size = L := (uS_size _).trans ((List.length_map ..).trans hL.symm)
              have hL4 : L ≤ 4 := by rw [hL]; exact (need_ok (i + 1) (by omega)).2
              have HLL := Lib.hid hL
              have HC30 : Hid ((st0 (i + 1)).cnt + (needsOf (i + 1)).countP (fun x => x.toNat == 110) ≤ 3) := by
                show _ ≤ _
                have := needs_cnt (i + 1) (by omega)
                show 0 + _ ≤ _
                omega
              clear hb6 hL
              obtain ⟨CB, hCB⟩ : ∃ CB, CB = w5.heap.size := ⟨_, rfl⟩
              rw [← hCB] at HPS0
              go_wp2
              rw [← hCB]
              clear hCB d6 hx6
              generalize (w5.alloc (.cells #[.int .i64 ((i : Int) + 1), .slice none 0 0, .int .i64 0, .int .i64 0, .int .i64 0, .int .i64 0, .slice none 0 0, .slice none 0 0] 27)) = w6 at *
              go_loopw [10, 11, 12] (fun v10 v11 v12 wr => ∃ (j p : Nat) (st : PCmd) (v q1 q2 q3 : Value), j ≤ L ∧ v10 = .int .i64 (st.cnt : Int) ∧ v11 = .int .i64 (p : Int) ∧ v12 = .int .i64 (j : Int) ∧ p ≤ s.length ∧ PSt w CB st v q1 q2 q3 wr ∧ Hid (st.cnt + ((needsOf (i + 1)).drop j).countP (fun x => x.toNat == 110) ≤ 3) ∧ Hid (runS (needsOf (i + 1)) (s.drop k) (st0 (i + 1)) = runS ((needsOf (i + 1)).drop j) (s.drop p) st)) (fun _ _ v12 _ => L - (intOf v12).toNat)
              case atStart => exact ⟨0, k, st0 (i + 1), _, _, _, _, Nat.zero_le _, rfl, rfl, rfl, hKs, HPS0.out, HC30.out, rfl⟩
              case round =>
                clear HPS0 HC30 HCS5
                obtain ⟨j, p, st, v, q1, q2, q3, hj, rfl, rfl, rfl, hp, hps, HC3, HRUN0⟩ := hrel
                have HPS := Lib.hid hps
                have hcn3 : st.cnt ≤ 3 := by have := HC3.out; omega
                clear hps
                by_cases hjL : j < L
                · obtain ⟨c, hc⟩ : ∃ c, (needsOf (i + 1))[j]? = some c := ⟨(needsOf (i + 1))[j]'(by rw [← HLL.out]; exact hjL), List.getElem?_eq_getElem _⟩
                  have hcf : (formK (i + 1))[j]? = some (upC c) := by unfold formK; rw [List.getElem?_map, hc]; rfl
                  have hdr : (needsOf (i + 1)).drop j = c :: (needsOf (i + 1)).drop (j + 1) := by
                    rw [List.drop_eq_getElem_cons (by rw [← HLL.out]; exact hjL)]; congr 1
                    exact Option.some.inj ((List.getElem?_eq_getElem _).symm.trans hc)
                  have hcm := needs_tnq (i + 1) (by omega) c (List.mem_of_getElem? hc)
                  rw [hdr] at HC3 HRUN0
                  have HCR := Lib.hid HPS.out.s.r
                  by_cases hpl : p < s.length
                  · obtain ⟨y, hy⟩ : ∃ y, s[p]? = some y := ⟨s[p], List.getElem?_eq_getElem hpl⟩
                    have hiy := ixS s p y hy p rfl
                    have hds : s.drop p = y :: s.drop (p + 1) := by
                      rw [List.drop_eq_getElem_cons hpl]; congr 1
                      exact Option.some.inj ((List.getElem?_eq_getElem hpl).symm.trans hy)
                    rw [hds] at HRUN0
                    by_cases hy32 : y = 32
                    · have hyi : (y.toNat : Int) = 32 := by rw [hy32]; rfl
                      rw [hyi] at hiy
                      rw [hy32] at HRUN0
                      have hix := ixS (formK (i + 1)) j (upC c) hcf j rfl
                      have HRUN : Hid (runS (needsOf (i + 1)) (s.drop k) (st0 (i + 1)) = (stepT c st (s.drop (p + 1))).bind fun p' => runS ((needsOf (i + 1)).drop (j + 1)) ((s.drop (p + 1)).drop p'.2) p'.1) := by
                        show _ = _
                        rw [HRUN0.out, step_eq c _ st _ hcm]
                      have hcut : ∀ W : World, (Instr.slice 9 (.string (uS s)) (some (.int .i64 ((p : Int) + 1))) none none).run Tryz.prog W = .ok (.string (uS (s.drop (p + 1)))) W := fun W => by
                        have := cut_fromU s (p + 1) (by omega) W
                        rwa [show ((p + 1 : Nat) : Int) = (p : Int) + 1 by omega] at this
                      have hwp : IntKind.i64.wrap ((p : Int) + 1) = (p : Int) + 1 := IntWalk.i64_in _ (by omega)
                      have hpi : (p : Int) ≤ 100000 := by omega
                      have hrl2 : ((s.drop (p + 1)).length : Int) = (s.length : Int) - (p : Int) - 1 := by rw [List.length_drop]; omega
                      have HTK := Lib.hid (take_any wr.drew CB st v q1 q2 q3 (HPS.out.c.kept ((Below.refl _ wr).drew)) (s.drop (p + 1)) (by rw [List.length_drop]; omega) c hcm (fun e => by have := HC3.out; rw [e, List.countP_cons] at this; simp at this; omega))
                      clear hy hyi hy32 hds hdr hc hcf HRUN0
                      rcases hcm with rfl | rfl | rfl
                      · have e1 : ((upC 116).toNat : Int) = 84 := by decide
                        rw [e1] at hix HTK
                        clear e1
                        go_wp2_with fail
                        go_region_with (go_at_call 40; refine HTK.out.mono ?_; rintro e w4 ⟨x, ok, rfl, hst, hno, hxb, hyes⟩; have HST := Lib.hid hst; have HNO := Lib.hid hno; have HYES := Lib.hid hyes; clear hst hno hyes)
                        all_goals
                          rw [hrl2] at hxb
                          cases ok with
                          | false =>
                            have HN : Hid (parseR s = none) := by show _ = _; rw [HPR.out, HRUN.out, HNO.out rfl]; rfl
                            have HC4 := Lib.hid (HPS.out.s.kept ((Below.refl _ wr).drew) |>.step HST.out HPS.out.b)
                            clear HYES HNO hix hcut
                            go_wp2_with (refine wpList_store_rowTo rfl 27 _ _ rfl rfl w.heap.size zeroC (by as_aux_lemma => kernel_rfl) (by as_aux_lemma => kernel_rfl) 27 zeroC HC4.out.r (by as_aux_lemma => kernel_rfl) rfl (by as_aux_lemma => kernel_rfl) ?_)
                            refine bodyPost_ret (results_rcmd (setRow_heap _ _ _ _ _ _ HC4.out.r) rfl rfl) rfl ?_
                            exact HP3.out _ HN.out (below_setRowS HC4.out.bel (Nat.le_refl _) _)
                          | true =>
                            obtain ⟨st', n', v', q1', q2', q3', hst', rfl, hcm, htx, hqx⟩ := HYES.out rfl
                            have HPS5 := Lib.hid ((HPS.out.kept ((Below.refl _ wr).drew)).take HST.out hcm htx hqx)
                            have HCNT : Hid (st'.cnt = st.cnt + 0) := stepT_cnt0 116 (.inl rfl) _ _ _ _ hst'
                            have HC3' : Hid (st'.cnt + ((needsOf (i + 1)).drop (j + 1)).countP (fun x => x.toNat == 110) ≤ 3) := by
                              show _ ≤ _
                              rw [HCNT.out]
                              have := HC3.out
                              rw [List.countP_cons] at this
                              simp at this ⊢
                              omega
                            have HRUN2 : Hid (runS (needsOf (i + 1)) (s.drop k) (st0 (i + 1)) = runS ((needsOf (i + 1)).drop (j + 1)) (s.drop (p + 1 + n')) st') := by
                              show _ = _
                              rw [HRUN.out, hst']
                              show runS _ ((s.drop (p + 1)).drop n') st' = _
                              rw [List.drop_drop]
                            clear hst' hcm htx hqx HYES HNO
                            go_wp2
                            go_roundw
                            case rel => exact ⟨j + 1, p + 1 + n', st', v', q1', q2', q3', by omega, by rw [HCNT.out]; go_num, by go_num, by go_num, by omega, HPS5.out, HC3'.out, HRUN2.out⟩
                            case measure => simp only [intOf]; omega
                      · have e1 : ((upC 110).toNat : Int) = 110 := by decide
                        rw [e1] at hix HTK
                        clear e1
                        go_wp2_with fail
                        go_region_with (go_at_call 40; refine HTK.out.mono ?_; rintro e w4 ⟨x, ok, rfl, hst, hno, hxb, hyes⟩; have HST := Lib.hid hst; have HNO := Lib.hid hno; have HYES := Lib.hid hyes; clear hst hno hyes)
                        all_goals
                          rw [hrl2] at hxb
                          cases ok with
                          | false =>
                            have HN : Hid (parseR s = none) := by show _ = _; rw [HPR.out, HRUN.out, HNO.out rfl]; rfl
                            have HC4 := Lib.hid (HPS.out.s.kept ((Below.refl _ wr).drew) |>.step HST.out HPS.out.b)
                            clear HYES HNO hix hcut
                            go_wp2_with (refine wpList_store_rowTo rfl 27 _ _ rfl rfl w.heap.size zeroC (by as_aux_lemma => kernel_rfl) (by as_aux_lemma => kernel_rfl) 27 zeroC HC4.out.r (by as_aux_lemma => kernel_rfl) rfl (by as_aux_lemma => kernel_rfl) ?_)
                            refine bodyPost_ret (results_rcmd (setRow_heap _ _ _ _ _ _ HC4.out.r) rfl rfl) rfl ?_
                            exact HP3.out _ HN.out (below_setRowS HC4.out.bel (Nat.le_refl _) _)
                          | true =>
                            obtain ⟨st', n', v', q1', q2', q3', hst', rfl, hcm, htx, hqx⟩ := HYES.out rfl
                            have HPS5 := Lib.hid ((HPS.out.kept ((Below.refl _ wr).drew)).take HST.out hcm htx hqx)
                            have HCNT : Hid (st'.cnt = st.cnt + 1) := stepT_cnt1 _ _ _ _ hst'
                            have HC3' : Hid (st'.cnt + ((needsOf (i + 1)).drop (j + 1)).countP (fun x => x.toNat == 110) ≤ 3) := by
                              show _ ≤ _
                              rw [HCNT.out]
                              have := HC3.out
                              rw [List.countP_cons] at this
                              simp at this ⊢
                              omega
                            have HRUN2 : Hid (runS (needsOf (i + 1)) (s.drop k) (st0 (i + 1)) = runS ((needsOf (i + 1)).drop (j + 1)) (s.drop (p + 1 + n')) st') := by
                              show _ = _
                              rw [HRUN.out, hst']
                              show runS _ ((s.drop (p + 1)).drop n') st' = _
                              rw [List.drop_drop]
                            clear hst' hcm htx hqx HYES HNO
                            go_wp2
                            go_roundw
                            case rel => exact ⟨j + 1, p + 1 + n', st', v', q1', q2', q3', by omega, by rw [HCNT.out]; go_num, by go_num, by go_num, by omega, HPS5.out, HC3'.out, HRUN2.out⟩
                            case measure => simp only [intOf]; omega
                      · have e1 : ((upC 113).toNat : Int) = 81 := by decide
                        rw [e1] at hix HTK
                        clear e1
                        go_wp2_with fail
                        go_region_with (go_at_call 40; refine HTK.out.mono ?_; rintro e w4 ⟨x, ok, rfl, hst, hno, hxb, hyes⟩; have HST := Lib.hid hst; have HNO := Lib.hid hno; have HYES := Lib.hid hyes; clear hst hno hyes)
                        all_goals
                          rw [hrl2] at hxb
                          cases ok with
                          | false =>
                            have HN : Hid (parseR s = none) := by show _ = _; rw [HPR.out, HRUN.out, HNO.out rfl]; rfl
                            have HC4 := Lib.hid (HPS.out.s.kept ((Below.refl _ wr).drew) |>.step HST.out HPS.out.b)
                            clear HYES HNO hix hcut
                            go_wp2_with (refine wpList_store_rowTo rfl 27 _ _ rfl rfl w.heap.size zeroC (by as_aux_lemma => kernel_rfl) (by as_aux_lemma => kernel_rfl) 27 zeroC HC4.out.r (by as_aux_lemma => kernel_rfl) rfl (by as_aux_lemma => kernel_rfl) ?_)
                            refine bodyPost_ret (results_rcmd (setRow_heap _ _ _ _ _ _ HC4.out.r) rfl rfl) rfl ?_
                            exact HP3.out _ HN.out (below_setRowS HC4.out.bel (Nat.le_refl _) _)
                          | true =>
                            obtain ⟨st', n', v', q1', q2', q3', hst', rfl, hcm, htx, hqx⟩ := HYES.out rfl
                            have HPS5 := Lib.hid ((HPS.out.kept ((Below.refl _ wr).drew)).take HST.out hcm htx hqx)
                            have HCNT : Hid (st'.cnt = st.cnt + 0) := stepT_cnt0 113 (.inr rfl) _ _ _ _ hst'
                            have HC3' : Hid (st'.cnt + ((needsOf (i + 1)).drop (j + 1)).countP (fun x => x.toNat == 110) ≤ 3) := by
                              show _ ≤ _
                              rw [HCNT.out]
                              have := HC3.out
                              rw [List.countP_cons] at this
                              simp at this ⊢
                              omega
                            have HRUN2 : Hid (runS (needsOf (i + 1)) (s.drop k) (st0 (i + 1)) = runS ((needsOf (i + 1)).drop (j + 1)) (s.drop (p + 1 + n')) st') := by
                              show _ = _
                              rw [HRUN.out, hst']
                              show runS _ ((s.drop (p + 1)).drop n') st' = _
                              rw [List.drop_drop]
                            clear hst' hcm htx hqx HYES HNO
                            go_wp2
                            go_roundw
                            case rel => exact ⟨j + 1, p + 1 + n', st', v', q1', q2', q3', by omega, by rw [HCNT.out]; go_num, by go_num, by go_num, by omega, HPS5.out, HC3'.out, HRUN2.out⟩
                            case measure => simp only [intOf]; omega
                    · have HN : Hid (parseR s = none) := by show _ = _; rw [HPR.out, HRUN0.out, run_noblank _ _ _ _ _ (fun h => hy32 (UInt8.toNat_inj.1 h))]
                      have hyn : ((y.toNat : Int) != 32) = true := by rw [bne_iff_ne]; intro e; exact hy32 (UInt8.toNat_inj.1 (by show y.toNat = 32; omega))
                      have HC4 := HPS.out.s
                      clear hy hy32 hds hdr hc hcf HRUN0 hcm
                      generalize y.toNat = yn at *
                      go_wp2_with (refine wpList_store_rowTo rfl 27 _ _ rfl rfl w.heap.size zeroC (by as_aux_lemma => kernel_rfl) (by as_aux_lemma => kernel_rfl) 27 zeroC HCR.out (by as_aux_lemma => kernel_rfl) rfl (by as_aux_lemma => kernel_rfl) ?_)
                      refine bodyPost_ret (results_rcmd (setRow_heap _ _ _ _ _ _ HCR.out) rfl rfl) rfl ?_
                      exact HP3.out _ HN.out (below_setRowS HPS.out.s.bel (Nat.le_refl _) _)
                  · have HN : Hid (parseR s = none) := by show _ = _; rw [HPR.out, HRUN0.out, show s.drop p = [] from List.drop_eq_nil_of_le (by omega), run_less]
                    clear hdr hc hcf HRUN0 hcm
                    go_wp2_with (refine wpList_store_rowTo rfl 27 _ _ rfl rfl w.heap.size zeroC (by as_aux_lemma => kernel_rfl) (by as_aux_lemma => kernel_rfl) 27 zeroC HCR.out (by as_aux_lemma => kernel_rfl) rfl (by as_aux_lemma => kernel_rfl) ?_)
                    refine bodyPost_ret (results_rcmd (setRow_heap _ _ _ _ _ _ HCR.out) rfl rfl) rfl ?_
                    exact HP3.out _ HN.out (below_setRowS HPS.out.s.bel (Nat.le_refl _) _)
                · obtain rfl : j = L := by omega
                  have hd : decide ((j : Int) < (j : Int)) = false := by simp
                  have HCR := Lib.hid HPS.out.s.r
                  have HRUN : Hid (parseR s = runS [] (s.drop p) st) := by
                    show _ = _
                    rw [HPR.out, HRUN0.out, HLL.out, List.drop_length]
                  by_cases hpe : p = s.length
                  · have HY : Hid (parseR s = some st) := by show _ = _; rw [HRUN.out, hpe, List.drop_length, run_nil]
                    obtain ⟨a8, c8, hv8, hrow8, hlow8⟩ := HPS.out.t
                    obtain ⟨x1, x2, x3, x4, x5, x6, hz0, hz1, hz2⟩ := HPS.out.q.form
                    subst hv8
                    subst hz0
                    subst hz1
                    subst hz2
                    have z0 : wr.cell? ⟨CB, 0, none⟩ = some (.int .i64 (st.kind : Int)) := HPS.out.c.cell 0
                    have z1 : wr.cell? ⟨CB, 1, none⟩ = some (.slice a8 st.text.length c8) := HPS.out.c.cell 1
                    have z2 : wr.cell? ⟨CB, 2, none⟩ = some (.int .i64 (st.n : Int)) := HPS.out.c.cell 2
                    have z3 : wr.cell? ⟨CB, 3, none⟩ = some (.int .i64 (st.m : Int)) := HPS.out.c.cell 3
                    have z4 : wr.cell? ⟨CB, 4, none⟩ = some (.int .i64 (st.k : Int)) := HPS.out.c.cell 4
                    have z5 : wr.cell? ⟨CB, 5, none⟩ = some (.int .i64 st.q.k) := HPS.out.c.cell 5
                    have z6 : wr.cell? ⟨CB, 6, none⟩ = some (.slice x1 x2 x3) := HPS.out.c.cell 6
                    have z7 : wr.cell? ⟨CB, 7, none⟩ = some (.slice x4 x5 x6) := HPS.out.c.cell 7
                    have hpne : ((p : Int) != (s.length : Int)) = false := by rw [hpe]; simp
                    have HROW8 := Lib.hid hrow8
                    have HLOW8 := Lib.hid hlow8
                    have hCBl := HPS.out.b
                    clear hpe HRUN HRUN0 hrow8 hlow8
                    go_wp2_with (refine wpList_store_rowTo rfl 27 _ _ rfl rfl w.heap.size #[.int .i64 (st.kind : Int), .slice a8 st.text.length c8, .int .i64 (st.n : Int), .int .i64 (st.m : Int), .int .i64 (st.k : Int), .int .i64 st.q.k, .slice x1 x2 x3, .slice x4 x5 x6] (by as_aux_lemma => kernel_rfl) (by as_aux_lemma => kernel_rfl) 27 zeroC HCR.out (by as_aux_lemma => kernel_rfl) rfl (by as_aux_lemma => kernel_rfl) ?_)
                    refine bodyPost_ret (results_rcmd (setRow_heap _ _ _ _ _ _ HCR.out) rfl rfl) rfl ?_
                    refine ⟨below_setRowS HPS.out.s.bel (Nat.le_refl _) _, .inr ⟨st, .slice a8 st.text.length c8, .int .i64 st.q.k, .slice x1 x2 x3, .slice x4 x5 x6, HY.out, rfl, ⟨a8, c8, rfl, ⟨HROW8.out.at_, fun kk hkk => ?_⟩, HLOW8.out.imp id (fun h => by omega)⟩, HPS.out.q.move (fun b _ hg => setRow_other _ _ _ _ (by omega)) (fun b _ hg => by omega)⟩⟩
                    exact (World.cell?_of_block (a := ⟨bOf a8, oOf a8 + kk, none⟩) (setRow_other _ _ _ _ (by have := HLOW8.out.resolve_left (by omega); show bOf a8 ≠ w.heap.size; omega))).trans (HROW8.out.cell kk hkk)
                  · have HN : Hid (parseR s = none) := by
                      show _ = _
                      rw [HRUN.out, List.drop_eq_getElem_cons (show p < s.length by omega), run_rest]
                    have hpne : ((p : Int) != (s.length : Int)) = true := by rw [bne_iff_ne]; omega
                    clear HRUN HRUN0 hpe
                    go_wp2_with (refine wpList_store_rowTo rfl 27 _ _ rfl rfl w.heap.size zeroC (by as_aux_lemma => kernel_rfl) (by as_aux_lemma => kernel_rfl) 27 zeroC HCR.out (by as_aux_lemma => kernel_rfl) rfl (by as_aux_lemma => kernel_rfl) ?_)
                    refine bodyPost_ret (results_rcmd (setRow_heap _ _ _ _ _ _ HCR.out) rfl rfl) rfl ?_
                    exact HP3.out _ HN.out (below_setRowS HPS.out.s.bel (Nat.le_refl _) _)
            · rw [decide_eq_false hw] at hcmp
              have HNE2 : Hid (∀ i', i' < i + 1 → wordK (i' + 1) ≠ s.take k) := fun i' h => by
                rcases Nat.lt_or_ge i' i with h' | h'
                · exact HNE.out i' h'
                · obtain rfl : i' = i := by omega
                  exact hw
              clear hw HNE
              go_wp2
              go_quiet (fail)
              go_wp2
              go_roundw
              case rel => exact ⟨i + 1, by omega, by go_num, HCS.out.kept (below_drewN (Below.refl _ _) _), HNE2.out⟩
              case measure => simp only [intOf]; omega
          · obtain rfl : i = 17 := by omega
            have HN : Hid (parseR s = none) := by
              show _ = _
              rw [HPE.out]
              refine parse_none ?_
              rw [HWD.out]
              exact kindI_none HNE.out
            have HCR := Lib.hid HCS.out.r
            clear HNE
            go_wp2_with (refine wpList_store_rowTo rfl 27 _ _ rfl rfl w.heap.size zeroC (by as_aux_lemma => kernel_rfl) (by as_aux_lemma => kernel_rfl) 27 zeroC HCR.out (by as_aux_lemma => kernel_rfl) rfl (by as_aux_lemma => kernel_rfl) ?_)
            refine bodyPost_ret (results_rcmd (setRow_heap _ _ _ _ _ _ HCR.out) rfl rfl) rfl ?_
            exact HP3.out _ HN.out (below_setRowS HCS.out.bel (Nat.le_refl _) _)
      · have hix := ixS s k ch hch k rfl
        rw [hcn] at hix
        clear hch hcn
        go_wp2_with (go_at_call 35; refine Hid.out ?_)
        refine Lib.hid ?_
        refine HRW.out.mono ?_
        rintro e w1 ⟨rfl, hw1⟩
        have HCS0 : Hid (CSt w w1) := by
          rw [hw1]
          refine ⟨(Below.heap_alloc _ _ _ (by rw [World.size_alloc]; omega)).trans ((Below.heap_alloc _ _ _ (by omega)).trans HR0.out), ?_, ?_, (HB0.out.alloc (by omega) _).alloc (by simp; omega) _⟩
          · have := World.alloc_heap_new wr (.cells nmA 9)
            rw [hs0] at this
            exact (Below.heap_alloc _ _ _ (by rw [World.size_alloc]; omega)).trans this
          · have := World.alloc_heap_new (wr.alloc (.cells nmA 9)) (.cells fmA 9)
            rw [World.size_alloc, hs0] at this
            exact this
        clear hw1 HRW HR0 HB0
        go_wp2
        go_loopw [7] (fun v7 wr => ∃ i : Nat, i ≤ 17 ∧ v7 = .int .i64 (i : Int) ∧ CSt w wr ∧ Hid (∀ i', i' < i → wordK (i' + 1) ≠ s.take k)) (fun v7 _ => 17 - (intOf v7).toNat)
        case atStart => exact ⟨0, Nat.zero_le _, rfl, HCS0.out, fun i' h => absurd h (Nat.not_lt_zero i')⟩
        case round =>
          clear HCS0 hs0
          obtain ⟨i, hi, rfl, hcs, HNE⟩ := hrel
          have HCS := Lib.hid hcs
          clear hcs
          by_cases hi17 : i < 17
          · have hx5 := fun W => hixN (w.heap.size + 1) W i hi17
            have d5 := HCS.out.name i hi17
            have hcmp := uS_eq (wordK (i + 1)) (s.take k)
            have hii : (i : Int) < 17 := by omega
            by_cases hw : wordK (i + 1) = s.take k
            · rw [decide_eq_true hw] at hcmp
              have HPR : Hid (parseR s = runS (needsOf (i + 1)) (s.drop k) (st0 (i + 1))) := by
                show _ = _
                rw [HPE.out]
                have e : s = wordK (i + 1) ++ s.drop k := by rw [hw]; exact (List.take_append_drop _ _).symm
                conv => lhs; rw [e]
                exact parse_word (i + 1) (by omega) (by omega) _ HTE.out
              clear hw HNE HWD
              go_wp2
              go_quiet (fail)
              obtain ⟨w5, hw5⟩ : ∃ w5, wr.drewN nq = w5 := ⟨_, rfl⟩
              have HCS5 : Hid (CSt w w5) := by rw [← hw5]; exact HCS.out.kept (below_drewN (Below.refl _ _) _)
              rw [hw5]
              clear hw5 d5 hx5 hcmp HCS
              have hb6 : Below w5.heap.size w5 (w5.alloc (.cells #[.int .i64 ((i : Int) + 1), .slice none 0 0, .int .i64 0, .int .i64 0, .int .i64 0, .int .i64 0, .slice none 0 0, .slice none 0 0] 27)) := (Below.refl _ _).alloc (Nat.le_refl _) _
              have HPS0 : Hid (PSt w w5.heap.size (st0 (i + 1)) (.slice none 0 0) (.int .i64 0) (.slice none 0 0) (.slice none 0 0) (w5.alloc (.cells #[.int .i64 ((i : Int) + 1), .slice none 0 0, .int .i64 0, .int .i64 0, .int .i64 0, .int .i64 0, .slice none 0 0, .slice none 0 0] 27))) := by
                refine ⟨?_, ⟨none, 0, rfl, Row.nil _ _ _, .inl rfl⟩, QAt.zero _ _, HCS5.out.kept hb6, ?_⟩
                · have := World.alloc_heap_new w5 (.cells #[.int .i64 ((i : Int) + 1), .slice none 0 0, .int .i64 0, .int .i64 0, .int .i64 0, .int .i64 0, .slice none 0 0, .slice none 0 0] 27)
                  exact this
                · have := (Array.getElem?_eq_some_iff.1 HCS5.out.fm).1; omega
              have d6 := HPS0.out.s.form i hi17
              have hx6 := fun W => hixN (w.heap.size + 2) W i hi17
              obtain ⟨L, hL⟩ : ∃ L, L = (needsOf (i + 1)).length := ⟨_, rfl⟩
              have hfs : (uS (formK (i + 1))).size = L := (uS_size _).trans ((List.length_map ..).trans hL.symm)
              have hL4 : L ≤ 4 := by rw [hL]; exact (need_ok (i + 1) (by omega)).2
              have HLL := Lib.hid hL
              have HC30 : Hid ((st0 (i + 1)).cnt + (needsOf (i + 1)).countP (fun x => x.toNat == 110) ≤ 3) := by
                show _ ≤ _
                have := needs_cnt (i + 1) (by omega)
                show 0 + _ ≤ _
                omega
              clear hb6 hL
              obtain ⟨CB, hCB⟩ : ∃ CB, CB = w5.heap.size := ⟨_, rfl⟩
              rw [← hCB] at HPS0
              go_wp2
              rw [← hCB]
              clear hCB d6 hx6
              generalize (w5.alloc (.cells #[.int .i64 ((i : Int) + 1), .slice none 0 0, .int .i64 0, .int .i64 0, .int .i64 0, .int .i64 0, .slice none 0 0, .slice none 0 0] 27)) = w6 at *
              go_loopw [10, 11, 12] (fun v10 v11 v12 wr => ∃ (j p : Nat) (st : PCmd) (v q1 q2 q3 : Value), j ≤ L ∧ v10 = .int .i64 (st.cnt : Int) ∧ v11 = .int .i64 (p : Int) ∧ v12 = .int .i64 (j : Int) ∧ p ≤ s.length ∧ PSt w CB st v q1 q2 q3 wr ∧ Hid (st.cnt + ((needsOf (i + 1)).drop j).countP (fun x => x.toNat == 110) ≤ 3) ∧ Hid (runS (needsOf (i + 1)) (s.drop k) (st0 (i + 1)) = runS ((needsOf (i + 1)).drop j) (s.drop p) st)) (fun _ _ v12 _ => L - (intOf v12).toNat)
              case atStart => exact ⟨0, k, st0 (i + 1), _, _, _, _, Nat.zero_le _, rfl, rfl, rfl, hKs, HPS0.out, HC30.out, rfl⟩
              case round =>
                clear HPS0 HC30 HCS5
                obtain ⟨j, p, st, v, q1, q2, q3, hj, rfl, rfl, rfl, hp, hps, HC3, HRUN0⟩ := hrel
                have HPS := Lib.hid hps
                have hcn3 : st.cnt ≤ 3 := by have := HC3.out; omega
                clear hps
                by_cases hjL : j < L
                · obtain ⟨c, hc⟩ : ∃ c, (needsOf (i + 1))[j]? = some c := ⟨(needsOf (i + 1))[j]'(by rw [← HLL.out]; exact hjL), List.getElem?_eq_getElem _⟩
                  have hcf : (formK (i + 1))[j]? = some (upC c) := by unfold formK; rw [List.getElem?_map, hc]; rfl
                  have hdr : (needsOf (i + 1)).drop j = c :: (needsOf (i + 1)).drop (j + 1) := by
                    rw [List.drop_eq_getElem_cons (by rw [← HLL.out]; exact hjL)]; congr 1
                    exact Option.some.inj ((List.getElem?_eq_getElem _).symm.trans hc)
                  have hcm := needs_tnq (i + 1) (by omega) c (List.mem_of_getElem? hc)
                  rw [hdr] at HC3 HRUN0
                  have HCR := Lib.hid HPS.out.s.r
                  by_cases hpl : p < s.length
                  · obtain ⟨y, hy⟩ : ∃ y, s[p]? = some y := ⟨s[p], List.getElem?_eq_getElem hpl⟩
                    have hiy := ixS s p y hy p rfl
                    have hds : s.drop p = y :: s.drop (p + 1) := by
                      rw [List.drop_eq_getElem_cons hpl]; congr 1
                      exact Option.some.inj ((List.getElem?_eq_getElem hpl).symm.trans hy)
                    rw [hds] at HRUN0
                    by_cases hy32 : y = 32
                    · have hyi : (y.toNat : Int) = 32 := by rw [hy32]; rfl
                      rw [hyi] at hiy
                      rw [hy32] at HRUN0
                      have hix := ixS (formK (i + 1)) j (upC c) hcf j rfl
                      have HRUN : Hid (runS (needsOf (i + 1)) (s.drop k) (st0 (i + 1)) = (stepT c st (s.drop (p + 1))).bind fun p' => runS ((needsOf (i + 1)).drop (j + 1)) ((s.drop (p + 1)).drop p'.2) p'.1) := by
                        show _ = _
                        rw [HRUN0.out, step_eq c _ st _ hcm]
                      have hcut : ∀ W : World, (Instr.slice 9 (.string (uS s)) (some (.int .i64 ((p : Int) + 1))) none none).run Tryz.prog W = .ok (.string (uS (s.drop (p + 1)))) W := fun W => by
                        have := cut_fromU s (p + 1) (by omega) W
                        rwa [show ((p + 1 : Nat) : Int) = (p : Int) + 1 by omega] at this
                      have hwp : IntKind.i64.wrap ((p : Int) + 1) = (p : Int) + 1 := IntWalk.i64_in _ (by omega)
                      have hpi : (p : Int) ≤ 100000 := by omega
                      have hrl2 : ((s.drop (p + 1)).length : Int) = (s.length : Int) - (p : Int) - 1 := by rw [List.length_drop]; omega
                      have HTK := Lib.hid (take_any wr.drew CB st v q1 q2 q3 (HPS.out.c.kept ((Below.refl _ wr).drew)) (s.drop (p + 1)) (by rw [List.length_drop]; omega) c hcm (fun e => by have := HC3.out; rw [e, List.countP_cons] at this; simp at this; omega))
                      clear hy hyi hy32 hds hdr hc hcf HRUN0
                      rcases hcm with rfl | rfl | rfl
                      · have e1 : ((upC 116).toNat : Int) = 84 := by decide
                        rw [e1] at hix HTK
                        clear e1
                        go_wp2_with fail
                        go_region_with (go_at_call 40; refine HTK.out.mono ?_; rintro e w4 ⟨x, ok, rfl, hst, hno, hxb, hyes⟩; have HST := Lib.hid hst; have HNO := Lib.hid hno; have HYES := Lib.hid hyes; clear hst hno hyes)
                        all_goals
                          rw [hrl2] at hxb
                          cases ok with
                          | false =>
                            have HN : Hid (parseR s = none) := by show _ = _; rw [HPR.out, HRUN.out, HNO.out rfl]; rfl
                            have HC4 := Lib.hid (HPS.out.s.kept ((Below.refl _ wr).drew) |>.step HST.out HPS.out.b)
                            clear HYES HNO hix hcut
                            go_wp2_with (refine wpList_store_rowTo rfl 27 _ _ rfl rfl w.heap.size zeroC (by as_aux_lemma => kernel_rfl) (by as_aux_lemma => kernel_rfl) 27 zeroC HC4.out.r (by as_aux_lemma => kernel_rfl) rfl (by as_aux_lemma => kernel_rfl) ?_)
                            refine bodyPost_ret (results_rcmd (setRow_heap _ _ _ _ _ _ HC4.out.r) rfl rfl) rfl ?_
                            exact HP3.out _ HN.out (below_setRowS HC4.out.bel (Nat.le_refl _) _)
                          | true =>
                            obtain ⟨st', n', v', q1', q2', q3', hst', rfl, hcm, htx, hqx⟩ := HYES.out rfl
                            have HPS5 := Lib.hid ((HPS.out.kept ((Below.refl _ wr).drew)).take HST.out hcm htx hqx)
                            have HCNT : Hid (st'.cnt = st.cnt + 0) := stepT_cnt0 116 (.inl rfl) _ _ _ _ hst'
                            have HC3' : Hid (st'.cnt + ((needsOf (i + 1)).drop (j + 1)).countP (fun x => x.toNat == 110) ≤ 3) := by
                              show _ ≤ _
                              rw [HCNT.out]
                              have := HC3.out
                              rw [List.countP_cons] at this
                              simp at this ⊢
                              omega
                            have HRUN2 : Hid (runS (needsOf (i + 1)) (s.drop k) (st0 (i + 1)) = runS ((needsOf (i + 1)).drop (j + 1)) (s.drop (p + 1 + n')) st') := by
                              show _ = _
                              rw [HRUN.out, hst']
                              show runS _ ((s.drop (p + 1)).drop n') st' = _
                              rw [List.drop_drop]
                            clear hst' hcm htx hqx HYES HNO
                            go_wp2
                            go_roundw
                            case rel => exact ⟨j + 1, p + 1 + n', st', v', q1', q2', q3', by omega, by rw [HCNT.out]; go_num, by go_num, by go_num, by omega, HPS5.out, HC3'.out, HRUN2.out⟩
                            case measure => simp only [intOf]; omega
                      · have e1 : ((upC 110).toNat : Int) = 110 := by decide
                        rw [e1] at hix HTK
                        clear e1
                        go_wp2_with fail
                        go_region_with (go_at_call 40; refine HTK.out.mono ?_; rintro e w4 ⟨x, ok, rfl, hst, hno, hxb, hyes⟩; have HST := Lib.hid hst; have HNO := Lib.hid hno; have HYES := Lib.hid hyes; clear hst hno hyes)
                        all_goals
                          rw [hrl2] at hxb
                          cases ok with
                          | false =>
                            have HN : Hid (parseR s = none) := by show _ = _; rw [HPR.out, HRUN.out, HNO.out rfl]; rfl
                            have HC4 := Lib.hid (HPS.out.s.kept ((Below.refl _ wr).drew) |>.step HST.out HPS.out.b)
                            clear HYES HNO hix hcut
                            go_wp2_with (refine wpList_store_rowTo rfl 27 _ _ rfl rfl w.heap.size zeroC (by as_aux_lemma => kernel_rfl) (by as_aux_lemma => kernel_rfl) 27 zeroC HC4.out.r (by as_aux_lemma => kernel_rfl) rfl (by as_aux_lemma => kernel_rfl) ?_)
                            refine bodyPost_ret (results_rcmd (setRow_heap _ _ _ _ _ _ HC4.out.r) rfl rfl) rfl ?_
                            exact HP3.out _ HN.out (below_setRowS HC4.out.bel (Nat.le_refl _) _)
                          | true =>
                            obtain ⟨st', n', v', q1', q2', q3', hst', rfl, hcm, htx, hqx⟩ := HYES.out rfl
                            have HPS5 := Lib.hid ((HPS.out.kept ((Below.refl _ wr).drew)).take HST.out hcm htx hqx)
                            have HCNT : Hid (st'.cnt = st.cnt + 1) := stepT_cnt1 _ _ _ _ hst'
                            have HC3' : Hid (st'.cnt + ((needsOf (i + 1)).drop (j + 1)).countP (fun x => x.toNat == 110) ≤ 3) := by
                              show _ ≤ _
                              rw [HCNT.out]
                              have := HC3.out
                              rw [List.countP_cons] at this
                              simp at this ⊢
                              omega
                            have HRUN2 : Hid (runS (needsOf (i + 1)) (s.drop k) (st0 (i + 1)) = runS ((needsOf (i + 1)).drop (j + 1)) (s.drop (p + 1 + n')) st') := by
                              show _ = _
                              rw [HRUN.out, hst']
                              show runS _ ((s.drop (p + 1)).drop n') st' = _
                              rw [List.drop_drop]
                            clear hst' hcm htx hqx HYES HNO
                            go_wp2
                            go_roundw
                            case rel => exact ⟨j + 1, p + 1 + n', st', v', q1', q2', q3', by omega, by rw [HCNT.out]; go_num, by go_num, by go_num, by omega, HPS5.out, HC3'.out, HRUN2.out⟩
                            case measure => simp only [intOf]; omega
                      · have e1 : ((upC 113).toNat : Int) = 81 := by decide
                        rw [e1] at hix HTK
                        clear e1
                        go_wp2_with fail
                        go_region_with (go_at_call 40; refine HTK.out.mono ?_; rintro e w4 ⟨x, ok, rfl, hst, hno, hxb, hyes⟩; have HST := Lib.hid hst; have HNO := Lib.hid hno; have HYES := Lib.hid hyes; clear hst hno hyes)
                        all_goals
                          rw [hrl2] at hxb
                          cases ok with
                          | false =>
                            have HN : Hid (parseR s = none) := by show _ = _; rw [HPR.out, HRUN.out, HNO.out rfl]; rfl
                            have HC4 := Lib.hid (HPS.out.s.kept ((Below.refl _ wr).drew) |>.step HST.out HPS.out.b)
                            clear HYES HNO hix hcut
                            go_wp2_with (refine wpList_store_rowTo rfl 27 _ _ rfl rfl w.heap.size zeroC (by as_aux_lemma => kernel_rfl) (by as_aux_lemma => kernel_rfl) 27 zeroC HC4.out.r (by as_aux_lemma => kernel_rfl) rfl (by as_aux_lemma => kernel_rfl) ?_)
                            refine bodyPost_ret (results_rcmd (setRow_heap _ _ _ _ _ _ HC4.out.r) rfl rfl) rfl ?_
                            exact HP3.out _ HN.out (below_setRowS HC4.out.bel (Nat.le_refl _) _)
                          | true =>
                            obtain ⟨st', n', v', q1', q2', q3', hst', rfl, hcm, htx, hqx⟩ := HYES.out rfl
                            have HPS5 := Lib.hid ((HPS.out.kept ((Below.refl _ wr).drew)).take HST.out hcm htx hqx)
                            have HCNT : Hid (st'.cnt = st.cnt + 0) := stepT_cnt0 113 (.inr rfl) _ _ _ _ hst'
                            have HC3' : Hid (st'.cnt + ((needsOf (i + 1)).drop (j + 1)).countP (fun x => x.toNat == 110) ≤ 3) := by
                              show _ ≤ _
                              rw [HCNT.out]
                              have := HC3.out
                              rw [List.countP_cons] at this
                              simp at this ⊢
                              omega
                            have HRUN2 : Hid (runS (needsOf (i + 1)) (s.drop k) (st0 (i + 1)) = runS ((needsOf (i + 1)).drop (j + 1)) (s.drop (p + 1 + n')) st') := by
                              show _ = _
                              rw [HRUN.out, hst']
                              show runS _ ((s.drop (p + 1)).drop n') st' = _
                              rw [List.drop_drop]
                            clear hst' hcm htx hqx HYES HNO
                            go_wp2
                            go_roundw
                            case rel => exact ⟨j + 1, p + 1 + n', st', v', q1', q2', q3', by omega, by rw [HCNT.out]; go_num, by go_num, by go_num, by omega, HPS5.out, HC3'.out, HRUN2.out⟩
                            case measure => simp only [intOf]; omega
                    · have HN : Hid (parseR s = none) := by show _ = _; rw [HPR.out, HRUN0.out, run_noblank _ _ _ _ _ (fun h => hy32 (UInt8.toNat_inj.1 h))]
                      have hyn : ((y.toNat : Int) != 32) = true := by rw [bne_iff_ne]; intro e; exact hy32 (UInt8.toNat_inj.1 (by show y.toNat = 32; omega))
                      have HC4 := HPS.out.s
                      clear hy hy32 hds hdr hc hcf HRUN0 hcm
                      generalize y.toNat = yn at *
                      go_wp2_with (refine wpList_store_rowTo rfl 27 _ _ rfl rfl w.heap.size zeroC (by as_aux_lemma => kernel_rfl) (by as_aux_lemma => kernel_rfl) 27 zeroC HCR.out (by as_aux_lemma => kernel_rfl) rfl (by as_aux_lemma => kernel_rfl) ?_)
                      refine bodyPost_ret (results_rcmd (setRow_heap _ _ _ _ _ _ HCR.out) rfl rfl) rfl ?_
                      exact HP3.out _ HN.out (below_setRowS HPS.out.s.bel (Nat.le_refl _) _)
                  · have HN : Hid (parseR s = none) := by show _ = _; rw [HPR.out, HRUN0.out, show s.drop p = [] from List.drop_eq_nil_of_le (by omega), run_less]
                    clear hdr hc hcf HRUN0 hcm
                    go_wp2_with (refine wpList_store_rowTo rfl 27 _ _ rfl rfl w.heap.size zeroC (by as_aux_lemma => kernel_rfl) (by as_aux_lemma => kernel_rfl) 27 zeroC HCR.out (by as_aux_lemma => kernel_rfl) rfl (by as_aux_lemma => kernel_rfl) ?_)
                    refine bodyPost_ret (results_rcmd (setRow_heap _ _ _ _ _ _ HCR.out) rfl rfl) rfl ?_
                    exact HP3.out _ HN.out (below_setRowS HPS.out.s.bel (Nat.le_refl _) _)
                · obtain rfl : j = L := by omega
                  have hd : decide ((j : Int) < (j : Int)) = false := by simp
                  have HCR := Lib.hid HPS.out.s.r
                  have HRUN : Hid (parseR s = runS [] (s.drop p) st) := by
                    show _ = _
                    rw [HPR.out, HRUN0.out, HLL.out, List.drop_length]
                  by_cases hpe : p = s.length
                  · have HY : Hid (parseR s = some st) := by show _ = _; rw [HRUN.out, hpe, List.drop_length, run_nil]
                    obtain ⟨a8, c8, hv8, hrow8, hlow8⟩ := HPS.out.t
                    obtain ⟨x1, x2, x3, x4, x5, x6, hz0, hz1, hz2⟩ := HPS.out.q.form
                    subst hv8
                    subst hz0
                    subst hz1
                    subst hz2
                    have z0 : wr.cell? ⟨CB, 0, none⟩ = some (.int .i64 (st.kind : Int)) := HPS.out.c.cell 0
                    have z1 : wr.cell? ⟨CB, 1, none⟩ = some (.slice a8 st.text.length c8) := HPS.out.c.cell 1
                    have z2 : wr.cell? ⟨CB, 2, none⟩ = some (.int .i64 (st.n : Int)) := HPS.out.c.cell 2
                    have z3 : wr.cell? ⟨CB, 3, none⟩ = some (.int .i64 (st.m : Int)) := HPS.out.c.cell 3
                    have z4 : wr.cell? ⟨CB, 4, none⟩ = some (.int .i64 (st.k : Int)) := HPS.out.c.cell 4
                    have z5 : wr.cell? ⟨CB, 5, none⟩ = some (.int .i64 st.q.k) := HPS.out.c.cell 5
                    have z6 : wr.cell? ⟨CB, 6, none⟩ = some (.slice x1 x2 x3) := HPS.out.c.cell 6
                    have z7 : wr.cell? ⟨CB, 7, none⟩ = some (.slice x4 x5 x6) := HPS.out.c.cell 7
                    have hpne : ((p : Int) != (s.length : Int)) = false := by rw [hpe]; simp
                    have HROW8 := Lib.hid hrow8
                    have HLOW8 := Lib.hid hlow8
                    have hCBl := HPS.out.b
                    clear hpe HRUN HRUN0 hrow8 hlow8
                    go_wp2_with (refine wpList_store_rowTo rfl 27 _ _ rfl rfl w.heap.size #[.int .i64 (st.kind : Int), .slice a8 st.text.length c8, .int .i64 (st.n : Int), .int .i64 (st.m : Int), .int .i64 (st.k : Int), .int .i64 st.q.k, .slice x1 x2 x3, .slice x4 x5 x6] (by as_aux_lemma => kernel_rfl) (by as_aux_lemma => kernel_rfl) 27 zeroC HCR.out (by as_aux_lemma => kernel_rfl) rfl (by as_aux_lemma => kernel_rfl) ?_)
                    refine bodyPost_ret (results_rcmd (setRow_heap _ _ _ _ _ _ HCR.out) rfl rfl) rfl ?_
                    refine ⟨below_setRowS HPS.out.s.bel (Nat.le_refl _) _, .inr ⟨st, .slice a8 st.text.length c8, .int .i64 st.q.k, .slice x1 x2 x3, .slice x4 x5 x6, HY.out, rfl, ⟨a8, c8, rfl, ⟨HROW8.out.at_, fun kk hkk => ?_⟩, HLOW8.out.imp id (fun h => by omega)⟩, HPS.out.q.move (fun b _ hg => setRow_other _ _ _ _ (by omega)) (fun b _ hg => by omega)⟩⟩
                    exact (World.cell?_of_block (a := ⟨bOf a8, oOf a8 + kk, none⟩) (setRow_other _ _ _ _ (by have := HLOW8.out.resolve_left (by omega); show bOf a8 ≠ w.heap.size; omega))).trans (HROW8.out.cell kk hkk)
                  · have HN : Hid (parseR s = none) := by
                      show _ = _
                      rw [HRUN.out, List.drop_eq_getElem_cons (show p < s.length by omega), run_rest]
                    have hpne : ((p : Int) != (s.length : Int)) = true := by rw [bne_iff_ne]; omega
                    clear HRUN HRUN0 hpe
                    go_wp2_with (refine wpList_store_rowTo rfl 27 _ _ rfl rfl w.heap.size zeroC (by as_aux_lemma => kernel_rfl) (by as_aux_lemma => kernel_rfl) 27 zeroC HCR.out (by as_aux_lemma => kernel_rfl) rfl (by as_aux_lemma => kernel_rfl) ?_)
                    refine bodyPost_ret (results_rcmd (setRow_heap _ _ _ _ _ _ HCR.out) rfl rfl) rfl ?_
                    exact HP3.out _ HN.out (below_setRowS HPS.out.s.bel (Nat.le_refl _) _)
            · rw [decide_eq_false hw] at hcmp
              have HNE2 : Hid (∀ i', i' < i + 1 → wordK (i' + 1) ≠ s.take k) := fun i' h => by
                rcases Nat.lt_or_ge i' i with h' | h'
                · exact HNE.out i' h'
                · obtain rfl : i' = i := by omega
                  exact hw
              clear hw HNE
              go_wp2
              go_quiet (fail)
              go_wp2
              go_roundw
              case rel => exact ⟨i + 1, by omega, by go_num, HCS.out.kept (below_drewN (Below.refl _ _) _), HNE2.out⟩
              case measure => simp only [intOf]; omega
          · obtain rfl : i = 17 := by omega
            have HN : Hid (parseR s = none) := by
              show _ = _
              rw [HPE.out]
              refine parse_none ?_
              rw [HWD.out]
              exact kindI_none HNE.out
            have HCR := Lib.hid HCS.out.r
            clear HNE
            go_wp2_with (refine wpList_store_rowTo rfl 27 _ _ rfl rfl w.heap.size zeroC (by as_aux_lemma => kernel_rfl) (by as_aux_lemma => kernel_rfl) 27 zeroC HCR.out (by as_aux_lemma => kernel_rfl) rfl (by as_aux_lemma => kernel_rfl) ?_)
            refine bodyPost_ret (results_rcmd (setRow_heap _ _ _ _ _ _ HCR.out) rfl rfl) rfl ?_
            exact HP3.out _ HN.out (below_setRowS HCS.out.bel (Nat.le_refl _) _)
end Go.Proofs.YtdcobmoeligdkaaGreatDoor
