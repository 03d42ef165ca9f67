/-
  Two iterators, joined: the join's own iterator; Union, Both, Less (int).
-/
import Derived.Test.YtoifmfdaghmleaaBagTail
set_option linter.unusedVariables false
namespace Go.Proofs.Ytoifmfdaghmleaa
open Go.RowKit Go.Lib Go.Sort Go.Shelf
attribute [local go_sem] Oper.semAt_some
set_option maxRecDepth 100000 in
set_option maxHeartbeats 4000000 in
theorem join1I (Da Db : Nat → Prop) (n : Nat) (hn : 1 ≤ n) (K : Nat → Prop) (w : World) (B1 B2 B3 : Nat) (fa fb : Value) (la lb : List Int) (k0 k1 k2 : Bool) (hA : Iter1 (fun x : Int => (Value.int .i64 x : Value)) Da fa la w) (hB : Iter1 (fun x : Int => (Value.int .i64 x : Value)) Db fb lb w) (hla : la.length ≤ 100000) (hlb : lb.length ≤ 100000)
    (c1 : w.cell? ⟨B1, 0, none⟩ = some fa) (c2 : w.cell? ⟨B2, 0, none⟩ = some fb) (hb3 : w.heap[B3]? = some (.cells #[.bool k0, .bool k1, .bool k2] 104)) (hK3 : K B3) :
    SeqX Fence.wide n Try.prog 105 #[.pointer (some ⟨B1, 0, none⟩), .pointer (some ⟨B2, 0, none⟩), .pointer (some ⟨B3, 0, none⟩)] (fun x => #[Value.int .i64 x]) K (fun xs => xs = joinL ltI k0 k1 k2 la lb) (fun pre => pre <+: joinL ltI k0 k1 k2 la lb) (joinL ltI k0 k1 k2 la lb).length w := by
  intro lp J Jx W hW hJ hJx hY h0
  have hwf : ∀ f, Fence.wide.fn f = True := fun _ => rfl
  refine callsIn_of_wp Try.func105 rfl trivial ?_ rfl
  simp only [Try.ntmps105, List.size_toArray, List.length_cons, List.length_nil, Nat.reduceAdd, Nat.reduceSub, Array.replicate_succ, Array.replicate_zero, List.push_toArray, List.append_toArray, List.nil_append, List.cons_append]
  have HY := Lib.hid hY
  have HJ := Lib.hid hJ
  have HJX := Lib.hid hJx
  have H0 := Lib.hid h0
  have HA := Lib.hid (fun W' (h : Below w.heap.size w W') => all_anyI Da W' fa la (hA.kept h) (by omega))
  have HB := Lib.hid (fun W' (h : Below w.heap.size w W') => all_anyI Db W' fb lb (hB.kept h) (by omega))
  have HC2 := Lib.hid (fun W' (h : Below w.heap.size w W') => (h.cell (p := ⟨B2, 0, none⟩) (World.block_lt_of_cell? w _ c2)).trans c2)
  have HB3 := Lib.hid (fun W' (h : Below w.heap.size w W') => (h.block B3 (Array.getElem?_eq_some_iff.1 hb3).1).trans hb3)
  have HLT3 := Lib.hid ((Array.getElem?_eq_some_iff.1 hb3).1)
  have HW := Lib.hid hW
  have d1 := (hW.cell (p := ⟨B1, 0, none⟩) (World.block_lt_of_cell? w _ c1)).trans c1
  have d2 := HC2.out W hW
  have hsW := hW.size
  clear hY hJ hJx h0 hW hA hB c1 c2 hb3
  gi_wp2
  rename_i Q1 K1 hK1
  have hend : ∀ (X1 : Nat → Prop) (w2 : World) (aa ab : Option Addr) (ca cb : Nat), JRow (fun x : Int => (Value.int .i64 x : Value)) (0 : Int) w2 X1 aa ca la → JRow (fun x : Int => (Value.int .i64 x : Value)) (0 : Int) w2 X1 ab cb lb → J X1 [] w2 → w2.heap[B3]? = some (.cells #[.bool k0, .bool k1, .bool k2] 104) → ¬ X1 B3 →
      K1 { tmps := #[.func (.yield lp) #[] #[], .pointer (some ⟨B1, 0, none⟩), .pointer (some ⟨B2, 0, none⟩), .pointer (some ⟨B3, 0, none⟩), undef, .slice aa la.length ca, .slice ab lb.length cb, undef, undef, fa, .slice aa la.length ca, fb, .slice ab lb.length cb, undef, undef, undef, undef, undef, undef, undef, undef, undef, undef, undef, undef, undef, undef, undef, undef, undef, undef, undef, undef, undef, undef, undef, undef, undef, undef, undef, undef, undef, undef, undef, undef, undef, undef, undef, undef, undef, undef, undef, undef, undef, undef, undef, undef, undef, undef, undef, undef, undef, undef, undef, undef, undef, undef, undef, undef, undef, undef, undef, undef, undef, undef, undef, undef, undef, undef, undef], defers := [] } w2 := by
    intro X1 w2 aa ab ca cb hra hrb hj1 hb32 hx3
    refine hK1 _ _ ?_
    have HCM := Lib.hid (fun x y W => cmpI x y W)
    have HRA := Lib.hid hra
    have HRB := Lib.hid hrb
    have HJ1 := Lib.hid hj1
    have HB32 := Lib.hid hb32
    have HX3 := Lib.hid hx3
    clear hra hrb hj1 hb32 hx3 HA HB HC2 HB3 H0 d1 d2
    generalize hL : joinL ltI k0 k1 k2 la lb = L at *
    have HL := Lib.hid hL
    clear hL hK1
    gi_wp2
    gi_loopw [5, 6] (fun v5 v6 wr => ∃ (p q pre : List Int) (ap aq : Option Addr) (cp cq : Nat), p.length ≤ 100000 ∧ q.length ≤ 100000 ∧ v5 = .slice ap p.length cp ∧ v6 = .slice aq q.length cq ∧ JRow (fun x : Int => (Value.int .i64 x : Value)) (0 : Int) wr X1 ap cp p ∧ JRow (fun x : Int => (Value.int .i64 x : Value)) (0 : Int) wr X1 aq cq q ∧ L = pre ++ joinL ltI k0 k1 k2 p q ∧ J X1 pre wr ∧ wr.heap[B3]? = some (.cells #[.bool k0, .bool k1, .bool k2] 104)) (fun v5 v6 _ => lenV v5 + lenV v6)
    case atStart => exact ⟨la, lb, [], aa, ab, ca, cb, hla, hlb, rfl, rfl, HRA.out, HRB.out, by rw [HL.out]; rfl, HJ1.out, HB32.out⟩
    case round =>
      obtain ⟨p, q, pre, ap, aq, cp, cq, hpl, hql, rfl, rfl, hrp, hrq, hpre, hj, hb3⟩ := hrel
      have HRP := Lib.hid hrp
      have HRQ := Lib.hid hrq
      have HPRE := Lib.hid hpre
      have HJ0 := Lib.hid hj
      have HB30 := Lib.hid hb3
      clear hrp hrq hpre hj hb3 HRA HRB HJ1 HB32
      rcases p with _ | ⟨x, p⟩
      · rcases q with _ | ⟨y, q⟩
        · simp only [List.length_nil]
          have HE : Hid (J X1 L wr) := by have h := HJ0.out; have e := HPRE.out; rw [joinL, List.append_nil] at e; rw [e]; exact h
          gi_wp2
          go_end0
          exact ⟨⟨_, rfl⟩, .inl ⟨L, X1, HL.out.symm, HE.out⟩⟩
        · obtain ⟨gq, oq, rfl, hcy, hcq1, hrq2⟩ := HRQ.out.head
          have HST : Hid (L = pre ++ ((if k1 = true then [y] else []) ++ joinL ltI k0 k1 k2 [] q)) := by have e := HPRE.out; rw [joinL] at e; exact e
          have hle := HRQ.out.le
          rw [List.length_cons] at hle hql
          have HQX := Lib.hid hrq2
          have HPX := Lib.hid HRP.out
          have HNP : Hid (([] : List Int).length = 0) := rfl
          have hx0 : ∀ W, (Instr.indexAt 31 (.slice (some ⟨gq, oq, none⟩) (q.length + 1) cq) (.int .i64 0)).run Try.prog W = .ok (.pointer (some ⟨gq, oq, none⟩)) W := fun W => run_ix (P := Try.prog) 31 (by kernel_rfl) size_sI (some ⟨gq, oq, none⟩) (q.length + 1) cq (.inr rfl) .i64 W 0 (by omega)
          have ht0 : ∀ W, (Instr.slice 31 (.slice (some ⟨gq, oq, none⟩) (q.length + 1) cq) (some (.int .i64 1)) none none).run Try.prog W = .ok (.slice (some ⟨gq, tl1 oq cq, none⟩) q.length (cq - 1)) W := fun W => run_tail1 W 31 3 Try.underlying31 (fun w => by kernel_rfl) gq oq (q.length + 1) cq (by omega) (by omega)
          have hz : ¬ ((q.length : Int) + 1 = 0) := by omega
          have hz2 : (0 : Int) < (q.length : Int) + 1 := by omega
          have hz3 : ((q.length : Int) + 1 == 0) = false := by simp; omega
          simp only [List.length_cons, List.length_nil]
          generalize hnq : q.length = nq0 at *
          have HNQ := Lib.hid hnq
          clear hrq2 HRQ HRP HPRE hnq hpl
          gi_wp2
          gi_quiet (fail)
          revert nq; intro q1
          gi_wp2
          gi_quiet (fail)
          revert nq; intro q2
          gi_wp2
          gi_quiet (fail)
          simp only [World.drewN_drewN]
          generalize q1 + q2 + nq = q9
          clear hx0 ht0 hz hz2 hz3 hcy
          have hck : (wr.drewN q9).cell? ⟨B3, 1, none⟩ = some (.bool k1) := by have h := HB30.out; simp [World.cell?, World.drewN, h]
          rcases Bool.eq_false_or_eq_true k1 with hkk | hkk
          · rw [hkk] at hck
            have hlen : pre.length < L.length := by have h := HST.out; rw [if_pos hkk] at h; rw [h]; simp
            have HST2 : Hid (L = (pre ++ [y]) ++ joinL ltI k0 k1 k2 ([] : List Int) q) := by have h := HST.out; rw [if_pos hkk] at h; show L = _; rw [h]; simp
            obtain ⟨fn, tmps, assign, body, hy, hR⟩ := HY.out X1 pre y (wr.drewN q9) (HJ.out.step HJ0.out (StepX.of_below (below_drewN (Below.refl _ _) _))) hlen
            have HYR := Lib.hid hR
            clear hR hkk
            gi_wp2
            refine HYR.out.mono ?_
            rintro e0 W3 ⟨hkx, hkb, (⟨rfl, hJ3⟩ | ⟨rfl, hJx3⟩)⟩
            · have HJ3 := Lib.hid hJ3
              have HP3 := Lib.hid ((HPX.out.drewN q9).keep hkx)
              have HQ3 := Lib.hid ((HQX.out.drewN q9).keep hkx)
              have HB33 := Lib.hid ((hkb.block B3 (Array.getElem?_eq_some_iff.1 HB30.out).1 hK3).trans HB30.out)
              clear hJ3 hkb hkx hy hck
              gi_wp2
              go_roundw
              case rel => exact ⟨([] : List Int), q, pre ++ [y], ap, (some ⟨gq, tl1 oq cq, none⟩), cp, (cq - 1), by have := HNP.out; omega, by have := HNQ.out; omega, by rw [HNP.out], by rw [HNQ.out], HP3.out, HQ3.out, HST2.out, HJ3.out, HB33.out⟩
              case measure => simp [lenV]; try omega
            · have HPF : Hid (pre ++ [y] <+: joinL ltI k0 k1 k2 la lb) := by show _ <+: _; rw [HL.out, HST2.out]; exact List.prefix_append _ _
              have HJ3 := Lib.hid hJx3
              clear hJx3 hkb hkx hy hck
              gi_wp2
              refine bodyPost_ret (results_none rfl _ _ _) rfl ?_
              exact ⟨⟨_, rfl⟩, .inr ⟨_, _, HPF.out, HJ3.out⟩⟩
          · rw [hkk] at hck
            have HST2 : Hid (L = pre ++ joinL ltI k0 k1 k2 ([] : List Int) q) := by have h := HST.out; rw [if_neg (by rw [hkk]; decide)] at h; show L = _; rw [h]; simp
            have HJ3 : Hid (J X1 pre (wr.drewN q9)) := HJ.out.step HJ0.out (StepX.of_below (below_drewN (Below.refl _ _) _))
            clear hkk
            gi_wp2
            go_roundw
            case rel => exact ⟨([] : List Int), q, pre, ap, (some ⟨gq, tl1 oq cq, none⟩), cp, (cq - 1), by have := HNP.out; omega, by have := HNQ.out; omega, by rw [HNP.out], by rw [HNQ.out], HPX.out.drewN q9, HQX.out.drewN q9, HST2.out, HJ3.out, HB30.out⟩
            case measure => simp [lenV]; try omega
      · obtain ⟨gp, op, rfl, hcx, hcp1, hrp2⟩ := HRP.out.head
        have hlep := HRP.out.le
        rw [List.length_cons] at hlep hpl
        rcases q with _ | ⟨y, q⟩
        · have HST : Hid (L = pre ++ ((if k0 = true then [x] else []) ++ joinL ltI k0 k1 k2 p [])) := by have e := HPRE.out; rw [joinL] at e; exact e
          have HPX := Lib.hid hrp2
          have HQX := Lib.hid HRQ.out
          have HNQ : Hid (([] : List Int).length = 0) := rfl
          have hx0 : ∀ W, (Instr.indexAt 31 (.slice (some ⟨gp, op, none⟩) (p.length + 1) cp) (.int .i64 0)).run Try.prog W = .ok (.pointer (some ⟨gp, op, none⟩)) W := fun W => run_ix (P := Try.prog) 31 (by kernel_rfl) size_sI (some ⟨gp, op, none⟩) (p.length + 1) cp (.inr rfl) .i64 W 0 (by omega)
          have ht0 : ∀ W, (Instr.slice 31 (.slice (some ⟨gp, op, none⟩) (p.length + 1) cp) (some (.int .i64 1)) none none).run Try.prog W = .ok (.slice (some ⟨gp, tl1 op cp, none⟩) p.length (cp - 1)) W := fun W => run_tail1 W 31 3 Try.underlying31 (fun w => by kernel_rfl) gp op (p.length + 1) cp (by omega) (by omega)
          have hz : ¬ ((p.length : Int) + 1 = 0) := by omega
          have hz2 : (0 : Int) < (p.length : Int) + 1 := by omega
          have hz3 : ((p.length : Int) + 1 == 0) = false := by simp; omega
          simp only [List.length_cons, List.length_nil]
          generalize hnp : p.length = np0 at *
          have HNP := Lib.hid hnp
          clear hrp2 HRQ HRP HPRE hnp hql
          gi_wp2
          gi_quiet (fail)
          revert nq; intro q1
          gi_wp2
          gi_quiet (fail)
          simp only [World.drewN_drewN]
          generalize q1 + nq = q9
          clear hx0 ht0 hz hz2 hz3 hcx
          have hck : (wr.drewN q9).cell? ⟨B3, 0, none⟩ = some (.bool k0) := by have h := HB30.out; simp [World.cell?, World.drewN, h]
          rcases Bool.eq_false_or_eq_true k0 with hkk | hkk
          · rw [hkk] at hck
            have hlen : pre.length < L.length := by have h := HST.out; rw [if_pos hkk] at h; rw [h]; simp
            have HST2 : Hid (L = (pre ++ [x]) ++ joinL ltI k0 k1 k2 p ([] : List Int)) := by have h := HST.out; rw [if_pos hkk] at h; show L = _; rw [h]; simp
            obtain ⟨fn, tmps, assign, body, hy, hR⟩ := HY.out X1 pre x (wr.drewN q9) (HJ.out.step HJ0.out (StepX.of_below (below_drewN (Below.refl _ _) _))) hlen
            have HYR := Lib.hid hR
            clear hR hkk
            gi_wp2
            refine HYR.out.mono ?_
            rintro e0 W3 ⟨hkx, hkb, (⟨rfl, hJ3⟩ | ⟨rfl, hJx3⟩)⟩
            · have HJ3 := Lib.hid hJ3
              have HP3 := Lib.hid ((HPX.out.drewN q9).keep hkx)
              have HQ3 := Lib.hid ((HQX.out.drewN q9).keep hkx)
              have HB33 := Lib.hid ((hkb.block B3 (Array.getElem?_eq_some_iff.1 HB30.out).1 hK3).trans HB30.out)
              clear hJ3 hkb hkx hy hck
              gi_wp2
              go_roundw
              case rel => exact ⟨p, ([] : List Int), pre ++ [x], (some ⟨gp, tl1 op cp, none⟩), aq, (cp - 1), cq, by have := HNP.out; omega, by have := HNQ.out; omega, by rw [HNP.out], by rw [HNQ.out], HP3.out, HQ3.out, HST2.out, HJ3.out, HB33.out⟩
              case measure => simp [lenV]; try omega
            · have HPF : Hid (pre ++ [x] <+: joinL ltI k0 k1 k2 la lb) := by show _ <+: _; rw [HL.out, HST2.out]; exact List.prefix_append _ _
              have HJ3 := Lib.hid hJx3
              clear hJx3 hkb hkx hy hck
              gi_wp2
              refine bodyPost_ret (results_none rfl _ _ _) rfl ?_
              exact ⟨⟨_, rfl⟩, .inr ⟨_, _, HPF.out, HJ3.out⟩⟩
          · rw [hkk] at hck
            have HST2 : Hid (L = pre ++ joinL ltI k0 k1 k2 p ([] : List Int)) := by have h := HST.out; rw [if_neg (by rw [hkk]; decide)] at h; show L = _; rw [h]; simp
            have HJ3 : Hid (J X1 pre (wr.drewN q9)) := HJ.out.step HJ0.out (StepX.of_below (below_drewN (Below.refl _ _) _))
            clear hkk
            gi_wp2
            go_roundw
            case rel => exact ⟨p, ([] : List Int), pre, (some ⟨gp, tl1 op cp, none⟩), aq, (cp - 1), cq, by have := HNP.out; omega, by have := HNQ.out; omega, by rw [HNP.out], by rw [HNQ.out], HPX.out.drewN q9, HQX.out.drewN q9, HST2.out, HJ3.out, HB30.out⟩
            case measure => simp [lenV]; try omega
        · obtain ⟨gq, oq, rfl, hcy, hcq1, hrq2⟩ := HRQ.out.head
          have hleq := HRQ.out.le
          rw [List.length_cons] at hleq hql
          have HPA := Lib.hid HRP.out
          have HQA := Lib.hid HRQ.out
          have HPB := Lib.hid hrp2
          have HQB := Lib.hid hrq2
          have hx0p : ∀ W, (Instr.indexAt 31 (.slice (some ⟨gp, op, none⟩) (p.length + 1) cp) (.int .i64 0)).run Try.prog W = .ok (.pointer (some ⟨gp, op, none⟩)) W := fun W => run_ix (P := Try.prog) 31 (by kernel_rfl) size_sI (some ⟨gp, op, none⟩) (p.length + 1) cp (.inr rfl) .i64 W 0 (by omega)
          have ht0p : ∀ W, (Instr.slice 31 (.slice (some ⟨gp, op, none⟩) (p.length + 1) cp) (some (.int .i64 1)) none none).run Try.prog W = .ok (.slice (some ⟨gp, tl1 op cp, none⟩) p.length (cp - 1)) W := fun W => run_tail1 W 31 3 Try.underlying31 (fun w => by kernel_rfl) gp op (p.length + 1) cp (by omega) (by omega)
          have hzp : ¬ ((p.length : Int) + 1 = 0) := by omega
          have hz2p : (0 : Int) < (p.length : Int) + 1 := by omega
          have hz3p : ((p.length : Int) + 1 == 0) = false := by simp; omega
          have hx0q : ∀ W, (Instr.indexAt 31 (.slice (some ⟨gq, oq, none⟩) (q.length + 1) cq) (.int .i64 0)).run Try.prog W = .ok (.pointer (some ⟨gq, oq, none⟩)) W := fun W => run_ix (P := Try.prog) 31 (by kernel_rfl) size_sI (some ⟨gq, oq, none⟩) (q.length + 1) cq (.inr rfl) .i64 W 0 (by omega)
          have ht0q : ∀ W, (Instr.slice 31 (.slice (some ⟨gq, oq, none⟩) (q.length + 1) cq) (some (.int .i64 1)) none none).run Try.prog W = .ok (.slice (some ⟨gq, tl1 oq cq, none⟩) q.length (cq - 1)) W := fun W => run_tail1 W 31 3 Try.underlying31 (fun w => by kernel_rfl) gq oq (q.length + 1) cq (by omega) (by omega)
          have hzq : ¬ ((q.length : Int) + 1 = 0) := by omega
          have hz2q : (0 : Int) < (q.length : Int) + 1 := by omega
          have hz3q : ((q.length : Int) + 1 == 0) = false := by simp; omega
          have HC1 := Lib.hid (fun W => cmpI x y W)
          have HC2 := Lib.hid (fun W => cmpI y x W)
          have hS := HPRE.out
          rw [joinL] at hS
          have n1 : cmpf ltI x y < 0 ↔ ltI x y = true := by have := cmpf_neg ltI x y; cases h : ltI x y <;> rw [h] at this <;> simp at this <;> simp; all_goals omega
          have n2 : cmpf ltI y x < 0 ↔ ltI y x = true := by have := cmpf_neg ltI y x; cases h : ltI y x <;> rw [h] at this <;> simp at this <;> simp; all_goals omega
          simp only [List.length_cons]
          generalize hnp : p.length = np0 at *
          generalize hnq : q.length = nq0 at *
          generalize cmpf ltI x y = r1 at *
          generalize cmpf ltI y x = r2 at *
          have HLP : Hid (p.length = np0) := hnp
          have HLQ : Hid (q.length = nq0) := hnq
          clear hrp2 hrq2 HRP HRQ HPRE hnp hnq
          by_cases hxy : ltI x y = true
          · have t1 : r1 < 0 := n1.2 hxy
            rw [if_pos hxy] at hS
            have HST := Lib.hid hS
            have HPX := Lib.hid HPB.out
            have HQX := Lib.hid HQA.out
            have HNP := Lib.hid HLP.out
            have HNQ : Hid ((y :: q).length = nq0 + 1) := by show _ = _; rw [List.length_cons, HLQ.out]
            clear n1 n2 hxy hS HC2 HPB HQA HPA HQB
            gi_wp2
            gi_quiet (first | (gi_at_call 69; refine CallsIn.quiet_of_same (callsIn_wide.2 (HC1.out _))))
            revert nq; intro q1
            gi_wp2
            gi_quiet (fail)
            simp only [World.drewN_drewN]
            generalize q1 + nq = q9
            clear hx0p ht0p hzp hz2p hz3p hx0q ht0q hzq hz2q hz3q hcx hcy t1
            have hck : (wr.drewN q9).cell? ⟨B3, 0, none⟩ = some (.bool k0) := by have h := HB30.out; simp [World.cell?, World.drewN, h]
            rcases Bool.eq_false_or_eq_true k0 with hkk | hkk
            · rw [hkk] at hck
              have hlen : pre.length < L.length := by have h := HST.out; rw [if_pos hkk] at h; rw [h]; simp
              have HST2 : Hid (L = (pre ++ [x]) ++ joinL ltI k0 k1 k2 p (y :: q)) := by have h := HST.out; rw [if_pos hkk] at h; show L = _; rw [h]; simp
              obtain ⟨fn, tmps, assign, body, hy, hR⟩ := HY.out X1 pre x (wr.drewN q9) (HJ.out.step HJ0.out (StepX.of_below (below_drewN (Below.refl _ _) _))) hlen
              have HYR := Lib.hid hR
              clear hR hkk
              gi_wp2
              refine HYR.out.mono ?_
              rintro e0 W3 ⟨hkx, hkb, (⟨rfl, hJ3⟩ | ⟨rfl, hJx3⟩)⟩
              · have HJ3 := Lib.hid hJ3
                have HP3 := Lib.hid ((HPX.out.drewN q9).keep hkx)
                have HQ3 := Lib.hid ((HQX.out.drewN q9).keep hkx)
                have HB33 := Lib.hid ((hkb.block B3 (Array.getElem?_eq_some_iff.1 HB30.out).1 hK3).trans HB30.out)
                clear hJ3 hkb hkx hy hck
                gi_wp2
                go_roundw
                case rel => exact ⟨p, (y :: q), pre ++ [x], (some ⟨gp, tl1 op cp, none⟩), (some ⟨gq, oq, none⟩), (cp - 1), cq, by have := HNP.out; omega, by have := HNQ.out; omega, by rw [HNP.out], by rw [HNQ.out], HP3.out, HQ3.out, HST2.out, HJ3.out, HB33.out⟩
                case measure => simp [lenV]; try omega
              · have HPF : Hid (pre ++ [x] <+: joinL ltI k0 k1 k2 la lb) := by show _ <+: _; rw [HL.out, HST2.out]; exact List.prefix_append _ _
                have HJ3 := Lib.hid hJx3
                clear hJx3 hkb hkx hy hck
                gi_wp2
                refine bodyPost_ret (results_none rfl _ _ _) rfl ?_
                exact ⟨⟨_, rfl⟩, .inr ⟨_, _, HPF.out, HJ3.out⟩⟩
            · rw [hkk] at hck
              have HST2 : Hid (L = pre ++ joinL ltI k0 k1 k2 p (y :: q)) := by have h := HST.out; rw [if_neg (by rw [hkk]; decide)] at h; show L = _; rw [h]; simp
              have HJ3 : Hid (J X1 pre (wr.drewN q9)) := HJ.out.step HJ0.out (StepX.of_below (below_drewN (Below.refl _ _) _))
              clear hkk
              gi_wp2
              go_roundw
              case rel => exact ⟨p, (y :: q), pre, (some ⟨gp, tl1 op cp, none⟩), (some ⟨gq, oq, none⟩), (cp - 1), cq, by have := HNP.out; omega, by have := HNQ.out; omega, by rw [HNP.out], by rw [HNQ.out], HPX.out.drewN q9, HQX.out.drewN q9, HST2.out, HJ3.out, HB30.out⟩
              case measure => simp [lenV]; try omega
          · have t1 : ¬ r1 < 0 := fun h => hxy (n1.1 h)
            rw [if_neg hxy] at hS
            by_cases hyx : ltI y x = true
            · have t2 : r2 < 0 := n2.2 hyx
              rw [if_pos hyx] at hS
              have HST := Lib.hid hS
              have HPX := Lib.hid HPA.out
              have HQX := Lib.hid HQB.out
              have HNP : Hid ((x :: p).length = np0 + 1) := by show _ = _; rw [List.length_cons, HLP.out]
              have HNQ := Lib.hid HLQ.out
              clear n1 n2 hxy hyx hS HPB HQA HPA HQB
              gi_wp2
              gi_quiet (first | (gi_at_call 69; refine CallsIn.quiet_of_same (callsIn_wide.2 (HC1.out _))))
              replace hcx : (wr.drewN nq).cell? ⟨gp, op, none⟩ = some (Value.int .i64 x) := hcx
              replace hcy : (wr.drewN nq).cell? ⟨gq, oq, none⟩ = some (Value.int .i64 y) := hcy
              replace HPX := Lib.hid (HPX.out.drewN nq)
              replace HQX := Lib.hid (HQX.out.drewN nq)
              replace HJ0 : Hid (J X1 pre (wr.drewN nq)) := HJ.out.step HJ0.out (StepX.of_below (below_drewN (Below.refl _ _) _))
              replace HB30 : Hid ((wr.drewN nq).heap[B3]? = some (.cells #[.bool k0, .bool k1, .bool k2] 104)) := HB30.out
              generalize wr.drewN nq = wr at *
              gi_wp2
              gi_quiet (first | (gi_at_call 69; refine CallsIn.quiet_of_same (callsIn_wide.2 (HC2.out _))))
              revert nq; intro q2
              gi_wp2
              gi_quiet (fail)
              simp only [World.drewN_drewN]
              generalize q2 + nq = q9
              clear hx0p ht0p hzp hz2p hz3p hx0q ht0q hzq hz2q hz3q hcx hcy t1 t2
              have hck : (wr.drewN q9).cell? ⟨B3, 1, none⟩ = some (.bool k1) := by have h := HB30.out; simp [World.cell?, World.drewN, h]
              rcases Bool.eq_false_or_eq_true k1 with hkk | hkk
              · rw [hkk] at hck
                have hlen : pre.length < L.length := by have h := HST.out; rw [if_pos hkk] at h; rw [h]; simp
                have HST2 : Hid (L = (pre ++ [y]) ++ joinL ltI k0 k1 k2 (x :: p) q) := by have h := HST.out; rw [if_pos hkk] at h; show L = _; rw [h]; simp
                obtain ⟨fn, tmps, assign, body, hy, hR⟩ := HY.out X1 pre y (wr.drewN q9) (HJ.out.step HJ0.out (StepX.of_below (below_drewN (Below.refl _ _) _))) hlen
                have HYR := Lib.hid hR
                clear hR hkk
                gi_wp2
                refine HYR.out.mono ?_
                rintro e0 W3 ⟨hkx, hkb, (⟨rfl, hJ3⟩ | ⟨rfl, hJx3⟩)⟩
                · have HJ3 := Lib.hid hJ3
                  have HP3 := Lib.hid ((HPX.out.drewN q9).keep hkx)
                  have HQ3 := Lib.hid ((HQX.out.drewN q9).keep hkx)
                  have HB33 := Lib.hid ((hkb.block B3 (Array.getElem?_eq_some_iff.1 HB30.out).1 hK3).trans HB30.out)
                  clear hJ3 hkb hkx hy hck
                  gi_wp2
                  go_roundw
                  case rel => exact ⟨(x :: p), q, pre ++ [y], (some ⟨gp, op, none⟩), (some ⟨gq, tl1 oq cq, none⟩), cp, (cq - 1), by have := HNP.out; omega, by have := HNQ.out; omega, by rw [HNP.out], by rw [HNQ.out], HP3.out, HQ3.out, HST2.out, HJ3.out, HB33.out⟩
                  case measure => simp [lenV]; try omega
                · have HPF : Hid (pre ++ [y] <+: joinL ltI k0 k1 k2 la lb) := by show _ <+: _; rw [HL.out, HST2.out]; exact List.prefix_append _ _
                  have HJ3 := Lib.hid hJx3
                  clear hJx3 hkb hkx hy hck
                  gi_wp2
                  refine bodyPost_ret (results_none rfl _ _ _) rfl ?_
                  exact ⟨⟨_, rfl⟩, .inr ⟨_, _, HPF.out, HJ3.out⟩⟩
              · rw [hkk] at hck
                have HST2 : Hid (L = pre ++ joinL ltI k0 k1 k2 (x :: p) q) := by have h := HST.out; rw [if_neg (by rw [hkk]; decide)] at h; show L = _; rw [h]; simp
                have HJ3 : Hid (J X1 pre (wr.drewN q9)) := HJ.out.step HJ0.out (StepX.of_below (below_drewN (Below.refl _ _) _))
                clear hkk
                gi_wp2
                go_roundw
                case rel => exact ⟨(x :: p), q, pre, (some ⟨gp, op, none⟩), (some ⟨gq, tl1 oq cq, none⟩), cp, (cq - 1), by have := HNP.out; omega, by have := HNQ.out; omega, by rw [HNP.out], by rw [HNQ.out], HPX.out.drewN q9, HQX.out.drewN q9, HST2.out, HJ3.out, HB30.out⟩
                case measure => simp [lenV]; try omega
            · have t2 : ¬ r2 < 0 := fun h => hyx (n2.1 h)
              rw [if_neg hyx] at hS
              have HST := Lib.hid hS
              have HPX := Lib.hid HPB.out
              have HQX := Lib.hid HQB.out
              have HNP := Lib.hid HLP.out
              have HNQ := Lib.hid HLQ.out
              clear n1 n2 hxy hyx hS HPB HQA HPA HQB
              gi_wp2
              gi_quiet (first | (gi_at_call 69; refine CallsIn.quiet_of_same (callsIn_wide.2 (HC1.out _))))
              replace hcx : (wr.drewN nq).cell? ⟨gp, op, none⟩ = some (Value.int .i64 x) := hcx
              replace hcy : (wr.drewN nq).cell? ⟨gq, oq, none⟩ = some (Value.int .i64 y) := hcy
              replace HPX := Lib.hid (HPX.out.drewN nq)
              replace HQX := Lib.hid (HQX.out.drewN nq)
              replace HJ0 : Hid (J X1 pre (wr.drewN nq)) := HJ.out.step HJ0.out (StepX.of_below (below_drewN (Below.refl _ _) _))
              replace HB30 : Hid ((wr.drewN nq).heap[B3]? = some (.cells #[.bool k0, .bool k1, .bool k2] 104)) := HB30.out
              generalize wr.drewN nq = wr at *
              gi_wp2
              gi_quiet (first | (gi_at_call 69; refine CallsIn.quiet_of_same (callsIn_wide.2 (HC2.out _))))
              revert nq; intro q2
              gi_wp2
              gi_quiet (fail)
              simp only [World.drewN_drewN]
              generalize q2 + nq = q9
              clear hx0p ht0p hzp hz2p hz3p hx0q ht0q hzq hz2q hz3q hcx hcy t1 t2
              have hck : (wr.drewN q9).cell? ⟨B3, 2, none⟩ = some (.bool k2) := by have h := HB30.out; simp [World.cell?, World.drewN, h]
              rcases Bool.eq_false_or_eq_true k2 with hkk | hkk
              · rw [hkk] at hck
                have hlen : pre.length < L.length := by have h := HST.out; rw [if_pos hkk] at h; rw [h]; simp
                have HST2 : Hid (L = (pre ++ [x]) ++ joinL ltI k0 k1 k2 p q) := by have h := HST.out; rw [if_pos hkk] at h; show L = _; rw [h]; simp
                obtain ⟨fn, tmps, assign, body, hy, hR⟩ := HY.out X1 pre x (wr.drewN q9) (HJ.out.step HJ0.out (StepX.of_below (below_drewN (Below.refl _ _) _))) hlen
                have HYR := Lib.hid hR
                clear hR hkk
                gi_wp2
                refine HYR.out.mono ?_
                rintro e0 W3 ⟨hkx, hkb, (⟨rfl, hJ3⟩ | ⟨rfl, hJx3⟩)⟩
                · have HJ3 := Lib.hid hJ3
                  have HP3 := Lib.hid ((HPX.out.drewN q9).keep hkx)
                  have HQ3 := Lib.hid ((HQX.out.drewN q9).keep hkx)
                  have HB33 := Lib.hid ((hkb.block B3 (Array.getElem?_eq_some_iff.1 HB30.out).1 hK3).trans HB30.out)
                  clear hJ3 hkb hkx hy hck
                  gi_wp2
                  go_roundw
                  case rel => exact ⟨p, q, pre ++ [x], (some ⟨gp, tl1 op cp, none⟩), (some ⟨gq, tl1 oq cq, none⟩), (cp - 1), (cq - 1), by have := HNP.out; omega, by have := HNQ.out; omega, by rw [HNP.out], by rw [HNQ.out], HP3.out, HQ3.out, HST2.out, HJ3.out, HB33.out⟩
                  case measure => simp [lenV]; try omega
                · have HPF : Hid (pre ++ [x] <+: joinL ltI k0 k1 k2 la lb) := by show _ <+: _; rw [HL.out, HST2.out]; exact List.prefix_append _ _
                  have HJ3 := Lib.hid hJx3
                  clear hJx3 hkb hkx hy hck
                  gi_wp2
                  refine bodyPost_ret (results_none rfl _ _ _) rfl ?_
                  exact ⟨⟨_, rfl⟩, .inr ⟨_, _, HPF.out, HJ3.out⟩⟩
              · rw [hkk] at hck
                have HST2 : Hid (L = pre ++ joinL ltI k0 k1 k2 p q) := by have h := HST.out; rw [if_neg (by rw [hkk]; decide)] at h; show L = _; rw [h]; simp
                have HJ3 : Hid (J X1 pre (wr.drewN q9)) := HJ.out.step HJ0.out (StepX.of_below (below_drewN (Below.refl _ _) _))
                clear hkk
                gi_wp2
                go_roundw
                case rel => exact ⟨p, q, pre, (some ⟨gp, tl1 op cp, none⟩), (some ⟨gq, tl1 oq cq, none⟩), (cp - 1), (cq - 1), by have := HNP.out; omega, by have := HNQ.out; omega, by rw [HNP.out], by rw [HNQ.out], HPX.out.drewN q9, HQX.out.drewN q9, HST2.out, HJ3.out, HB30.out⟩
                case measure => simp [lenV]; try omega
  gi_region_with (first
    | (gi_at_call 106; refine (callsIn_wide.2 (HA.out _ HW.out.drew)).mono ?_; rintro e w1 ⟨va, rfl, hoa, hba⟩; obtain ⟨aa, ca, rfl, _⟩ := Row.of_owns hoa; have HOA := Lib.hid hoa; have HBA := Lib.hid (below_undrew hba); have HBA2 := Lib.hid (HW.out.trans (HBA.out.mono hsW)); have d3 := HC2.out w1 HBA2.out; clear hoa hba)
    | (gi_at_call 106; refine (callsIn_wide.2 (HB.out _ HBA2.out)).mono ?_; rintro e w2 ⟨vb, rfl, hob, hbb⟩; obtain ⟨ab, cb, rfl, _⟩ := Row.of_owns hob; have HOB := Lib.hid hob; have HBB := Lib.hid hbb; clear hob hbb))
  all_goals
    change Exit.then _ _ _ (Act.put (Act.put _ (some 5) _) (some 6) _) _
    go_frame
    have hb02 : Below W.heap.size W w2 := below_next HBA.out HBB.out HBA.out.size
    refine hend (fun b => W.heap.size ≤ b ∧ b < w2.heap.size) w2 aa ab ca cb ?_ ?_ (HJ.out _ _ _ _ _ H0.out (StepX.of_below hb02) (fun b hb => .inr hb)) (HB3.out w2 (HW.out.trans (hb02.mono hsW))) (fun h => by have := HLT3.out; omega)
    · have ho := owns_below HOA.out HBB.out
      have hr := row_ofI ho
      refine ⟨hr, ?_, ?_⟩
      · obtain ⟨a9, c9, e9, h9, _⟩ := Row.of_owns ho
        injection e9 with e1 e2 e3; omega
      · rcases Nat.eq_zero_or_pos la.length with h | h
        · exact .inl h
        · exact .inr ⟨(owns_row ho).2.resolve_left (by omega), hr.lt h⟩
    · have ho := HOB.out
      have hr := row_ofI ho
      refine ⟨hr, ?_, ?_⟩
      · obtain ⟨a9, c9, e9, h9, _⟩ := Row.of_owns ho
        injection e9 with e1 e2 e3; omega
      · rcases Nat.eq_zero_or_pos lb.length with h | h
        · exact .inl h
        · exact .inr ⟨Nat.le_trans HBA.out.size ((owns_row ho).2.resolve_left (by omega)), hr.lt h⟩
theorem egjI : ∀ args W, (callFunc 105 args).run Try.prog W = .ok (.enter 105 args) W := enters_of Try.func105 (by kernel_rfl) rfl
set_option maxRecDepth 100000 in
theorem joinFI {Da Db : Nat → Prop} (w : World) (fa fb : Value) (la lb : List Int) (k0 k1 k2 : Bool) (hA : Iter1 (fun x : Int => (Value.int .i64 x : Value)) Da fa la w) (hB : Iter1 (fun x : Int => (Value.int .i64 x : Value)) Db fb lb w) (hla : la.length ≤ 100000) (hlb : lb.length ≤ 100000) :
    Calls Try.prog 72 #[fa, fb, .agg #[.bool k0, .bool k1, .bool k2]] w fun e w' => e = .returned (.func (.func 105) #[] #[.pointer (some ⟨w.heap.size, 0, none⟩), .pointer (some ⟨w.heap.size + 1, 0, none⟩), .pointer (some ⟨w.heap.size + 2, 0, none⟩)]) ∧
      Iter1 (fun x : Int => (Value.int .i64 x : Value)) (fun b => b = w.heap.size + 2) (.func (.func 105) #[] #[.pointer (some ⟨w.heap.size, 0, none⟩), .pointer (some ⟨w.heap.size + 1, 0, none⟩), .pointer (some ⟨w.heap.size + 2, 0, none⟩)]) (joinL ltI k0 k1 k2 la lb) w' ∧ Below w.heap.size w w' := by
  have hca : fa = .nilFunc ∨ ∃ gf lb, fa = .func (.func gf) #[] lb := hA.elim (fun h => .inl h.1) (fun ⟨gf, lb, h, _⟩ => .inr ⟨gf, lb, h⟩)
  have hcb : fb = .nilFunc ∨ ∃ gf lb, fb = .func (.func gf) #[] lb := hB.elim (fun h => .inl h.1) (fun ⟨gf, lb, h, _⟩ => .inr ⟨gf, lb, h⟩)
  obtain ⟨w3, hw3⟩ : ∃ w3, w3 = ((w.alloc (.cells #[fa] 46)).alloc (.cells #[fb] 46)).alloc (.cells #[.bool k0, .bool k1, .bool k2] 104) := ⟨_, rfl⟩
  have hb3 : Below w.heap.size w w3 := by rw [hw3]; exact (((Below.refl _ w).alloc (Nat.le_refl _) _).alloc (by simp) _).alloc (by simp; omega) _
  have x1 : Boxed w3 w.heap.size 46 fa := by rw [hw3]; exact ((Boxed.new _ _ _).alloc _).alloc _
  have x2 : Boxed w3 (w.heap.size + 1) 46 fb := by rw [hw3]; have := (Boxed.new (w.alloc (.cells #[fa] 46)) 46 fb).alloc (.cells #[.bool k0, .bool k1, .bool k2] 104); rwa [World.size_alloc] at this
  have x3 : w3.heap[w.heap.size + 2]? = some (.cells #[.bool k0, .bool k1, .bool k2] 104) := by
    rw [hw3]
    have := heap_alloc_new ((w.alloc (.cells #[fa] 46)).alloc (.cells #[fb] 46)) (.cells #[.bool k0, .bool k1, .bool k2] 104)
    rw [World.size_alloc, World.size_alloc] at this
    exact this
  have HIT : Hid (Iter1 (fun x : Int => (Value.int .i64 x : Value)) (fun b => b = w.heap.size + 2) (.func (.func 105) #[] #[.pointer (some ⟨w.heap.size, 0, none⟩), .pointer (some ⟨w.heap.size + 1, 0, none⟩), .pointer (some ⟨w.heap.size + 2, 0, none⟩)]) (joinL ltI k0 k1 k2 la lb) w3) := by
    refine .inr ⟨_, _, rfl, egjI, fun b h => ?_, fun n hn K hK => ?_⟩
    · have := (Array.getElem?_eq_some_iff.1 x3).1
      rw [h]; exact this
    · exact join1I Da Db n hn K w3 _ _ _ fa fb la lb k0 k1 k2 (hA.kept hb3) (hB.kept hb3) hla hlb x1.cell x2.cell x3 (hK _ rfl)
  have HW3 := Lib.hid hw3
  have HB3 := Lib.hid hb3
  clear hw3 hb3 x1 x2 x3 hA hB
  rcases hca with rfl | ⟨ga, xa, rfl⟩ <;> rcases hcb with rfl | ⟨gb, xb, rfl⟩
  all_goals
    go_enter Try.func72, Try.ntmps72
    go_wp2
    go_ret
    rw [HW3.out] at HIT HB3
    exact ⟨rfl, HIT.out, HB3.out⟩
set_option maxRecDepth 100000 in
theorem UnionI (Da Db : Nat → Prop) (w : World) (fa fb : Value) (la lb : List Int) (hA : Iter1 (fun x : Int => (Value.int .i64 x : Value)) Da fa la w) (hB : Iter1 (fun x : Int => (Value.int .i64 x : Value)) Db fb lb w) (hla : la.length ≤ 100000) (hlb : lb.length ≤ 100000) :
    Calls Try.prog 26 #[fa, fb] w fun e w' => ∃ fv, e = .returned fv ∧ fv ≠ .nilFunc ∧ Iter1 (fun x : Int => (Value.int .i64 x : Value)) (fun b => b = w.heap.size + 2) fv (unL ltI la lb) w' ∧ Below w.heap.size w w' := by
  have HJ := Lib.hid (joinFI w fa fb la lb true true true hA hB hla hlb)
  clear hA hB
  go_enter Try.func26, Try.ntmps26
  go_wp2_with (go_at_call 72; refine HJ.out.mono ?_; rintro e w' ⟨rfl, h⟩; have H := Lib.hid h; clear h)
  go_ret
  exact ⟨_, rfl, by simp, H.out.1, H.out.2⟩
set_option maxRecDepth 100000 in
theorem BothI (Da Db : Nat → Prop) (w : World) (fa fb : Value) (la lb : List Int) (hA : Iter1 (fun x : Int => (Value.int .i64 x : Value)) Da fa la w) (hB : Iter1 (fun x : Int => (Value.int .i64 x : Value)) Db fb lb w) (hla : la.length ≤ 100000) (hlb : lb.length ≤ 100000) :
    Calls Try.prog 27 #[fa, fb] w fun e w' => ∃ fv, e = .returned fv ∧ fv ≠ .nilFunc ∧ Iter1 (fun x : Int => (Value.int .i64 x : Value)) (fun b => b = w.heap.size + 2) fv (boL ltI la lb) w' ∧ Below w.heap.size w w' := by
  have HJ := Lib.hid (joinFI w fa fb la lb false false true hA hB hla hlb)
  clear hA hB
  go_enter Try.func27, Try.ntmps27
  go_wp2_with (go_at_call 72; refine HJ.out.mono ?_; rintro e w' ⟨rfl, h⟩; have H := Lib.hid h; clear h)
  go_ret
  exact ⟨_, rfl, by simp, H.out.1, H.out.2⟩
set_option maxRecDepth 100000 in
theorem LessI (Da Db : Nat → Prop) (w : World) (fa fb : Value) (la lb : List Int) (hA : Iter1 (fun x : Int => (Value.int .i64 x : Value)) Da fa la w) (hB : Iter1 (fun x : Int => (Value.int .i64 x : Value)) Db fb lb w) (hla : la.length ≤ 100000) (hlb : lb.length ≤ 100000) :
    Calls Try.prog 29 #[fa, fb] w fun e w' => ∃ fv, e = .returned fv ∧ fv ≠ .nilFunc ∧ Iter1 (fun x : Int => (Value.int .i64 x : Value)) (fun b => b = w.heap.size + 2) fv (leL ltI la lb) w' ∧ Below w.heap.size w w' := by
  have HJ := Lib.hid (joinFI w fa fb la lb true false false hA hB hla hlb)
  clear hA hB
  go_enter Try.func29, Try.ntmps29
  go_wp2_with (go_at_call 72; refine HJ.out.mono ?_; rintro e w' ⟨rfl, h⟩; have H := Lib.hid h; clear h)
  go_ret
  exact ⟨_, rfl, by simp, H.out.1, H.out.2⟩
end Go.Proofs.Ytoifmfdaghmleaa
