/-
  BagRanks: a member stands at the place that its rank tells; what is From a member begins with it.
-/
import Derived.Test.YtoifmfdaghmleaaBagLawA
import Derived.Test.YtoifmfdaghmleaaRowOpen
set_option linter.unusedVariables false
namespace Go.Proofs.Ytoifmfdaghmleaa
open Go.RowKit Go.Lib Go.Sort Go.Shelf

theorem egPtr (p : Nat) (W : World) : (binOp .eql 42 (.pointer (some ⟨p, 0, none⟩)) (.pointer none)).run Try.prog W = .ok (.bool false) W := by kernel_rfl
set_option maxRecDepth 100000 in
set_option maxHeartbeats 2000000 in
theorem bagRanks_walk (w : World) (a : Option Addr) (n cap : Nat) (f : Nat → Int) (hl : n ≤ maxLen) (h : Row w a n (fun k => .int .i64 (f k)) ∧ ∀ k, k < n → (Lit.int .i64 (f k)).wf = true) :
    Calls Try.prog 8 #[.slice a n cap] w fun e w' => e = .returned (.bool true) ∧ Below w.heap.size w w' := by
  have HAW := Lib.hid (fun W => awake5_any W)
  by_cases h100 : (100 : Int) < (n : Int)
  · clear h
    go_enter Try.func8, Try.ntmps8
    go_wp2_with (go_at_call 23; refine (HAW.out _).mono ?_; rintro e w' ⟨rfl, hb⟩; have HB := Lib.hid hb; clear hb)
    go_ret
    exact ⟨rfl, HB.out⟩
  · have hr := row_listOf h.1
    have hn : n ≤ 100 := by omega
    obtain ⟨l, hL⟩ : ∃ l, l = listOf f n := ⟨_, rfl⟩
    have hll : l.length = n := by rw [hL]; exact listOf_len f n
    rw [← hL] at hr
    have HNS := Lib.hid (newSetI w a n cap l hll (by omega) hr)
    have HR := Lib.hid hr
    have HN := Lib.hid hll
    have hix := run_ix (P := Try.prog) 31 (by kernel_rfl) size_int a n cap hr.at_ .i64
    have HIX := Lib.hid hix
    clear hr h hL hll hix
    go_enter Try.func8, Try.ntmps8
    go_wp2_with fail
    refine HNS.out.mono ?_
    rintro e w1 ⟨p, v, rfl, hs, hb1, -⟩
    have hsl : (setL ltI l).length ≤ 100 := by have := setL_len (lt := ltI) l; have := HN.out; omega
    have HS := Lib.hid hs
    have HB1 := Lib.hid hb1
    have HSL := Lib.hid hsl
    have HR1 := Lib.hid (HR.out.kept hb1)
    clear hs hb1 hsl HNS
    go_wp2
    go_loopw [4, 5, 6, 7] (fun v4 _ _ _ wr => ∃ k : Nat, k ≤ n ∧ v4 = .int .i64 (k : Int) ∧ Below w1.heap.size w1 wr) (fun v4 _ _ _ _ => n - (intOf v4).toNat)
    case atStart => exact ⟨0, Nat.zero_le _, rfl, Below.refl _ _⟩
    case round =>
      obtain ⟨k, hk, rfl, hb⟩ := hrel
      have HB := Lib.hid hb
      by_cases hlt : k < n
      · have d := (HR1.out.kept hb).cell k hlt
        have hxk := fun W => HIX.out W k hlt
        have tk : (k : Int) < (n : Int) := by omega
        have hm : l.getD k 0 ∈ setL ltI l := by
          rw [(setL_is ordI l).2, List.getD_eq_getElem?_getD, List.getElem?_eq_getElem (by rw [HN.out]; exact hlt)]
          exact List.getElem_mem _
        obtain ⟨hm1, hm2⟩ := (rk_mem ordI (setL_is ordI l).1 _).1 hm
        simp only [intsF] at d
        have HRK := Lib.hid (fun W (hW : Below w1.heap.size w1 W) => rankI W p v _ (HS.out.kept hW) (by have := HSL.out; omega) (l.getD k 0))
        have hAT : ∀ W, Below w1.heap.size w1 W → Calls Try.prog 41 #[.pointer (some ⟨p, 0, none⟩), .int .i64 (rk ltI (setL ltI l) (l.getD k 0) : Nat)] W fun e w' => e = .returned (.tuple #[.int .i64 (l.getD k 0), .bool true]) ∧ w' = W := fun W hW => by
          have := atI W p v _ (HS.out.kept hW) ((rk ltI (setL ltI l) (l.getD k 0) : Nat) : Int)
          have e1 : atLI (setL ltI l) ((rk ltI (setL ltI l) (l.getD k 0) : Nat) : Int) = l.getD k 0 := by
            unfold atLI
            rw [if_pos ⟨by omega, by omega⟩, Int.toNat_natCast, List.getD_eq_getElem?_getD, List.getElem?_eq_getElem hm1, Option.getD_some, hm2]
          have e2 : decide (0 ≤ ((rk ltI (setL ltI l) (l.getD k 0) : Nat) : Int) ∧ ((rk ltI (setL ltI l) (l.getD k 0) : Nat) : Int) < ((setL ltI l).length : Int)) = true := decide_eq_true ⟨by omega, by omega⟩
          rw [e1, e2] at this
          exact this
        have HAT := Lib.hid hAT
        have HFR := Lib.hid (fun W (hW : Below w1.heap.size w1 W) => fromI W p v _ (HS.out.kept hW) (by have := HSL.out; omega) (l.getD k 0))
        have HHAS := Lib.hid (fun W (hW : Below w1.heap.size w1 W) => show Calls Try.prog 44 #[.pointer (some ⟨p, 0, none⟩), .int .i64 (l.getD k 0)] W fun e w' => e = .returned (.bool true) ∧ w' = W by
          have := hasI W p v _ (HS.out.kept hW) (by have := HSL.out; omega) (l.getD k 0)
          rw [memB_true hm] at this
          exact this)
        have hdr : ((setL ltI l).drop (rk ltI (setL ltI l) (l.getD k 0))).take 1 = [l.getD k 0] := by
          rw [List.drop_eq_getElem_cons hm1, hm2]; rfl
        have hdl : ((setL ltI l).drop (rk ltI (setL ltI l) (l.getD k 0))).length ≤ 1000000 := by rw [List.length_drop]; have := HSL.out; omega
        have HDR := Lib.hid hdr
        have HDL := Lib.hid hdl
        have HRW := Lib.hid (fun W (hW : Below w1.heap.size w1 W) => (HR1.out.kept hW).cell k hlt)
        simp only [intsF] at HRW
        clear hm hm1 hm2 hdr hdl hAT hb
        generalize rk ltI (setL ltI l) (l.getD k 0) = r at *
        generalize l.getD k 0 = y at *
        go_wp2_with fail
        refine (HRK.out _ HB.out).mono ?_
        rintro e w2 ⟨rfl, rfl⟩
        go_wp2_with fail
        refine (HAT.out _ HB.out).mono ?_
        rintro e w2 ⟨rfl, rfl⟩
        go_wp2_with fail
        refine (HFR.out _ HB.out).mono ?_
        rintro e w3 ⟨fv, rfl, hfv, hit, hb3⟩
        have HB3 := Lib.hid (below_next HB.out hb3 HB.out.size)
        have HFI := Lib.hid (firstI _ w3 fv _ hit HDL.out 1 (by omega))
        have hfc : fv = .nilFunc ∨ ∃ gf lb, fv = .func (.func gf) #[] lb := hit.elim (fun h => .inl h.1) (fun ⟨gf, lb, h, _⟩ => .inr ⟨gf, lb, h⟩)
        clear hit hb3 HRK HAT HFR d
        go_wp2_with fail
        refine HFI.out.mono ?_
        rintro e w4 ⟨v4, rfl, hro, hb4⟩
        rw [HDR.out] at hro
        obtain ⟨a4, c4, rfl, -⟩ := Row.of_owns hro
        have hr4 := owns_intsF hro
        have HB4 := Lib.hid (below_next HB3.out hb4 HB3.out.size)
        have d1 := HRW.out w4 HB4.out
        have d2 : w4.cell? ⟨bOf a4, oOf a4 + 0, none⟩ = some (.int .i64 y) := hr4.cell 0 (by simp)
        have ha4 : a4 = some ⟨bOf a4, oOf a4, none⟩ := hr4.at_.resolve_left (by simp)
        have hx4 : ∀ W, (Instr.indexAt 31 (.slice a4 1 c4) (.int .i64 0)).run Try.prog W = .ok (.pointer (some ⟨bOf a4, oOf a4, none⟩)) W := fun W => run_ix (P := Try.prog) 31 (by kernel_rfl) size_int a4 1 c4 (.inr ha4) .i64 W 0 (by omega)
        rw [Nat.add_zero] at d2
        have HH2 := Lib.hid (fun q => HHAS.out _ (below_drewN HB4.out q))
        clear hro hb4 hr4 HFI HB3 HRW HHAS hfc hfv ha4
        simp only [List.length_cons, List.length_nil, Nat.zero_add]
        go_wp2
        go_quiet (exact Calls.quiet_of_same (HH2.out _))
        have HBN := Lib.hid (below_drewN HB4.out nq)
        clear d1 d2 hx4 hxk HH2
        go_wp2
        go_roundw
        case rel => exact ⟨k + 1, by omega, by go_num, HBN.out⟩
        case measure => simp [intOf]; omega
      · obtain rfl : k = n := by omega
        have hd : decide ((k : Int) < (k : Int)) = false := by simp
        have HLN := Lib.hid (lenI wr p v _ (HS.out.kept hb))
        have HST := Lib.hid (set_any wr a k cap l HN.out (HR1.out.kept hb) (by omega))
        clear hb hlt
        generalize hm : (setL ltI l).length = m at *
        have HMM := Lib.hid hm
        clear hm
        go_wp2_with fail
        refine HLN.out.mono ?_
        rintro e w2 ⟨rfl, rfl⟩
        go_wp2_with fail
        refine HST.out.mono ?_
        rintro e w3 ⟨a3, c3, rfl, -, hb3⟩
        have HB3 := Lib.hid (below_next HB.out hb3 HB.out.size)
        clear hb3
        rw [HMM.out]
        go_wp2_with (go_at_call 23; refine (HAW.out _).mono ?_; rintro e w' ⟨rfl, hb⟩; have HB9 := Lib.hid (below_next HB3.out hb HB3.out.size); clear hb)
        go_ret
        exact ⟨rfl, below_next HB1.out HB9.out HB1.out.size⟩
end Go.Proofs.Ytoifmfdaghmleaa
