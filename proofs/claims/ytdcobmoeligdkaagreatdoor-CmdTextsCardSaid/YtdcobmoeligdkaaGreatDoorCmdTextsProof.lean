/-
  The statement CmdTexts as a tied card: for every command the call returns true; the listed variables of the library are tied to the program's text by the given tie.
-/
import Derived.Test.YtdcobmoeligdkaaGreatDoorRows
import Derived.Test.YtdcobmoeligdkaaGreatDoorCards
import Derived.Test.YtdcobmoeligdkaaGreatDoorTie
import Derived.Test.YtdcobmoeligdkaaGreatDoorCmdTexts
import Derived.Test.YtdcobmoeligdkaaGreatDoorCmEnv
import Derived.Test.YtdcobmoeligdkaaGreatDoorCmQOpen
import Derived.ProofKit
import Derived.OpenShut
import Derived.LaidMore
import Derived.Lay
import Derived.SevenTiedAt
import Derived.Stop.Joined
namespace Go.Proofs.YtdcobmoeligdkaaGreatDoor.cmdTextsP
open Go.ChangeShapes Go.WideShapes Go.ChangeAt Go.RowKit Go.Deep

theorem own : ownKnob Tryz.prog.godebug = none := by kernel_rfl
theorem laidOut : laidOutB Tryz.prog = true := by kernel_rfl
theorem i64_of {n : Int} (h : (Lit.int .i64 n).wf = true) : I64 n := bounds_i64 h
set_option maxRecDepth 100000 in
theorem lifted (os : Os) (started : os.Started) (H : Type) (enc : TypeId × Value → H) :
    ReturnsInHanded {} Tryz.checked os 3 .any (fun w args => (Rows.cmdTextsSpec.pre enc Tryz.prog Tryz.f3 Rows.cmdTextsRow.domain false w args ∧ laidMetH Tryz.prog Rows.cmdTextsRow.laid w) ∧ sizedMet enc Tryz.prog Tryz.f3 (OpenSpec.ofChange Rows.cmdTextsSpec) false w args)
      (Rows.cmdTextsSpec.post enc Tryz.prog Tryz.f3 false true false false) := by
  refine returns_and_shaped (C := Tryz.checked) (X := fun w _ => laidMetH Tryz.prog Rows.cmdTextsRow.laid w) (fun _ _ _ hh h => h.of_heap hh) own started (by kernel_rfl) Tryz.func3
    (ChangeSpec.witness_shaped (enc := enc) (C := Tryz.checked) (os := os) (X := fun w _ => laidMetH Tryz.prog Rows.cmdTextsRow.laid w) false (World.laidAll Tryz.prog os Rows.cmdTextsRow.laid) #[.agg #[.int .i64 0, .slice none 0 0, .int .i64 0, .int .i64 0, .int .i64 0, .int .i64 0, .slice none 0 0, .slice none 0 0]] 8 (World.laidAll_os _ _ _)
      (World.shaped_of_ZipB (by kernel_rfl) (by kernel_rfl)) (by kernel_rfl) (by kernel_rfl) (by kernel_rfl)
      (by rw [MakeChecks.laidMetH_plain _ _ _ (by kernel_rfl)]; exact laidMet_laidAll _ (by kernel_rfl) (by kernel_rfl))) ?_
  intro W base args ds gs before hval0 hW hc _ hL hsh _
  have hval : ∀ (j : Nat) t v, Tryz.f3.params[j]? = some t → args[j]? = some v → Value.okWide Tryz.prog W .any base t v := hval0
  have hE : Env W := env_of hL hsh
  have hW' := hW
  obtain ⟨p, q, hA0, hV, rfl, hfz, hnd⟩ := hW
  have hA : DataW.TrodAll enc Tryz.prog W 0 (fun _ => true) true Tryz.f3.params.toList args.toList ds p := hA0
  rw [Tryz.params3] at hA hval
  obtain ⟨v0, vs0, d0, ds0, p0, q0, hargs, rfl, rfl, h0, r0⟩ := trodAll_cons hA
  obtain ⟨rfl, rfl, rfl⟩ := trodAll_nil r0
  obtain rfl : args = #[v0] := by cases args; simp_all
  obtain ⟨rfl, rfl⟩ := trodVars_none hV
  have k0 := h0
  have lt0 : ∀ x ∈ p0, x.block < W.heap.size := by obtain ⟨m, hm⟩ := k0; exact DataW.trod_lt m _ _ _ hm
  obtain ⟨K, N, M, C, a, cap, d, q, u0, u1, u2, rfl, hd, hrow, hqa, w0, w1, w2, w3⟩ := open_cmd Tryz.underlying27 (by kernel_rfl) rfl rfl rfl rfl rfl rfl (by kernel_rfl) (by kernel_rfl) (by kernel_rfl) (by kernel_rfl) (by kernel_rfl) Tryz.underlying3 Tryz.underlying22 Tryz.underlying3 Tryz.underlying3 Tryz.underlying3 rfl
    Tryz.underlying25 (by kernel_rfl) (by kernel_rfl) Tryz.underlying3 Tryz.underlying22 Tryz.underlying5 (by kernel_rfl) Tryz.underlying23 (hval 0 27 v0 rfl rfl) h0
  clear hA0 hval0
  refine (cmdTexts_walk W hE K N M C (i64_of w0) (i64_of w1) (i64_of w2) (i64_of w3) a cap d hd hrow _ q u0 u1 u2 hqa).mono fun e W' ⟨he, bel⟩ => ?_
  subst he
  exact ⟨_, rfl, _, _, _, [], _, [], hW', trodAll_mk1 (shut_bool Tryz.underlying4 _), (trodAll_cons_mk (Below.trod laidOut (by kernel_rfl) (of_decide_eq_true (by kernel_rfl)) k0 bel lt0) trodAll_mk0), rfl, bel.frame _, fun h => by cases h⟩

theorem holds : Rows.CmdTextsSaid :=
  OpenClaim.holds_of_wide 3 Tryz.f3 rfl rfl rfl rfl rfl rfl rfl ⟨rfl, rfl, rfl, rfl, rfl⟩ rfl rfl rfl rfl rfl (by kernel_rfl) Tryz.func3 (by kernel_rfl)
    (of_decide_eq_true (by kernel_rfl)) (by unfold Func.isWrapper; first | (rw [if_pos (by decide +kernel)]; kernel_rfl) | (rw [if_neg (by decide +kernel)]; exact ⟨rfl, rfl⟩))
    (fun os started H enc _ => lifted os started H enc)
theorem proved : Rows.CmdTextsCardSaid :=
  Claim7.holds_tied_plain_at .later [] [.data, .data, .data, .sentinel, .sentinel] true (true, "96e2094b3a2727adaed38d2b41d0c38800b9b598d6bdbace997750fcb6423908") true holds (fun _ h => by cases h) (by kernel_rfl) (fun _ h => by cases h) cmdTexts_row_tie rfl ⟨rfl, rfl⟩ (by kernel_rfl) rfl
    (fun f fn hf hfn => by
      obtain rfl : f = 3 := Option.some.inj ((show Tryz.prog.funcNamed "concordance/concordancelaw27.CmdTexts" = some 3 by kernel_rfl).symm.trans hf) |>.symm
      obtain rfl : fn = Tryz.f3 := (Option.some.inj (Tryz.func3.symm.trans hfn)).symm
      exact ⟨by kernel_rfl, fun j t ht => by
        rw [Tryz.params3] at ht
        rcases j with _ | j
        · obtain rfl := Option.some.inj ht; kernel_rfl
        · simp at ht⟩)
    (by kernel_rfl)
#print axioms proved
end Go.Proofs.YtdcobmoeligdkaaGreatDoor.cmdTextsP
