/-
  The statement CmdWords as a tied card: for every command, text and number the call returns true; the listed variables of the library are tied to the program's text by the given tie.
-/
import Derived.Test.YtdcobmoeligdkaaDoorRows
import Derived.Test.YtdcobmoeligdkaaDoorCards
import Derived.Test.YtdcobmoeligdkaaDoorTie
import Derived.Test.YtdcobmoeligdkaaDoorCmdWords
import Derived.Test.YtdcobmoeligdkaaDoorCmEnv
import Derived.Test.YtdcobmoeligdkaaDoorRowOpen
import Derived.ProofKit
import Derived.OpenShut
import Derived.LaidMore
import Derived.Lay
import Derived.SevenTiedAt
import Derived.Stop.Joined
namespace Go.Proofs.YtdcobmoeligdkaaDoor
open Go.RowKit
theorem bytes_u8 {w : World} {a1 : Option Addr} {len : Nat} {f : Nat → Int} (hr : Row w a1 len (fun k => .int .u8 (f k)) ∧ ∀ k, k < len → (Lit.int .u8 (f k)).wf = true) :
    ∃ d : List UInt8, len = d.length ∧ Row w a1 d.length (bV d) := by
  obtain ⟨hr, hwf⟩ := hr
  refine ⟨(List.range len).map fun k => UInt8.ofNat (f k).toNat, by simp, ?_⟩
  simp only [List.length_map, List.length_range]
  refine hr.congr fun k hk => ?_
  have := bounds_u8 (hwf k hk)
  have h2 : (f k).toNat < 256 := by omega
  have h3 : (f k).toNat % 256 = (f k).toNat := Nat.mod_eq_of_lt h2
  simp [bV, List.getD_eq_getElem?_getD, hk, h3]; omega
end Go.Proofs.YtdcobmoeligdkaaDoor
namespace Go.Proofs.YtdcobmoeligdkaaDoor.cmdWordsP
open Go.ChangeShapes Go.WideShapes Go.ChangeAt Go.RowKit Go.Deep

theorem own : ownKnob Tryd.prog.godebug = none := by kernel_rfl
theorem laidOut : laidOutB Tryd.prog = true := by kernel_rfl
set_option maxRecDepth 100000 in
theorem lifted (os : Os) (started : os.Started) (H : Type) (enc : TypeId × Value → H) :
    ReturnsInHanded {} Tryd.checked os 3 .any (fun w args => (Rows.cmdWordsSpec.pre enc Tryd.prog Tryd.f3 Rows.cmdWordsRow.domain false w args ∧ laidMetH Tryd.prog Rows.cmdWordsRow.laid w) ∧ sizedMet enc Tryd.prog Tryd.f3 (OpenSpec.ofChange Rows.cmdWordsSpec) false w args)
      (Rows.cmdWordsSpec.post enc Tryd.prog Tryd.f3 false true false false) := by
  refine returns_and_shaped (C := Tryd.checked) (X := fun w _ => laidMetH Tryd.prog Rows.cmdWordsRow.laid w) (fun _ _ _ hh h => h.of_heap hh) own started (by kernel_rfl) Tryd.func3
    (ChangeSpec.witness_shaped (enc := enc) (C := Tryd.checked) (os := os) (X := fun w _ => laidMetH Tryd.prog Rows.cmdWordsRow.laid w) false (World.laidAll Tryd.prog os Rows.cmdWordsRow.laid) #[.int .i64 0, .slice none 0 0, .int .i64 0] 8 (World.laidAll_os _ _ _)
      (World.shaped_of_ZipB (by kernel_rfl) (by kernel_rfl)) (by kernel_rfl) (by kernel_rfl) (by kernel_rfl)
      (by rw [MakeChecks.laidMetH_plain _ _ _ (by kernel_rfl)]; exact laidMet_laidAll _ (by kernel_rfl) (by kernel_rfl))) ?_
  intro W base args ds gs before hval0 hW hc _ hL hsh _
  have hval : ∀ (j : Nat) t v, Tryd.f3.params[j]? = some t → args[j]? = some v → Value.okWide Tryd.prog W .any base t v := hval0
  have hE : Env W := env_of hL hsh
  have hW' := hW
  obtain ⟨p, q, hA0, hV, rfl, hfz, hnd⟩ := hW
  have hA : DataW.TrodAll enc Tryd.prog W 0 (fun _ => true) true Tryd.f3.params.toList args.toList ds p := hA0
  rw [Tryd.params3] at hA hval
  obtain ⟨v0, vs0, d0, ds0, p0, q0, hargs, rfl, rfl, h0, r0⟩ := trodAll_cons hA
  obtain ⟨v1, vs1, d1, ds1, p1, q1, rfl, rfl, rfl, h1, r1⟩ := trodAll_cons r0
  obtain ⟨v2, vs2, d2, ds2, p2, q2, rfl, rfl, rfl, h2, r2⟩ := trodAll_cons r1
  obtain ⟨rfl, rfl, rfl⟩ := trodAll_nil r2
  obtain rfl : args = #[v0, v1, v2] := by cases args; simp_all
  obtain ⟨rfl, rfl⟩ := trodVars_none hV
  obtain ⟨a0, rfl, rfl, rfl, w0⟩ := open_int Tryd.underlying3 (hval 0 3 v0 rfl rfl) h0
  have k1 := h1
  have lt1 : ∀ x ∈ p1, x.block < W.heap.size := by obtain ⟨m, hm⟩ := k1; exact DataW.trod_lt m _ _ _ hm
  obtain ⟨a1, len1, cap1, f1, rfl, hl1, hr1⟩ := open_intRow Tryd.underlying22 Tryd.underlying5 (by kernel_rfl) (hval 1 22 v1 rfl rfl) h1
  obtain ⟨a2, rfl, rfl, rfl, w2⟩ := open_int Tryd.underlying3 (hval 2 3 v2 rfl rfl) h2
  obtain ⟨b, rfl, hb⟩ := bytes_u8 hr1
  clear hA0 hval0
  refine (cmdWords_walk W hE a0 w0 a1 cap1 b hl1 hb a2 w2).mono fun e W' ⟨he, bel⟩ => ?_
  subst he
  exact ⟨_, rfl, _, _, _, [], _, [], hW', trodAll_mk1 (shut_bool Tryd.underlying4 _), (trodAll_cons_mk (shut_int Tryd.underlying3 w0) (trodAll_cons_mk (Below.trod laidOut (by kernel_rfl) (of_decide_eq_true (by kernel_rfl)) k1 bel lt1) (trodAll_cons_mk (shut_int Tryd.underlying3 w2) trodAll_mk0))), rfl, bel.frame _, fun h => by cases h⟩

theorem holds : Rows.CmdWordsSaid :=
  OpenClaim.holds_of_wide 3 Tryd.f3 rfl rfl rfl rfl rfl rfl rfl ⟨rfl, rfl, rfl, rfl, rfl⟩ rfl rfl rfl rfl rfl (by kernel_rfl) Tryd.func3 (by kernel_rfl)
    (of_decide_eq_true (by kernel_rfl)) (by unfold Func.isWrapper; first | (rw [if_pos (by decide +kernel)]; kernel_rfl) | (rw [if_neg (by decide +kernel)]; exact ⟨rfl, rfl⟩))
    (fun os started H enc _ => lifted os started H enc)
theorem proved : Rows.CmdWordsCardSaid :=
  Claim7.holds_tied_plain_at .later [] [.data, .data, .data, .sentinel, .sentinel] true (true, "8cc81e1d8670a617dc0bcbcf18d15428c4f348e34579f8e5fcbc983709f17a3e") true holds (fun _ h => by cases h) (by kernel_rfl) (fun _ h => by cases h) cmdWords_row_tie rfl ⟨rfl, rfl⟩ (by kernel_rfl) rfl
    (fun f fn hf hfn => by
      obtain rfl : f = 3 := Option.some.inj ((show Tryd.prog.funcNamed "concordance/concordancelaw27.CmdWords" = some 3 by kernel_rfl).symm.trans hf) |>.symm
      obtain rfl : fn = Tryd.f3 := (Option.some.inj (Tryd.func3.symm.trans hfn)).symm
      exact ⟨by kernel_rfl, fun j t ht => by
        rw [Tryd.params3] at ht
        rcases j with _ | _ | _ | j
        · obtain rfl := Option.some.inj ht; kernel_rfl
        · obtain rfl := Option.some.inj ht; kernel_rfl
        · obtain rfl := Option.some.inj ht; kernel_rfl
        · simp at ht⟩)
    (by kernel_rfl)
#print axioms proved
end Go.Proofs.YtdcobmoeligdkaaDoor.cmdWordsP
