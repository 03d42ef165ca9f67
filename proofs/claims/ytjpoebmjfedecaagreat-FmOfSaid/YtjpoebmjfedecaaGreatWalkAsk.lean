/-
  Samples, Sizes, Row; walk.New(nil); what the document fixes of places: concordancelaw13.awake.
-/
import Derived.Test.YtjpoebmjfedecaaGreatWalkNew
import Derived.Test.YtjpoebmjfedecaaGreatPlainFmOf
import Derived.Test.YtjpoebmjfedecaaGreatBackAwake
namespace Go.Proofs.YtjpoebmjfedecaaGreat
open Go.RowKit Go.Shelf

/-- numbers that are read -/
abbrev natsV (S : List Nat) : Nat → Value := fun k => .int .i64 ((S.getD k 0 : Nat) : Int)
theorem intsN_row {w : World} {base : Nat} {v : Value} {S : List Nat} (h : w.ownsRow base 3 1 v S.length (intsN S)) : ∃ a cap, v = .slice a S.length cap ∧ S.length ≤ cap ∧ Row w a S.length (natsV S) := by
  obtain ⟨a, cap, rfl, h1, h2, _⟩ := Row.of_owns h
  refine ⟨a, cap, rfl, h1, h2.congr fun k hk => ?_⟩
  unfold intsN
  show _ = Value.int .i64 ((S.getD k 0 : Nat) : Int)
  simp [hk]
def WRowPost (w : World) (S : List Nat) (e : Ending) (w' : World) : Prop := ∃ a, e = .returned (.slice a S.length S.length) ∧ Row w' a S.length (natsV S) ∧ Below w.heap.size w w' ∧ (S.length = 0 ∨ w.heap.size ≤ bOf a)
theorem wnew_nil (w : World) : Calls Tryz.prog 35 #[.pointer none] w fun e w' => e = .returned (.tuple #[.pointer none, .int .i64 1]) ∧ w = w' := by
  refine (callsIn_wide (n := 5)).1 ?_
  have hwf : ∀ f, Fence.wide.fn f = True := fun _ => rfl
  refine callsIn_of_wp_marks Tryz.func35 rfl trivial ?_ rfl
  simp only [Tryz.ntmps35, List.size_toArray, List.length_cons, List.length_nil, Nat.reduceAdd, Nat.reduceSub, Array.replicate_succ, Array.replicate_zero, List.push_toArray, List.append_toArray, List.nil_append, List.cons_append]
  gi_wp2
  exact ⟨_, results_tmp2 rfl _ _ _, rfl, rfl⟩
theorem rowP_sa (ds : List (List Nat)) (hb : ∀ d ∈ ds, ∀ c ∈ d, c < 256) (r j o : Nat) (hr : r < (rowsR ds).length) (hv : validH ds (j, o)) (h : (saOf ds).getD r 0 = startOf ds j + o) : rowP ds j o = r := by
  refine (rowP_of ds hb r j o hr (placeOf_one ds _ _ (rows_at ds r hr) hv ?_)).2.2.symm
  rw [← sa_row ds r hr, h]; rfl
theorem baA_put : putS (putsTo baA 2) = [4, 3] := by
  have e : saOf baA = [2, 4, 1, 3, 0] := (saOf_sa baA).one (by have := baA_sa; exact this)
  have hl : (rowsR baA).length = 5 := by rw [rows_len]; rfl
  have h1 : rowP baA 0 0 = 4 := rowP_sa baA baA_ok.byte 4 0 0 (by omega) ⟨by decide, by decide⟩ (by rw [e]; rfl)
  have h2 : rowP baA 1 0 = 3 := rowP_sa baA baA_ok.byte 3 1 0 (by omega) ⟨by decide, by decide⟩ (by rw [e]; rfl)
  have h3 : putsTo baA 2 = [(rowP baA 0 0, 0, 0), (rowP baA 1 0, 1, 0)] := rfl
  rw [h3, h1, h2]; rfl
theorem baA_sizes : sizesTo baA 2 = [2, 1] := rfl
end Go.Proofs.YtjpoebmjfedecaaGreat
