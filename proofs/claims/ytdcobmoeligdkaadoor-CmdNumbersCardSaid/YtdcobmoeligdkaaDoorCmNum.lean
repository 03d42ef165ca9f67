/-
  cmd.number: a word's number; what of the world the commands read (Env).
-/
import Derived.Test.YtdcobmoeligdkaaDoorCmSpec
import Derived.Test.YtdcobmoeligdkaaDoorCmShelf
import Derived.Lib.AppendIntMem
import Derived.Lib.AtoiErrMem
namespace Go.Proofs.YtdcobmoeligdkaaDoor
open Go.RowKit Go.Shelf

theorem uS_toList (l : List UInt8) : (uS l).toList = l := by unfold uS; exact ByteArray.toList_mk _
theorem uS_eq (x y : List UInt8) : ((uS x).toList == (uS y).toList) = decide (x = y) := by
  rw [uS_toList, uS_toList]
  by_cases h : x = y
  · subst h; simp
  · simp [h]
/-- the listed variables of the library, as they were laid -/
structure Env (w : World) : Prop where
  mx : ∃ m : Int, w.cell? ⟨Tryd.lays145_ren.g 1, 0, none⟩ = some (.int .i64 m)
  tab : Lib.TabIs Tryd.prog w "internal/strconv.uint64pow10" .u64 Lib.pow10Tab
  es : ∃ tp p, w.var? Tryd.prog "strconv.ErrSyntax" = some #[.iface tp p]
  er : ∃ tp p, w.var? Tryd.prog "strconv.ErrRange" = some #[.iface tp p]
theorem var_kept {P : Program} {w w' : World} {n : String} {cs : Array Value} (h : w.var? P n = some cs) (hb : Below w.heap.size w w') : w'.var? P n = some cs := by
  unfold World.var? at h ⊢
  cases hg : P.globalNamed n with
  | none => simp [hg] at h
  | some g =>
    simp only [hg, Option.bind_some] at h ⊢
    have hlt : g < w.heap.size := by
      rcases Nat.lt_or_ge g w.heap.size with h1 | h1
      · exact h1
      · rw [Array.getElem?_eq_none h1] at h; cases h
    rw [hb.block g hlt]
    exact h
theorem Env.kept {w w' : World} (h : Env w) (hb : Below w.heap.size w w') : Env w' :=
  ⟨by obtain ⟨m, hm⟩ := h.mx
      exact ⟨m, (hb.cell (World.block_lt_of_cell? w _ hm)).trans hm⟩, var_kept h.tab hb, by obtain ⟨t, p, e⟩ := h.es; exact ⟨t, p, var_kept e hb⟩, by obtain ⟨t, p, e⟩ := h.er; exact ⟨t, p, var_kept e hb⟩⟩
theorem Env.drewN {w : World} (h : Env w) (k : Nat) : Env (w.drewN k) := ⟨h.mx, h.tab, h.es, h.er⟩

def NumPost (w : World) (s : List UInt8) (e : Ending) (w' : World) : Prop :=
  ∃ v : Int, e = .returned (.tuple #[.int .i64 v, .bool (numR s).isSome]) ∧ (∀ n, numR s = some n → v = (n : Int)) ∧ Below w.heap.size w w'
theorem atoi_bounds {l : List UInt8} {v : Int} (h : Lib.atoiAll l = .ok v) : -9223372036854775808 ≤ v ∧ v ≤ 9223372036854775807 := Lib.atoiAll_bounds h
set_option maxRecDepth 100000 in
set_option maxHeartbeats 1000000 in
theorem number_any (w : World) (he : Env w) (s : List UInt8) (hs : s.length ≤ 100000) : Calls Tryd.prog 32 #[.string (uS s)] w (NumPost w s) := by
  have hsz := uS_size s
  rcases h : Lib.atoiAll s with v | _ | _
  · have hA := Tryd.strconv_Atoi_ok (uS s) (by omega) v h w
    obtain ⟨b1, b2⟩ := atoi_bounds h
    have hN : numR s = if 0 ≤ v ∧ s.length ≤ 9 ∧ Lib.itoa v = s then some v.toNat else none := by unfold numR; rw [h]
    have hA2 : Calls Tryd.prog 51 #[.string (uS s)] w fun e w' => e = .returned (.tuple #[.int .i64 v, .nilIface]) ∧ Below w.heap.size w w' := hA.mono fun e w' ⟨h1, h2⟩ => ⟨h1, by
      rcases h2 with rfl | ⟨t, rfl⟩
      · exact Below.refl _ _
      · exact Lib.bytesWorld_below _ _ _⟩
    have HE := Lib.hid he
    have HN := Lib.hid hN
    have HA := Lib.hid hA2
    clear hA hA2 hN h he
    by_cases h0 : 0 ≤ v
    · by_cases h9 : s.length ≤ 9
      · have hq := uS_eq (Lib.itoa v) s
        have h9' : ((s.length : Nat) : Int) ≤ 9 := by omega
        have HI : Hid (∀ W : World, Below w.heap.size w W → Calls Tryd.prog 20 #[.int .i64 v] W fun e w' => e = .returned (.string (uS (Lib.itoa v))) ∧ Below W.heap.size W w') := fun W hb => by
          refine (Tryd.strconv_Itoa v b1 b2 W (HE.out.kept hb).tab).mono ?_
          rintro e w' ⟨rfl, k, os, rfl⟩
          exact ⟨rfl, Lib.below_grow _ _ (Nat.le_refl _) _ _⟩
        have HY : Hid (∀ W, Below w.heap.size w W → NumPost w s (.returned (.tuple #[.int .i64 v, .bool (decide (Lib.itoa v = s))])) W) := fun W hb => by
          refine ⟨v, ?_, fun n hn => ?_, hb⟩
          · rw [HN.out]
            by_cases e : Lib.itoa v = s
            · rw [if_pos ⟨h0, h9, e⟩]; simp [e]
            · rw [if_neg (fun h => e h.2.2)]; simp [e]
          · rw [HN.out] at hn
            split at hn
            · have := Option.some.inj hn; omega
            · cases hn
        generalize decide (Lib.itoa v = s) = bb at *
        generalize Lib.itoa v = li at *
        go_enter Tryd.func32, Tryd.ntmps32
        go_wp2_with (first
          | (go_at_call 51; refine HA.out.mono ?_; rintro e w1 ⟨rfl, hb1⟩; have HB1 := Lib.hid hb1; clear hb1)
          | (go_at_call 20; refine (HI.out _ HB1.out).mono ?_; rintro e w2 ⟨rfl, hb2⟩))
        go_ret2
        exact HY.out _ (below_next HB1.out hb2 HB1.out.size)
      · have h9' : ¬ ((s.length : Nat) : Int) ≤ 9 := by omega
        have HY : Hid (∀ W, Below w.heap.size w W → NumPost w s (.returned (.tuple #[.int .i64 v, .bool false])) W) := fun W hb => by
          have e : numR s = none := by rw [HN.out, if_neg (fun h => h9 h.2.1)]
          exact ⟨v, by rw [e]; rfl, fun n hn => by rw [e] at hn; (cases hn), hb⟩
        go_enter Tryd.func32, Tryd.ntmps32
        go_wp2_with (go_at_call 51; refine HA.out.mono ?_; rintro e w1 ⟨rfl, hb1⟩; have HB1 := Lib.hid hb1; clear hb1)
        go_ret2
        exact HY.out _ HB1.out
    · have HY : Hid (∀ W, Below w.heap.size w W → NumPost w s (.returned (.tuple #[.int .i64 v, .bool false])) W) := fun W hb => by
        have e : numR s = none := by rw [HN.out, if_neg (fun h => h0 h.1)]
        exact ⟨v, by rw [e]; rfl, fun n hn => by rw [e] at hn; (cases hn), hb⟩
      go_enter Tryd.func32, Tryd.ntmps32
      go_wp2_with (go_at_call 51; refine HA.out.mono ?_; rintro e w1 ⟨rfl, hb1⟩; have HB1 := Lib.hid hb1; clear hb1)
      go_ret2
      exact HY.out _ HB1.out
  · obtain ⟨tp, p, hv⟩ := he.es
    have HA := Lib.hid (Tryd.strconv_Atoi_syntax_var (uS s) (by omega) h tp p w hv)
    have HY : Hid (∀ W, Below w.heap.size w W → NumPost w s (.returned (.tuple #[.int .i64 0, .bool false])) W) := fun W hb => by
      have e : numR s = none := by unfold numR; rw [h]
      exact ⟨0, by rw [e]; rfl, fun n hn => by rw [e] at hn; (cases hn), hb⟩
    clear h hv he
    go_enter Tryd.func32, Tryd.ntmps32
    go_wp2_with (go_at_call 51; refine HA.out.mono ?_; rintro e w1 ⟨N, rfl, hN1, hN2, hb1⟩; have HB1 := Lib.hid hb1; clear hb1 hN1 hN2)
    go_ret2
    exact HY.out _ HB1.out
  · obtain ⟨tp, p, hv⟩ := he.er
    have HA := Lib.hid (Tryd.strconv_Atoi_range_var (uS s) (by omega) h tp p w hv)
    have HY : Hid (∀ W v, Below w.heap.size w W → NumPost w s (.returned (.tuple #[.int .i64 v, .bool false])) W) := fun W v hb => by
      have e : numR s = none := by unfold numR; rw [h]
      exact ⟨v, by rw [e]; rfl, fun n hn => by rw [e] at hn; (cases hn), hb⟩
    generalize Lib.atoiSat (uS s).data.toList = sat at *
    clear h hv he
    go_enter Tryd.func32, Tryd.ntmps32
    go_wp2_with (go_at_call 51; refine HA.out.mono ?_; rintro e w1 ⟨N, rfl, hN1, hN2, hb1⟩; have HB1 := Lib.hid hb1; clear hb1 hN1 hN2)
    go_ret2
    exact HY.out _ _ HB1.out
end Go.Proofs.YtdcobmoeligdkaaDoor
