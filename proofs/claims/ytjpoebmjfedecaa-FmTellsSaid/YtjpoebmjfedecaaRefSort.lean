/-
  The document's own order: sorted, Rows, Array.
-/
import Derived.Test.YtjpoebmjfedecaaRefWalk
import Derived.Test.YtjpoebmjfedecaaPlainFmTells
import Derived.Deep.AppendLies
namespace Go.Proofs.Ytjpoebmjfedecaa
open Go.RowKit

theorem size_hit (w : World) : (sizeOf (Try.prog.elem 44)).run Try.prog w = .ok 2 w := by kernel_rfl
theorem info_hit : (Try.prog.info? 47).map (fun i => (i.zero, i.size, i.bytes)) = some (some (.agg #[.int .i64 0, .int .i64 0]), 2, 16) := by kernel_rfl
/-- a row cut -/
theorem cut_from (a : Option Addr) (n cap k : Nat) (h : k ≤ n) : ∀ W : World, (Instr.slice 44 (.slice a n cap) (some (.int .i64 (k : Int))) none none).run Try.prog W = .ok (.slice (cutA a cap k) (n - k) (cap - k)) W := by
  intro W
  have hs := size_hit W
  unfold cutA
  simp [Instr.slice, run_underlying Try.underlying44, Instr.sliceBounds, run_sliceBound, show (0 : Int) ≤ k by omega, show (k : Int) ≤ n by omega]
theorem cut_to (a : Option Addr) (n cap k : Nat) (h : k ≤ n) (hc : n ≤ cap) (h1 : a = some ⟨bOf a, oOf a, none⟩) : ∀ W : World, (Instr.slice 44 (.slice a n cap) none (some (.int .i64 (k : Int))) none).run Try.prog W = .ok (.slice a k cap) W := by
  intro W
  have hs := size_hit W
  have e : (if cap = 0 then a else a.map (·.add 0)) = a := by
    split
    · rfl
    · conv => lhs; rw [h1]
      conv => rhs; rw [h1]
      simp [Addr.add]
  simp [Instr.slice, run_underlying Try.underlying44, Instr.sliceBounds, run_sliceBound, show (0 : Int) ≤ k by omega, show (k : Int) ≤ cap by omega]
  intro hne
  rw [if_neg hne] at e
  exact e
def lenOf : Value → Nat
  | .slice _ n _ => n
  | _ => 0
theorem lenOf_slice (a : Option Addr) (n c : Nat) : lenOf (.slice a n c) = n := rfl
attribute [irreducible] lenOf
def SortPostH (w : World) (r : List (Nat × Nat)) (e : Ending) (w' : World) : Prop :=
  ∃ a cap, e = .returned (.slice a r.length cap) ∧ r.length ≤ cap ∧ HRow w' a r ∧ Below w.heap.size w w'
set_option maxRecDepth 100000 in
set_option maxHeartbeats 2000000 in
theorem sorted_any (ds : List (List Nat)) (da : Option Addr) (dc : Nat) (hby : ∀ d ∈ ds, ∀ c ∈ d, c < 256) (hl : (rowOf ds).length ≤ 100000) : ∀ (f : Nat) (w : World) (a : Option Addr) (cap : Nat) (l : List (Nat × Nat)), l.length ≤ f → l.length ≤ 100000 → l.length ≤ cap → Row w da ds.length (strV ds) → HRow w a l → (∀ p ∈ l, validH ds p) →
    Calls Try.prog 49 #[.slice da ds.length dc, .slice a l.length cap] w (SortPostH w (sortF (hltB ds) f l)) := by
  intro f
  induction f with
  | zero =>
    intro w a cap l hf hb hc hd hr hv
    obtain rfl : l = [] := List.eq_nil_of_length_eq_zero (by omega)
    clear hd hr hv
    go_enter Try.func49, Try.ntmps49
    go_wp2
    go_ret
    exact ⟨a, cap, rfl, hc, HRow.nil _ _, Below.refl _ _⟩
  | succ f ih =>
    intro w a cap l hf hb hc hd hr hv
    have hss := sortF_succ (hltB ds) f l
    have HIH := Lib.hid ih
    have HD := Lib.hid hd
    have HR := Lib.hid hr
    have HV := Lib.hid hv
    clear ih hd hr hv
    by_cases h2 : (l.length : Int) < 2
    · rw [if_pos (by omega)] at hss
      have HSS := Lib.hid hss
      clear hss
      go_enter Try.func49, Try.ntmps49
      go_wp2
      go_ret
      exact ⟨a, cap, by rw [HSS.out]; rfl, by rw [HSS.out]; exact hc, by rw [HSS.out]; exact HR.out, Below.refl _ _⟩
    · rw [if_neg (by omega)] at hss
      obtain ⟨h, hh⟩ : ∃ h, h = l.length / 2 := ⟨_, rfl⟩
      have hhl : h ≤ l.length := by omega
      have e1 : (l.length : Int) / 2 = (h : Int) := by omega
      have e1' : (l.length : Int).tdiv 2 = (h : Int) := by rw [Int.tdiv_eq_ediv_of_nonneg (by omega)]; exact e1
      have ha1 : a = some ⟨bOf a, oOf a, none⟩ := by rcases HR.out.at_ with e | e; · omega
                                                     · exact e
      obtain ⟨b, o, hbo⟩ : ∃ b o, a = some ⟨b, o, none⟩ := ⟨_, _, ha1⟩
      subst hbo
      have hcap0 : ¬ cap = 0 := by omega
      have hcaph : ¬ cap = h := by omega
      have hcut : cutA (some ⟨b, o, none⟩) cap h = some ⟨b, o + h * 2, none⟩ := by unfold cutA; rw [if_neg hcaph, Option.map_some, Addr.add_lit]
      have ew : IntKind.i64.wrap (h : Int) = (h : Int) := IntWalk.i64_in _ (by omega)
      have q0 : (0 : Int) ≤ (h : Int) := by omega
      have q1 : (h : Int) ≤ (cap : Int) := by omega
      have q2 : (h : Int) ≤ (l.length : Int) := by omega
      have lt1 : (l.take h).length = h := by rw [List.length_take]; omega
      have lt2 : (l.drop h).length = l.length - h := by rw [List.length_drop]
      rw [← hh] at hss
      have HSS := Lib.hid hss
      have HC1 := Lib.hid (fun (W : World) (hW : Below w.heap.size w W) => HIH.out W (some ⟨b, o, none⟩) cap (l.take h) (by rw [lt1]; omega) (by rw [lt1]; omega) (by rw [lt1]; omega) (HD.out.kept hW) ((HR.out.kept hW).take h) (fun p hp => HV.out p (List.mem_of_mem_take hp)))
      have HC2 := Lib.hid (fun (W : World) (hW : Below w.heap.size w W) => HIH.out W (cutA (some ⟨b, o, none⟩) cap h) (cap - h) (l.drop h) (by rw [lt2]; omega) (by rw [lt2]; omega) (by rw [lt2]; omega) (HD.out.kept hW) ((HR.out.kept hW).drop cap h hc hhl) (fun p hp => HV.out p (List.mem_of_mem_drop hp)))
      rw [lt1] at HC1
      rw [lt2, hcut] at HC2
      have hsp1 := sortF_len (hltB ds) f (l.take h) (by rw [lt1]; omega)
      have hsp2 := sortF_len (hltB ds) f (l.drop h) (by rw [lt2]; omega)
      rw [lt1] at hsp1
      rw [lt2] at hsp2
      have hvm1 : ∀ p ∈ sortF (hltB ds) f (l.take h), validH ds p := fun p hp => HV.out p (List.mem_of_mem_take (sortF_mem (hltB ds) f _ p hp))
      have hvm2 : ∀ p ∈ sortF (hltB ds) f (l.drop h), validH ds p := fun p hp => HV.out p (List.mem_of_mem_drop (sortF_mem (hltB ds) f _ p hp))
      have HVM1 := Lib.hid hvm1
      have HVM2 := Lib.hid hvm2
      have HL1 := Lib.hid hsp1
      have HL2 := Lib.hid hsp2
      generalize sortF (hltB ds) f (l.take h) = L1 at *
      generalize sortF (hltB ds) f (l.drop h) = L2 at *
      clear hh hss lt1 lt2 hsp1 hsp2 hvm1 hvm2 ha1 hcut
      go_enter Try.func49, Try.ntmps49
      go_upto_region 3 with fail
      go_cut [5, 6] (fun s5 s6 wx => ∃ (a5 a6 : Option Addr) (c5 c6 : Nat), s5 = .slice a5 L1.length c5 ∧ s6 = .slice a6 L2.length c6 ∧ L1.length ≤ c5 ∧ L2.length ≤ c6 ∧ HRow wx a5 L1 ∧ HRow wx a6 L2 ∧ Below w.heap.size w wx)
      case first =>
        have hB0 : Below w.heap.size w w.drew := (Below.refl _ _).drew
        go_region_with (first
          | (go_at_call_of 49 (Value.slice (some ⟨b, o, none⟩) h cap); refine (HC1.out _ (by first | exact hB6 | exact hB0)).mono ?_; rintro e w5 ⟨a5, c5, rfl, hc5, hr5, hb5⟩; have hB5 : Below w.heap.size w w5 := (by first | exact below_next hB6 hb5 hB6.size | exact below_next hB0 hb5 hB0.size))
          | (go_at_call_of 49 (Value.slice (some ⟨b, o + h * 2, none⟩) (l.length - h) (cap - h)); refine (HC2.out _ (by first | exact hB5 | exact hB0)).mono ?_; rintro e w6 ⟨a6, c6, rfl, hc6, hr6, hb6⟩; have hB6 : Below w.heap.size w w6 := (by first | exact below_next hB5 hb6 hB5.size | exact below_next hB0 hb6 hB0.size)))
        all_goals
          clear e1 e1' ew
          go_wp2_with fail
          go_meet
          first
            | exact ⟨a5, a6, c5, c6, rfl, rfl, hc5, hc6, hr5.kept hb6, hr6, hB6⟩
            | exact ⟨a5, a6, c5, c6, rfl, rfl, hc5, hc6, hr5, hr6.kept hb5, hB5⟩
      case rest =>
        obtain ⟨a5, a6, c5, c6, rfl, rfl, hc5, hc6, hr5, hr6, hbx⟩ := hcut
        have HR5 := Lib.hid hr5
        have HR6 := Lib.hid hr6
        have HBX := Lib.hid hbx
        have HD2 := Lib.hid (HD.out.kept hbx)
        have hL1 : L1.length ≤ 100000 := by rw [HL1.out]; omega
        have hL2 : L2.length ≤ 100000 := by rw [HL2.out]; omega
        have hsum : L1.length + L2.length = l.length := by rw [HL1.out, HL2.out]; omega
        obtain ⟨i0, hi0, hz0, hz1, hz2⟩ := info_parts info_hit
        clear hr5 hr6 hbx e1 e1' ew hcap0 hcaph HC1 HC2 HIH HR HV HD
        go_wp2_with fail
        go_loopw [5, 6, 7] (fun s5 s6 s7 wr => ∃ (la lb M : List (Nat × Nat)) (a5 a6 : Option Addr) (c5 c6 : Nat), s5 = .slice a5 la.length c5 ∧ s6 = .slice a6 lb.length c6 ∧ la.length ≤ c5 ∧ lb.length ≤ c6 ∧ HRow wc a5 la ∧ HRow wc a6 lb ∧ (∀ p ∈ la, validH ds p) ∧ (∀ p ∈ lb, validH ds p) ∧
          M ++ mergeH (hltB ds) la lb = mergeH (hltB ds) L1 L2 ∧ M.length + la.length + lb.length = l.length ∧ wr.ownsRow wc.heap.size 47 2 s7 M.length (hitVs M) ∧ Below wc.heap.size wc wr) (fun s5 s6 _ _ => lenOf s5 + lenOf s6)
        case atStart => exact ⟨L1, L2, [], a5, a6, c5, c6, rfl, rfl, hc5, hc6, HR5.out, HR6.out, HVM1.out, HVM2.out, rfl, by simpa using hsum, by rw [hitVs_nil]; exact World.ownsRow_nil _ _ _ _, Below.refl _ _⟩
        case round =>
          obtain ⟨la, lb, M, a5, a6, c5, c6, rfl, rfl, hc5, hc6, hr5, hr6, hv5, hv6, hmg, hlen, hown, hbel⟩ := hrel
          have hs := hbel.size
          by_cases hAB : 0 < la.length ∧ 0 < lb.length
          · obtain ⟨hA, hB⟩ := hAB
            obtain ⟨p1, p2, hpe⟩ : ∃ p1 p2, la = (p1, p2) :: la.drop 1 := by
              cases la with
              | nil => simp at hA
              | cons p la => exact ⟨p.1, p.2, rfl⟩
            obtain ⟨q1, q2, hqe⟩ : ∃ q1 q2, lb = (q1, q2) :: lb.drop 1 := by
              cases lb with
              | nil => simp at hB
              | cons p lb => exact ⟨p.1, p.2, rfl⟩
            have hpg : la.getD 0 (0, 0) = (p1, p2) := by rw [hpe]; rfl
            have hqg : lb.getD 0 (0, 0) = (q1, q2) := by rw [hqe]; rfl
            have d1 := (hr5.kept hbel).c0 0 hA
            have d2 := (hr5.kept hbel).c1 0 hA
            have d3 := (hr6.kept hbel).c0 0 hB
            have d4 := (hr6.kept hbel).c1 0 hB
            rw [hpg] at d1 d2
            rw [hqg] at d3 d4
            simp only [Nat.mul_zero, Nat.add_zero] at d1 d2 d3 d4
            have hx5 : ∀ W : World, (Instr.indexAt 44 (.slice a5 la.length c5) (.int .i64 0)).run Try.prog W = .ok (.pointer (some ⟨bOf a5, oOf a5, none⟩)) W := fun W => run_ix2 (P := Try.prog) 44 (by kernel_rfl) size_hit a5 la.length c5 hr5.at_ W 0 hA
            have hx6 : ∀ W : World, (Instr.indexAt 44 (.slice a6 lb.length c6) (.int .i64 0)).run Try.prog W = .ok (.pointer (some ⟨bOf a6, oOf a6, none⟩)) W := fun W => run_ix2 (P := Try.prog) 44 (by kernel_rfl) size_hit a6 lb.length c6 hr6.at_ W 0 hB
            have hct5 : ∀ W : World, (Instr.slice 44 (.slice a5 la.length c5) (some (.int .i64 1)) none none).run Try.prog W = .ok (.slice (cutA a5 c5 1) (la.length - 1) (c5 - 1)) W := cut_from a5 la.length c5 1 (by omega)
            have hct6 : ∀ W : World, (Instr.slice 44 (.slice a6 lb.length c6) (some (.int .i64 1)) none none).run Try.prog W = .ok (.slice (cutA a6 c6 1) (lb.length - 1) (c6 - 1)) W := cut_from a6 lb.length c6 1 (by omega)
            have HLT := Lib.hid (rless_any wr.drew da dc ds (HD2.out.kept hbel).drew hby hl (q1, q2) (p1, p2) (hv6 _ (by rw [hqe]; simp)) (hv5 _ (by rw [hpe]; simp)))
            have hmc := mergeH_cons (hltB ds) (p1, p2) (q1, q2) (la.drop 1) (lb.drop 1)
            rw [← hpe, ← hqe] at hmc
            have HPE := Lib.hid hpe
            have HQE := Lib.hid hqe
            have HMC := Lib.hid hmc
            have HMG := Lib.hid hmg
            have HO := Lib.hid hown
            have HB := Lib.hid hbel
            have H5 := Lib.hid hr5
            have H6 := Lib.hid hr6
            have HV5 := Lib.hid hv5
            have HV6 := Lib.hid hv6
            have hA' : (0 : Int) < (la.length : Int) := by omega
            have hB' : (0 : Int) < (lb.length : Int) := by omega
            clear hpe hqe hpg hqg hmc hmg hown hbel hr5 hr6 hv5 hv6
            go_wp2_with fail
            refine wp_region_still_tail 7 (by kernel_rfl) (by kernel_rfl) ?_
            simp only [List.take_succ_cons, List.take_zero, List.drop_succ_cons, List.drop_zero]
            repeat still_step
            refine wpStill_nil ?_
            change wpList _ _ _ _ _ wr.drew
            go_wp2_with fail
            refine HLT.out.mono ?_
            rintro e w2 ⟨rfl, hb2⟩
            have hb2' : Below wr.heap.size wr w2 := ⟨hb2.os, hb2.tape, hb2.output, hb2.size, hb2.block⟩
            have HB2 : Hid (Below wc.heap.size wc w2) := below_next HB.out hb2' hs
            have HO2 : Hid (w2.ownsRow wc.heap.size 47 2 u7 M.length (hitVs M)) := HO.out.kept (gb_below hb2' none) (by cases u7.ownBlock <;> simp)
            have hs2 := HB2.out.size
            have k1 := (hb2'.cell (p := ⟨bOf a5, oOf a5, none⟩) (World.block_lt_of_cell? wr _ d1)).trans d1
            have k2 := (hb2'.cell (p := ⟨bOf a5, oOf a5 + 1, none⟩) (World.block_lt_of_cell? wr _ d2)).trans d2
            have k3 := (hb2'.cell (p := ⟨bOf a6, oOf a6, none⟩) (World.block_lt_of_cell? wr _ d3)).trans d3
            have k4 := (hb2'.cell (p := ⟨bOf a6, oOf a6 + 1, none⟩) (World.block_lt_of_cell? wr _ d4)).trans d4
            clear d1 d2 d3 d4 hb2 hb2' HLT HO HB
            cases hbb : hltB ds (q1, q2) (p1, p2)
            · have hstep : (M ++ [(p1, p2)]) ++ mergeH (hltB ds) (la.drop 1) lb = mergeH (hltB ds) L1 L2 := by
                rw [← HMG.out, HMC.out, hbb, if_neg (by simp), List.append_assoc]
                rfl
              have HSTEP := Lib.hid hstep
              clear hbb hstep
              go_wp2_with (at_builtin; refine wpList_append_own_at _ rfl _ _ 44 rfl wc.heap.size 47 i0 _ 2 16 Try.underlying44 hi0 hz0 hz1 hz2 rfl (by decide) u7 M.length _ rfl (HO2.out.alloc _) ⟨w2.heap.size, 0, none⟩ 1 1 [.int .i64 (p1 : Int), .int .i64 (p2 : Int)] rfl rfl (World.news_of_block (cs := #[.int .i64 (p1 : Int), .int .i64 (p2 : Int)]) (t := 47) (fr := (0, 0)) (heap_alloc_new w2 _)) (by simp [Value.oneCell']) (by simp only [maxLen]; omega) (by omega) (by simp; omega) ?_; intro v' w4 hown' hgrow _ hat)
              have hlt' := HO2.out.lt
              have ho1 : w4.ownsRow wc.heap.size 47 2 v' (M ++ [(p1, p2)]).length (hitVs (M ++ [(p1, p2)])) := by rw [hitVs_append, hitVs_cons, hitVs_nil, List.length_append]; exact hown'
              have HO1 := Lib.hid ho1
              have HB1 : Hid (Below wc.heap.size wc w4) := (HB2.out.alloc hs2 _).grown hgrow (by simp; omega) (fun g hg => (hlt' g hg).1)
              clear hown' hgrow hlt' ho1 hat k1 k2 k3 k4
              go_wp2
              go_roundw
              case rel => exact ⟨la.drop 1, lb, M ++ [(p1, p2)], cutA a5 c5 1, a6, c5 - 1, c6, by rw [List.length_drop], rfl, by rw [List.length_drop]; omega, hc6, H5.out.drop c5 1 hc5 (by omega), H6.out, fun x hx => HV5.out x (List.mem_of_mem_drop hx), HV6.out, HSTEP.out, by rw [List.length_append, List.length_singleton, List.length_drop]; omega, HO1.out, HB1.out⟩
              case measure => simp [lenOf_slice]; omega
            · have hstep : (M ++ [(q1, q2)]) ++ mergeH (hltB ds) la (lb.drop 1) = mergeH (hltB ds) L1 L2 := by
                rw [← HMG.out, HMC.out, hbb, if_pos rfl, List.append_assoc]
                rfl
              have HSTEP := Lib.hid hstep
              clear hbb hstep
              go_wp2_with (at_builtin; refine wpList_append_own_at _ rfl _ _ 44 rfl wc.heap.size 47 i0 _ 2 16 Try.underlying44 hi0 hz0 hz1 hz2 rfl (by decide) u7 M.length _ rfl (HO2.out.alloc _) ⟨w2.heap.size, 0, none⟩ 1 1 [.int .i64 (q1 : Int), .int .i64 (q2 : Int)] rfl rfl (World.news_of_block (cs := #[.int .i64 (q1 : Int), .int .i64 (q2 : Int)]) (t := 47) (fr := (0, 0)) (heap_alloc_new w2 _)) (by simp [Value.oneCell']) (by simp only [maxLen]; omega) (by omega) (by simp; omega) ?_; intro v' w4 hown' hgrow _ hat)
              have hlt' := HO2.out.lt
              have ho1 : w4.ownsRow wc.heap.size 47 2 v' (M ++ [(q1, q2)]).length (hitVs (M ++ [(q1, q2)])) := by rw [hitVs_append, hitVs_cons, hitVs_nil, List.length_append]; exact hown'
              have HO1 := Lib.hid ho1
              have HB1 : Hid (Below wc.heap.size wc w4) := (HB2.out.alloc hs2 _).grown hgrow (by simp; omega) (fun g hg => (hlt' g hg).1)
              clear hown' hgrow hlt' ho1 hat k1 k2 k3 k4
              go_wp2
              go_roundw
              case rel => exact ⟨la, lb.drop 1, M ++ [(q1, q2)], a5, cutA a6 c6 1, c5, c6 - 1, rfl, by rw [List.length_drop], hc5, by rw [List.length_drop]; omega, H5.out, H6.out.drop c6 1 hc6 (by omega), HV5.out, fun x hx => HV6.out x (List.mem_of_mem_drop hx), HSTEP.out, by rw [List.length_append, List.length_singleton, List.length_drop]; omega, HO1.out, HB1.out⟩
              case measure => simp [lenOf_slice]; omega
          · have hend : la = [] ∨ lb = [] := by
              by_cases hA : 0 < la.length
              · exact .inr (List.eq_nil_of_length_eq_zero (by omega))
              · exact .inl (List.eq_nil_of_length_eq_zero (by omega))
            obtain ⟨v1, w1, hrun1, hown1, hg1, _⟩ := run_append_hits (P := Try.prog) wr wc.heap.size 44 44 47 i0 _ 16 Try.underlying44 hi0 hz0 hz1 hz2 rfl u7 M.length _ hown a5 c5 la (hr5.kept hbel) (by simp only [maxLen]; omega) (by omega) hs
            have hlt1 := hown.lt
            have hB1 : Below wc.heap.size wc w1 := hbel.grown hg1 hs (fun g hg => (hlt1 g hg).1)
            obtain ⟨v2, w2, hrun2, hown2, hg2, _⟩ := run_append_hits (P := Try.prog) w1 wc.heap.size 44 44 47 i0 _ 16 Try.underlying44 hi0 hz0 hz1 hz2 rfl v1 (M.length + la.length) _ hown1 a6 c6 lb (hr6.kept hB1) (by simp only [maxLen]; omega) (by omega) hB1.size
            have hlt2 := hown1.lt
            have hB2 : Below wc.heap.size wc w2 := hB1.grown hg2 hB1.size (fun g hg => (hlt2 g hg).1)
            rw [← hitVs_append, ← hitVs_append] at hown2
            have hres : M ++ la ++ lb = mergeH (hltB ds) L1 L2 := by rw [List.append_assoc, ← mergeH_ends (hltB ds) la lb hend, hmg]
            rw [hres] at hown2
            have hreslen : M.length + la.length + lb.length = (mergeH (hltB ds) L1 L2).length := by rw [← hres, List.length_append, List.length_append]
            obtain ⟨a9, c9, rfl, hc9, hr9, _⟩ := hrow_of_owns hown2 hreslen
            have R1 := Lib.hid hrun1
            have R2 := Lib.hid hrun2
            have HR9 := Lib.hid hr9
            have HB9 : Hid (Below w.heap.size w w2) := HBX.out.trans (hB2.mono HBX.out.size)
            clear hrun1 hown1 hg1 hlt1 hB1 hrun2 hown2 hg2 hlt2 hB2 hres hreslen hr9 hr5 hr6 hv5 hv6 hmg hown hbel hs
            by_cases hA : (0 : Int) < (la.length : Int)
            · have hB : ¬ (0 : Int) < (lb.length : Int) := by omega
              clear hAB hend
              go_wp2_with (first
                | (at_builtin; (with_reducible refine wpList_append_run rfl _ _ _ rfl R1.out rfl rfl ?_); clear R1)
                | (at_builtin; (with_reducible refine wpList_append_run rfl _ _ _ rfl R2.out rfl rfl ?_); clear R2))
              go_ret
              exact ⟨a9, c9, by rw [HSS.out]; rfl, by rw [HSS.out]; exact hc9, by rw [HSS.out]; exact HR9.out, HB9.out⟩
            · clear hAB hend
              go_wp2_with (first
                | (at_builtin; (with_reducible refine wpList_append_run rfl _ _ _ rfl R1.out rfl rfl ?_); clear R1)
                | (at_builtin; (with_reducible refine wpList_append_run rfl _ _ _ rfl R2.out rfl rfl ?_); clear R2))
              go_ret
              exact ⟨a9, c9, by rw [HSS.out]; rfl, by rw [HSS.out]; exact hc9, by rw [HSS.out]; exact HR9.out, HB9.out⟩
end Go.Proofs.Ytjpoebmjfedecaa
