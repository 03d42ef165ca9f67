/-
  Texts of this claim, one behind the other.
-/
import Derived.Test.YtjpoebmjfedecaaBwtRev

/-
  bwt.read: documents, each from its end on.
-/
namespace Go.Proofs.Ytjpoebmjfedecaa
open Go.RowKit

/-- the first documents of what a row is read as -/
structure PartL (L : List Nat) (es : List (List Nat)) : Prop where
  many : es.length ≤ stC L 1
  each : ∀ j, j < es.length → EndsL L j (es.getD j []).length ∧ es.getD j [] = (pathL L j (es.getD j []).length).reverse
  long : ∀ j, j < es.length → (es.getD j []).length ≤ 2000
  fit : (rowOf es).length ≤ 2001 * es.length
theorem PartL.nil (L : List Nat) : PartL L [] := ⟨Nat.zero_le _, fun j hj => by simp at hj, fun j hj => by simp at hj, Nat.zero_le _⟩
theorem rowOf_snoc (es : List (List Nat)) (d : List Nat) : (rowOf (es ++ [d])).length = (rowOf es).length + d.length + 1 := by
  rw [rowOf_append, rowOf_one]; simp; omega
theorem PartL.more {L : List Nat} {es : List (List Nat)} (h : PartL L es) (hm : es.length < stC L 1) (k : Nat) (hk : EndsL L es.length k) (h2 : k ≤ 2000) : PartL L (es ++ [(pathL L es.length k).reverse]) := by
  have hl : (pathL L es.length k).reverse.length = k := by rw [List.length_reverse, pathL_len]
  refine ⟨by simp; omega, fun j hj => ?_, fun j hj => ?_, by rw [rowOf_snoc, hl]; have := h.fit; simp; omega⟩
  · by_cases e : j < es.length
    · rw [getD_snoc es _ j e]; exact h.each j e
    · obtain rfl : j = es.length := by simp at hj; omega
      rw [getD_snoc_last, hl]; exact ⟨hk, rfl⟩
  · by_cases e : j < es.length
    · rw [getD_snoc es _ j e]; exact h.long j e
    · obtain rfl : j = es.length := by simp at hj; omega
      rw [getD_snoc_last, hl]; exact h2
theorem PartL.take {L : List Nat} {es ds : List (List Nat)} (h : PartL L es) (g : ReadsL L ds) : ds.take es.length = es := by
  have hle : es.length ≤ ds.length := by rw [g.many]; exact h.many
  refine docs_ext (by rw [List.length_take]; omega) (fun j hj => ?_)
  rw [List.length_take] at hj
  have e1 : (ds.take es.length).getD j [] = ds.getD j [] := by rw [List.getD_eq_getElem?_getD, List.getElem?_take_of_lt (by omega), List.getD_eq_getElem?_getD]
  have e := (h.each j (by omega)).1.one (g.each j (by omega)).1
  rw [e1, (h.each j (by omega)).2, (g.each j (by omega)).2, e]
theorem PartL.row {L : List Nat} {es ds : List (List Nat)} (h : PartL L es) (g : ReadsL L ds) : startOf ds es.length = (rowOf es).length := by unfold startOf; rw [h.take g]
/-- a way that is too long -/
theorem PartL.fails {L : List Nat} {es : List (List Nat)} (h : PartL L es) (hm : es.length < stC L 1) (k : Nat) (hk : goesL L es.length k) (hbad : 2000 < k ∨ L.length ≤ (rowOf es).length + k) : ∀ ds, ¬ ReadsL L ds := fun ds g => by
  have hj : es.length < ds.length := by rw [g.many]; exact hm
  have h1 := (g.each _ hj).1.le hk
  have h2 := g.long _ hj
  have h3 := startOf_succ ds es.length hj
  rw [h.row g] at h3
  have h4 := startOf_mono ds (show es.length + 1 ≤ ds.length by omega) (Nat.le_refl _)
  rw [startOf_all, g.all] at h4
  omega
theorem PartL.whole {L : List Nat} {es : List (List Nat)} (h : PartL L es) (hm : es.length = stC L 1) : ((rowOf es).length = L.length → ReadsL L es) ∧ ((rowOf es).length ≠ L.length → ∀ ds, ¬ ReadsL L ds) := by
  refine ⟨fun e => ⟨hm, h.each, h.long, e⟩, fun e ds g => e ?_⟩
  have h1 := h.take g
  rw [hm, ← g.many, List.take_length] at h1
  rw [← h1]; exact g.all
theorem byteVs_nil : byteVs [] = [] := by unfold byteVs; rfl
theorem clipBB_any (w : World) (a : Option Addr) (n cap : Nat) (hn : n ≤ cap) (h0 : a = none → cap = 0) :
    Calls Try.prog 81 #[.slice a n cap] w fun e w' => e = .returned (.slice a n n) ∧ w = w' := by
  cases a with
  | none =>
    obtain rfl : cap = 0 := h0 rfl
    obtain rfl : n = 0 := by omega
    go_enter Try.func81, Try.ntmps81
    go_wp2
    go_ret
    exact ⟨rfl, rfl⟩
  | some ad =>
    clear h0
    go_enter Try.func81, Try.ntmps81
    go_wp2
    go_ret
    exact ⟨rfl, rfl⟩
theorem run_part1 (f : Nat → Nat) : ∀ W, (Instr.index 87 (.agg (arrV f)) (.int .i64 1)).run Try.prog W = .ok (.int .i64 ((f 1 : Nat) : Int)) W := by
  intro W
  have hs : (sizeOf 3).run Try.prog W = .ok 1 W := by kernel_rfl
  have ha := arrV_at f 1 (by omega)
  simp [Instr.index, asIntOf, run_underlying Try.underlying87, hs]
  have hag : (isAgg 3).run Try.prog W = .ok false W := by kernel_rfl
  simp [part, hag, ha]
def ReadPost (w : World) (L : List Nat) (e : Ending) (w' : World) : Prop :=
  ∃ v ok, e = .returned (.tuple #[v, .bool ok]) ∧ Below w.heap.size w w' ∧ (ok = false → ∀ ds, ¬ ReadsL L ds) ∧
    (ok = true → ∃ a cap A es, v = .slice a es.length cap ∧ es.length ≤ cap ∧ (a = none → cap = 0) ∧ DocsAt w' a A (fun j => (es.getD j []).length) es ∧ ReadsL L es)
set_option maxRecDepth 100000 in
set_option maxHeartbeats 2000000 in
theorem read_any (w : World) (a : Option Addr) (cap : Nat) (L : List Nat) (hn : L.length ≤ 100000) (hr : Row w a L.length (symV L)) (hm : ∀ c ∈ L, c ≤ 256) :
    Calls Try.prog 79 #[.slice a L.length cap] w (ReadPost w L) := by
  have hix := run_ix (P := Try.prog) 70 (by kernel_rfl) size_u16 a L.length cap hr.at_ .i64
  have HR := Lib.hid hr
  have HM := Lib.hid hm
  have HST := Lib.hid (steps_any w a cap L (by omega) hr hm)
  have hp1 := run_part1 (stC L)
  have hle := stC_le L 1
  clear hr hm
  go_enter Try.func79, Try.ntmps79
  go_wp2_with fail
  refine HST.out.mono ?_
  rintro e w1 ⟨a4, c4, rfl, hr4, hb1⟩
  have hix4 := run_ix (P := Try.prog) 30 (by kernel_rfl) size_int a4 L.length c4 hr4.at_ .i64
  have HR1 := Lib.hid (HR.out.kept hb1)
  have HR4 := Lib.hid hr4
  have HB1 := Lib.hid hb1
  clear hr4 hb1 HST
  go_wp2_with fail
  refine (starts_any w1 a cap L (by omega) HR1.out).mono ?_
  rintro e w2 ⟨rfl, hb2⟩
  have HRA := Lib.hid (HR1.out.kept hb2)
  have HRB := Lib.hid (HR4.out.kept hb2)
  have HB2 : Hid (Below w.heap.size w w2) := below_next HB1.out hb2 HB1.out.size
  clear hb2 HR1 HR4 HB1
  go_wp2_with fail
  clear hp1
  have HTZ := Lib.hid (fun q (hq : L.getD q 0 ≠ 0) => (show toZ L q = (stepL L q : Int) by unfold toZ; rw [if_neg hq]))
  have HIT := Lib.hid (fun j (hj : j < L.length) k => itL_lt L HM.out j hj k)
  obtain ⟨i8, hi8, hx80, hx81, hx82⟩ := info_parts info_u8
  obtain ⟨i9, hi9, hx90, hx91, hx92⟩ := info_parts info_bytes
  generalize hN : stC L 1 = N at *
  have HN := Lib.hid hN
  clear hN
  go_loopw [5, 6, 7] (fun v5 v6 v7 wr => ∃ (es : List (List Nat)) (A : Nat → Option Addr), PartL L es ∧ es.length ≤ N ∧ v7 = .int .i64 ((es.length : Nat) : Int) ∧ v5 = .int .i64 ((L.length : Int) - ((rowOf es).length : Int)) ∧ DocsOwn w2 es A v6 wr) (fun _ _ v7 _ => N - (intOf v7).toNat)
  case atStart => exact ⟨[], fun _ => none, PartL.nil L, Nat.zero_le _, rfl, by simp [rowOf_nil], DocsOwn.nil w2 _⟩
  case round =>
    obtain ⟨es, A, hpart, hes, rfl, rfl, hown⟩ := hrel
    have hfit := hpart.fit
    generalize hR : (rowOf es).length = R at *
    have HR5 := Lib.hid hR
    have HPT := Lib.hid hpart
    have HOW := Lib.hid hown
    clear hR hpart
    by_cases hlt : es.length < N
    · obtain ⟨j, hj⟩ : ∃ j, j = es.length := ⟨_, rfl⟩
      rw [← hj] at hlt hfit hes ⊢
      have HJ := Lib.hid hj
      have hjL : j < L.length := by omega
      have hbo := hown.bel
      have HRO := Lib.hid (HRA.out.kept hbo)
      have HRT := Lib.hid (HRB.out.kept hbo)
      have hjz : (j : Int) < (N : Int) := by omega
      clear hj hown hbo
      obtain ⟨wo, hwo⟩ : ∃ wo, wo = wr := ⟨_, rfl⟩
      subst hwo
      go_wp2_with fail
      go_loopw [9, 10] (fun v9 v10 wi => ∃ (k : Nat) (a9 : Option Addr) (c9 : Nat), v10 = .int .i64 ((itL L j k : Nat) : Int) ∧ v9 = .slice a9 k c9 ∧ k ≤ 2000 ∧ goesL L j k ∧ wi.ownsRow wo.heap.size 5 1 (.slice a9 k c9) k (byteVs (pathL L j k)) ∧ Below wo.heap.size wo wi) (fun v9 _ _ => 2001 - lenOf v9)
      case atStart => exact ⟨0, none, 0, rfl, rfl, by omega, fun q hq => by omega, by rw [pathL_zero, byteVs_nil]; exact World.ownsRow_nil _ _ _ _, Below.refl _ _⟩
      case round =>
        obtain ⟨k, a9, c9, rfl, hv9, hk, hgo, ho9, hb9⟩ := hrel
        have HV9 := Lib.hid hv9
        rw [← hv9] at ho9
        clear hv9
        have hil := HIT.out j hjL k
        have hs9 := hb9.size
        have HRO9 := Lib.hid (HRO.out.kept hb9)
        have HRT9 := Lib.hid (HRT.out.kept hb9)
        have HGO := Lib.hid hgo
        have HO9 := Lib.hid ho9
        have HB9 := Lib.hid hb9
        have d0 : wr.cell? ⟨bOf a, oOf a + itL L j k, none⟩ = some (.int .u16 ((L.getD (itL L j k) 0 : Nat) : Int)) := HRO9.out.cell _ hil
        have hc := HM.out _ (getD_mem' hil)
        clear hgo ho9 hb9
        by_cases h0 : L.getD (itL L j k) 0 = 0
        · have HEND : Hid (EndsL L j k) := ⟨HGO.out, h0⟩
          have d1 : wr.cell? ⟨bOf a, oOf a + itL L j k, none⟩ = some (.int .u16 0) := by rw [d0, h0]; rfl
          rw [HV9.out] at HO9 ⊢
          clear h0 hc d0
          generalize itL L j k = i at *
          have hzz : (L.length : Int) - (R : Int) - ((k : Int) + 1) = (L.length : Int) - ((R + k + 1 : Nat) : Int) := by omega
          have hz1 : IntKind.i64.wrap ((L.length : Int) - (R : Int) - ((k : Int) + 1)) = (L.length : Int) - ((R + k + 1 : Nat) : Int) := by rw [hzz]; exact IntWalk.i64_in _ (by omega)
          have HZZ := Lib.hid hzz
          clear hzz
          have hpl := pathL_len L j k
          have HREV := Lib.hid (reverse_any wr wo.heap.size a9 c9 (pathL L j k) (by rw [hpl]; omega) (by rw [hpl]; exact HO9.out))
          rw [hpl] at HREV
          have HPL := Lib.hid hpl
          clear hpl
          go_wp2_with fail
          refine HREV.out.mono ?_
          rintro e w4 ⟨rfl, ho4, hb4, hs4⟩
          rw [HPL.out] at ho4
          obtain ⟨a5, c5, hv5, hc5, hn5, hr5, hlow5⟩ := owns_clip ho4
          obtain ⟨rfl, rfl⟩ : a9 = a5 ∧ c9 = c5 := by injection hv5 with q1 q2 q3; exact ⟨q1, q3⟩
          have hdl : (pathL L j k).reverse.length = k := by rw [List.length_reverse, HPL.out]
          have hr6 : Row w4 a9 (pathL L j k).reverse.length (byteV (pathL L j k).reverse) := byteVs_row (by rw [hdl]; exact hr5)
          have hbw : Below wo.heap.size wo w4 := HB9.out.trans hb4
          have HR6 := Lib.hid hr6
          have HBW := Lib.hid hbw
          have HDL := Lib.hid hdl
          have HLOW := Lib.hid hlow5
          have HOK4 := Lib.hid (HOW.out.kept hbw)
          clear ho4 hb4 hr5 hr6 hbw hdl hv5 hlow5 HREV
          have HPM := Lib.hid (HPT.out.more (by rw [← HJ.out, HN.out]; exact hlt) k (by rw [← HJ.out]; exact HEND.out) hk)
          rw [← HJ.out] at HPM
          generalize (pathL L j k).reverse = dd at *
          have hs4w : wo.heap.size ≤ w4.heap.size := HBW.out.size
          have hlov := HOW.out.own.lt
          have hobs := HOW.out.bel.size
          have hesl : es.length ≤ 100000 := by rw [← HJ.out]; omega
          go_wp2_with (first
            | (go_at_call 57; refine (clipB_any _ a9 k c9 (by omega) hn5).mono ?_; rintro e w' ⟨rfl, rfl⟩)
            | (at_builtin; refine wpList_append_lies _ rfl _ _ _ rfl w2.heap.size 22 i9 _ 1 24 Try.underlying25 hi9 hx90 hx91 hx92 rfl (by omega) u6 es.length _ rfl (HOK4.out.own.alloc _) ⟨w4.heap.size, 0, none⟩ 1 1 [.slice a9 k k] rfl rfl (cell_one_new _ _ _) (by simp [Value.oneCell']) (by omega) (by simp only [maxLen]; omega) (by omega) (by simp; omega) (w4.heap.size + 1) (by simp) ?_; intro gg cv' wq hown' hgrow hat hlt'; have HOWN := Lib.hid hown'; have HGR := Lib.hid hgrow; have HAT := Lib.hid hat; clear hown' hgrow hat))
          have hat2 : (Value.slice (some ⟨gg, 0, none⟩) (es.length + 1) cv').ownBlock = u6.ownBlock ∨ (Value.slice (some ⟨gg, 0, none⟩) (es.length + 1) cv').ownBlock = some (w4.alloc (.cells #[.slice a9 k k] 22)).heap.size := by
            rcases HAT.out with h | h
            · exact .inl h.symm
            · exact .inr (by rw [World.size_alloc, h]; rfl)
          have hmore := HOW.out.more HBW.out dd a9 HR6.out (by rw [HDL.out]; exact HLOW.out) (by rw [HDL.out]; exact HOWN.out) HGR.out hat2
          have HMORE := Lib.hid hmore
          clear hmore hat2
          go_roundw
          case rel => exact ⟨es ++ [dd], _, HPM.out, by simp; rw [← HJ.out]; omega, by rw [List.length_append, ← HJ.out]; go_num, by rw [rowOf_snoc, HR5.out, HDL.out]; go_num, HMORE.out⟩
          case measure => simp [intOf]; omega
        · have HNZ := Lib.hid h0
          have hc0 : L.getD (itL L j k) 0 ≠ 0 := h0
          have d1 : wr.cell? ⟨bOf a4, oOf a4 + itL L j k, none⟩ = some (.int .i64 ((stepL L (itL L j k) : Nat) : Int)) := (HRT9.out.cell _ hil).trans (by rw [HTZ.out _ h0])
          have HIS := Lib.hid (itL_succ L j k)
          have HPS := Lib.hid (pathL_succ L j k)
          have HG2 : Hid (goesL L j (k + 1)) := fun q hq => by
            by_cases e : q < k
            · exact HGO.out q e
            · obtain rfl : q = k := by omega
              exact h0
          clear h0
          generalize itL L j k = i at *
          generalize L.getD i 0 = c at *
          generalize stepL L i = s at *
          have ht0 : (0 : Int) < (c : Int) := by omega
          have x1 : IntKind.u16.wrap ((c : Int) - 1) = ((c - 1 : Nat) : Int) := by rw [show (c : Int) - 1 = ((c - 1 : Nat) : Int) by omega]; exact IntWalk.u16_in _ (by omega)
          have x2 : IntKind.u8.wrap ((c - 1 : Nat) : Int) = ((c - 1 : Nat) : Int) := IntWalk.u8_in _ (by omega)
          have hba : bOf a4 < wo.heap.size := HRT.out.lt (by omega)
          by_cases hbad : 2000 < k + 1 ∨ L.length ≤ R + (k + 1)
          · have HFAIL := Lib.hid (HPT.out.fails (by rw [← HJ.out, HN.out]; exact hlt) (k + 1) (by rw [← HJ.out]; exact HG2.out) (by rw [HR5.out]; exact hbad))
            by_cases hb1 : (2000 : Int) < (k : Int) + 1
            · go_wp2_with (at_builtin; refine wpList_append_lies _ rfl _ _ _ rfl wo.heap.size 5 i8 _ 1 1 Try.underlying22 hi8 hx80 hx81 hx82 rfl (by omega) u9 k _ rfl (HO9.out.alloc _) ⟨wr.heap.size, 0, none⟩ 1 1 [.int .u8 ((c - 1 : Nat) : Int)] rfl rfl (cell_one_new _ _ _) (by simp [Value.oneCell']) (by omega) (by simp only [maxLen]; omega) (by omega) (by simp; omega) (wr.heap.size + 1) (by simp) ?_; intro gg cv' wq hown' hgrow hat hlt'; have hlo := HO9.out.lt; have HOW' := Lib.hid hown'; have HB' : Hid (Below wo.heap.size wo wq) := (HB9.out.alloc hs9 _).grown hgrow (by simp; omega) (fun g hg => (hlo g hg).1); have d5 : wq.cell? ⟨bOf a4, oOf a4 + i, none⟩ = some (.int .i64 (s : Int)) := (HB'.out.cell (p := ⟨bOf a4, oOf a4 + i, none⟩) hba).trans ((HB9.out.cell (p := ⟨bOf a4, oOf a4 + i, none⟩) hba).symm.trans d1); clear hown' hgrow hat hlo)
              go_ret2
              exact ⟨_, _, rfl, below_next HB2.out (below_next (HOW.out.bel) HB'.out HOW.out.bel.size) HB2.out.size, fun _ => HFAIL.out, fun h => by cases h⟩
            · have g1d : decide ((2000 : Int) < ((k : Int) + 1)) = false := by simp; omega
              have g2 : ((L.length : Int) - (R : Int) ≤ (k : Int) + 1) := by omega
              go_wp2_with (at_builtin; refine wpList_append_lies _ rfl _ _ _ rfl wo.heap.size 5 i8 _ 1 1 Try.underlying22 hi8 hx80 hx81 hx82 rfl (by omega) u9 k _ rfl (HO9.out.alloc _) ⟨wr.heap.size, 0, none⟩ 1 1 [.int .u8 ((c - 1 : Nat) : Int)] rfl rfl (cell_one_new _ _ _) (by simp [Value.oneCell']) (by omega) (by simp only [maxLen]; omega) (by omega) (by simp; omega) (wr.heap.size + 1) (by simp) ?_; intro gg cv' wq hown' hgrow hat hlt'; have hlo := HO9.out.lt; have HOW' := Lib.hid hown'; have HB' : Hid (Below wo.heap.size wo wq) := (HB9.out.alloc hs9 _).grown hgrow (by simp; omega) (fun g hg => (hlo g hg).1); have d5 : wq.cell? ⟨bOf a4, oOf a4 + i, none⟩ = some (.int .i64 (s : Int)) := (HB'.out.cell (p := ⟨bOf a4, oOf a4 + i, none⟩) hba).trans ((HB9.out.cell (p := ⟨bOf a4, oOf a4 + i, none⟩) hba).symm.trans d1); clear hown' hgrow hat hlo)
              go_ret2
              exact ⟨_, _, rfl, below_next HB2.out (below_next (HOW.out.bel) HB'.out HOW.out.bel.size) HB2.out.size, fun _ => HFAIL.out, fun h => by cases h⟩
          · have g1 : ¬ ((2000 : Int) < ((k : Int) + 1)) := by omega
            have g2 : ¬ ((L.length : Int) - (R : Int) ≤ (k : Int) + 1) := by omega
            have g1d : decide ((2000 : Int) < ((k : Int) + 1)) = false := by simp; omega
            have g2d : decide ((L.length : Int) - (R : Int) ≤ (k : Int) + 1) = false := by simp; omega
            go_wp2_with (at_builtin; refine wpList_append_lies _ rfl _ _ _ rfl wo.heap.size 5 i8 _ 1 1 Try.underlying22 hi8 hx80 hx81 hx82 rfl (by omega) u9 k _ rfl (HO9.out.alloc _) ⟨wr.heap.size, 0, none⟩ 1 1 [.int .u8 ((c - 1 : Nat) : Int)] rfl rfl (cell_one_new _ _ _) (by simp [Value.oneCell']) (by omega) (by simp only [maxLen]; omega) (by omega) (by simp; omega) (wr.heap.size + 1) (by simp) ?_; intro gg cv' wq hown' hgrow hat hlt'; have hlo := HO9.out.lt; have HOW' := Lib.hid hown'; have HB' : Hid (Below wo.heap.size wo wq) := (HB9.out.alloc hs9 _).grown hgrow (by simp; omega) (fun g hg => (hlo g hg).1); have d5 : wq.cell? ⟨bOf a4, oOf a4 + i, none⟩ = some (.int .i64 (s : Int)) := (HB'.out.cell (p := ⟨bOf a4, oOf a4 + i, none⟩) hba).trans ((HB9.out.cell (p := ⟨bOf a4, oOf a4 + i, none⟩) hba).symm.trans d1); clear hown' hgrow hat hlo)
            go_roundw
            case rel => exact ⟨k + 1, _, _, by rw [HIS.out], rfl, by omega, HG2.out, by rw [HPS.out, byteVs_snoc]; exact HOW'.out, HB'.out⟩
            case measure => rw [HV9.out]; simp [lenOf]; omega
    · obtain rfl : es.length = N := by omega
      obtain ⟨av, cv, hv, hcv, hnv, hdv⟩ := hown.docs
      have hbf : Below w.heap.size w wr := below_next HB2.out hown.bel HB2.out.size
      have hd : decide ((es.length : Int) < (es.length : Int)) = false := by simp
      have hwh := HPT.out.whole HN.out.symm
      rw [HR5.out] at hwh
      have HWH := Lib.hid hwh
      have HDV := Lib.hid hdv
      have HBF := Lib.hid hbf
      subst hv
      clear hwh hdv hbf hown
      by_cases hz : R = L.length
      · have hzz : ((L.length : Int) - (R : Int) == 0) = true := by rw [hz]; simp
        have HZ := Lib.hid hz
        clear hz
        go_wp2_with fail
        go_ret2
        exact ⟨_, _, rfl, HBF.out, fun h => (by cases h), fun _ => ⟨av, cv, A, es, rfl, hcv, hnv, HDV.out, HWH.out.1 HZ.out⟩⟩
      · have hzz : ((L.length : Int) - (R : Int) == 0) = false := by rw [beq_eq_false_iff_ne]; omega
        have HZ := Lib.hid hz
        clear hz
        go_wp2_with fail
        go_ret2
        exact ⟨_, _, rfl, HBF.out, fun _ => HWH.out.2 HZ.out, fun h => by cases h⟩
end Go.Proofs.Ytjpoebmjfedecaa

/-
  bwt.Docs, bwt.Ok.
-/
namespace Go.Proofs.Ytjpoebmjfedecaa
open Go.RowKit

theorem mem_reverse_path {L : List Nat} (hm : ∀ c ∈ L, c ≤ 256) {j k c : Nat} (hj : j < L.length) (hg : goesL L j k) (hc : c ∈ (pathL L j k).reverse) : c < 256 := by
  rw [List.mem_reverse] at hc
  unfold pathL at hc
  obtain ⟨q, hq, rfl⟩ := List.mem_map.1 hc
  have h1 := hm _ (getD_mem' (itL_lt L hm j hj q))
  have h2 := hg q (List.mem_range.1 hq)
  omega
theorem ReadsL.ok {L : List Nat} {es : List (List Nat)} (h : ReadsL L es) (hm : ∀ c ∈ L, c ≤ 256) (h5 : stC L 1 ≤ 500) (h6 : L.length ≤ 60000) : NewOk es := by
  refine ⟨by rw [h.many]; exact h5, fun d hd => ?_, by rw [h.all]; exact h6, fun d hd c hc => ?_⟩
  · obtain ⟨j, hj, rfl⟩ := List.getElem_of_mem hd
    have := h.long j hj
    rw [List.getD_eq_getElem?_getD, List.getElem?_eq_getElem hj] at this
    exact this
  · obtain ⟨j, hj, rfl⟩ := List.getElem_of_mem hd
    have hjl : j < L.length := Nat.lt_of_lt_of_le (by rw [← h.many]; exact hj) (stC_le L 1)
    obtain ⟨h1, h2⟩ := h.each j hj
    have e : es.getD j [] = es[j] := by rw [List.getD_eq_getElem?_getD, List.getElem?_eq_getElem hj]; rfl
    rw [e] at h1 h2
    rw [h2] at hc
    exact mem_reverse_path hm hjl h1.goes hc
def DocsPost (w : World) (L : List Nat) (e : Ending) (w' : World) : Prop :=
  (∃ a A es, e = .returned (.tuple #[.slice a es.length es.length, .int .i64 0]) ∧ DocsAt w' a A (fun j => (es.getD j []).length) es ∧ DocsL L es ∧ NewOk es ∧ anyGreat L = false ∧ Below w.heap.size w w') ∨
  (e = .returned (.tuple #[.slice none 0 0, .int .i64 1]) ∧ anyGreat L = true ∧ Below w.heap.size w w') ∨
  (e = .returned (.tuple #[.slice none 0 0, .int .i64 3]) ∧ anyGreat L = false ∧ (∀ ds, ¬ DocsL L ds) ∧ Below w.heap.size w w')
set_option maxRecDepth 100000 in
set_option maxHeartbeats 2000000 in
theorem docs_any (w : World) (a : Option Addr) (cap : Nat) (L : List Nat) (h6 : L.length ≤ 60000) (h5 : stC L 1 ≤ 500) (hr : Row w a L.length (symV L)) :
    Calls Try.prog 62 #[.slice a L.length cap] w (DocsPost w L) := by
  have HR := Lib.hid hr
  have HC := Lib.hid (containsF_any w a cap L (by omega) hr)
  have t0 : decide ((60500 : Int) < (L.length : Int)) = false := by simp; omega
  clear hr
  cases hg : anyGreat L with
  | true =>
    rw [hg] at HC
    have HG := Lib.hid hg
    clear hg
    go_enter Try.func62, Try.ntmps62
    go_wp2_with (go_at_call 77; refine HC.out.mono ?_; rintro e w' ⟨rfl, rfl⟩)
    go_ret2
    exact .inr (.inl ⟨rfl, HG.out, Below.refl _ _⟩)
  | false =>
    rw [hg] at HC
    have HG := Lib.hid hg
    have HM := Lib.hid (anyGreat_false hg)
    clear hg
    have HRD := Lib.hid (read_any w a cap L (by omega) HR.out HM.out)
    go_enter Try.func62, Try.ntmps62
    go_wp2_with (go_at_call 77; refine HC.out.mono ?_; rintro e w' ⟨rfl, rfl⟩)
    refine HRD.out.mono ?_
    rintro e w1 ⟨v, ok, rfl, hb1, hno, hyes⟩
    cases ok with
    | false =>
      have HNO := Lib.hid (hno rfl)
      have HB1 := Lib.hid hb1
      clear hno hyes hb1 HRD
      go_wp2
      go_ret2
      exact .inr (.inr ⟨rfl, HG.out, fun ds h => HNO.out ds h.1, HB1.out⟩)
    | true =>
      obtain ⟨a1, c1, A, es, rfl, hc1, hn1, hd1, hrd⟩ := hyes rfl
      have hok := hrd.ok HM.out h5 h6
      have HOK := Lib.hid hok
      have HRL := Lib.hid hrd
      have HD1 := Lib.hid hd1
      have HB1 := Lib.hid hb1
      have HN := Lib.hid (tnew_any w1 a1 c1 A _ es hd1 hok)
      clear hno hyes hb1 hd1 hrd hok HRD
      go_wp2_with fail
      refine HN.out.mono ?_
      rintro e w2 ⟨bt, x, rfl, ht, hb2⟩
      have HO := Lib.hid (of_any w2 bt x es ht HOK.out)
      have HD2 := Lib.hid (HD1.out.kept hb2)
      have HB2 : Hid (Below w.heap.size w w2) := below_next HB1.out hb2 HB1.out.size
      clear ht hb2 HN HD1 HB1
      go_wp2_with fail
      refine HO.out.mono ?_
      rintro e w3 ⟨a3, rfl, hr3, hb3, _⟩
      have HB3 : Hid (Below w.heap.size w w3) := below_next HB2.out hb3 HB2.out.size
      have HD3 := Lib.hid (HD2.out.kept hb3)
      have hbl : (bwtOf es).length ≤ 1000000 := by rw [bwtOf_len]; have := HOK.out.all; omega
      have HE := Lib.hid (equal16_any w3 a3 a (bwtOf es).length cap (bwtOf es) L hbl (by omega) hr3 (HR.out.kept HB3.out))
      clear hr3 hb3 HO HD2 HB2
      generalize (bwtOf es).length = nb at *
      by_cases heq : bwtOf es = L
      · have hdt : decide (bwtOf es = L) = true := by simp [heq]
        rw [hdt] at HE
        have HDL : Hid (DocsL L es) := ⟨HRL.out, heq⟩
        clear hdt heq
        go_wp2_with (first
          | (go_at_call 80; refine HE.out.mono ?_; rintro e w' ⟨rfl, m, rfl⟩)
          | (go_at_call 81; refine (clipBB_any _ a1 es.length c1 hc1 hn1).mono ?_; rintro e w' ⟨rfl, rfl⟩))
        go_ret2
        exact .inl ⟨a1, A, es, rfl, HD3.out.drewN m, HDL.out, HOK.out, HG.out, below_drewN HB3.out m⟩
      · have hdt : decide (bwtOf es = L) = false := by simp [heq]
        rw [hdt] at HE
        have HNO : Hid (∀ ds, ¬ DocsL L ds) := fun ds h => heq (by rw [← HRL.out.one h.1] at h; exact h.2)
        clear hdt heq
        go_wp2_with (go_at_call 80; refine HE.out.mono ?_; rintro e w' ⟨rfl, m, rfl⟩)
        go_ret2
        exact .inr (.inr ⟨rfl, HG.out, HNO.out, below_drewN HB3.out m⟩)
end Go.Proofs.Ytjpoebmjfedecaa
