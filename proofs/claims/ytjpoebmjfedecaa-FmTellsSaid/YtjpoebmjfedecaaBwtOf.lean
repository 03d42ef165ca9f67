/-
  bwt.Of; rows of symbols that are clipped, held against each other, looked through.
-/
import Derived.Test.YtjpoebmjfedecaaBwtStarts
namespace Go.Proofs.Ytjpoebmjfedecaa
open Go.RowKit

theorem clip16_any (w : World) (a : Option Addr) (n cap : Nat) (hn : n ≤ cap) (h0 : a = none → cap = 0) :
    Calls Try.prog 71 #[.slice a n cap] w fun e w' => e = .returned (.slice a n n) ∧ w = w' := by
  cases a with
  | none =>
    obtain rfl : cap = 0 := h0 rfl
    obtain rfl : n = 0 := by omega
    go_enter Try.func71, Try.ntmps71
    go_wp2
    go_ret
    exact ⟨rfl, rfl⟩
  | some ad =>
    clear h0
    go_enter Try.func71, Try.ntmps71
    go_wp2
    go_ret
    exact ⟨rfl, rfl⟩
theorem syms_eq {L M : List Nat} (hl : L.length = M.length) (h : ∀ k, k < L.length → L.getD k 0 = M.getD k 0) : L = M := by
  apply List.ext_getElem hl
  intro i h1 h2
  have := h i h1
  rw [List.getD_eq_getElem?_getD, List.getD_eq_getElem?_getD, List.getElem?_eq_getElem h1, List.getElem?_eq_getElem h2] at this
  exact this
set_option maxRecDepth 100000 in
set_option maxHeartbeats 1000000 in
theorem equal16_any (w : World) (a b : Option Addr) (ca cb : Nat) (L M : List Nat) (hn : L.length ≤ 1000000) (hn2 : M.length ≤ 1000000) (ha : Row w a L.length (symV L)) (hb : Row w b M.length (symV M)) :
    Calls Try.prog 80 #[.slice a L.length ca, .slice b M.length cb] w fun e w' => e = .returned (.bool (decide (L = M))) ∧ ∃ k, w' = w.drewN k := by
  have hix := run_ix (P := Try.prog) 70 (by kernel_rfl) size_u16 a L.length ca ha.at_ .i64
  have hiy := run_ix (P := Try.prog) 70 (by kernel_rfl) size_u16 b M.length cb hb.at_ .i64
  have HA := Lib.hid ha
  have HB := Lib.hid hb
  clear ha hb
  by_cases hl : L.length = M.length
  · have t0 : (L.length : Int) = (M.length : Int) := by omega
    have HL := Lib.hid hl
    have HX := Lib.hid (@syms_eq L M hl)
    generalize hbb : decide (L = M) = bb
    have HBB := Lib.hid hbb
    clear hbb
    rw [← hl] at hiy HB hn2 ⊢
    clear hl t0
    go_enter Try.func80, Try.ntmps80
    go_wp2
    go_loopw [13] (fun i wr => ∃ k : Nat, k ≤ L.length ∧ i = .int .i64 k ∧ (∀ q, q < k → L.getD q 0 = M.getD q 0) ∧ ∃ j, wr = w.drewN j) (fun i _ => L.length - (intOf i).toNat)
    case atStart => exact ⟨0, Nat.zero_le _, rfl, fun q hq => by omega, 0, rfl⟩
    case round =>
      obtain ⟨k, hk, rfl, hall, j, rfl⟩ := hrel
      have HALL := Lib.hid hall
      clear hall
      by_cases hlt : k < L.length
      · have d1 : w.cell? ⟨bOf a, oOf a + k, none⟩ = some (.int .u16 ((L.getD k 0 : Nat) : Int)) := HA.out.cell k hlt
        have d2 : w.cell? ⟨bOf b, oOf b + k, none⟩ = some (.int .u16 ((M.getD k 0 : Nat) : Int)) := HB.out.cell k hlt
        by_cases he : L.getD k 0 = M.getD k 0
        · rw [he] at d1
          have HE := Lib.hid he
          clear he
          obtain ⟨x, hx⟩ : ∃ x, x = M.getD k 0 := ⟨_, rfl⟩
          rw [← hx] at d1 d2
          clear hx
          go_wp2
          go_quiet (fail)
          go_wp2
          go_roundw
          case rel => exact ⟨k + 1, by omega, by go_num, fun q hq => by
            by_cases e : q < k
            · exact HALL.out q e
            · obtain rfl : q = k := by omega
              exact HE.out, _, rfl⟩
          case measure => simp [intOf]; omega
        · have hne : (((L.getD k 0 : Nat) : Int) != ((M.getD k 0 : Nat) : Int)) = true := by rw [bne_iff_ne]; omega
          have HNE := Lib.hid he
          have hfin : bb = false := by
            rw [← HBB.out, decide_eq_false_iff_not]
            intro e
            exact HNE.out (by rw [e])
          subst hfin
          clear he
          generalize L.getD k 0 = x at *
          generalize M.getD k 0 = y at *
          go_wp2
          go_quiet (fail)
          go_wp2
          go_ret
          exact ⟨rfl, _, World.drewN_drewN _ _ _⟩
      · obtain rfl : k = L.length := by omega
        have hd : decide ((L.length : Int) < L.length) = false := by simp
        have hfin : bb = true := by
          rw [← HBB.out, decide_eq_true_eq]
          exact HX.out HALL.out
        subst hfin
        go_wp2
        go_ret
        exact ⟨rfl, _, rfl⟩
  · have h1 : ((L.length : Int) != (M.length : Int)) = true := by rw [bne_iff_ne]; omega
    have hf : decide (L = M) = false := by rw [decide_eq_false_iff_not]; intro e; rw [e] at hl; exact hl rfl
    rw [hf]
    clear hl hf
    go_enter Try.func80, Try.ntmps80
    go_wp2
    go_ret
    exact ⟨rfl, 0, rfl⟩
set_option maxRecDepth 100000 in
set_option maxHeartbeats 1000000 in
theorem samesyms_any (w : World) (a b : Option Addr) (ca cb : Nat) (L M : List Nat) (hn : L.length ≤ 1000000) (hn2 : M.length ≤ 1000000) (ha : Row w a L.length (symV L)) (hb : Row w b M.length (symV M)) :
    Calls Try.prog 38 #[.slice a L.length ca, .slice b M.length cb] w fun e w' => e = .returned (.bool (decide (L = M))) ∧ ∃ k, w' = w.drewN k := by
  have hix := run_ix (P := Try.prog) 70 (by kernel_rfl) size_u16 a L.length ca ha.at_ .i64
  have hiy := run_ix (P := Try.prog) 70 (by kernel_rfl) size_u16 b M.length cb hb.at_ .i64
  have HA := Lib.hid ha
  have HB := Lib.hid hb
  clear ha hb
  by_cases hl : L.length = M.length
  · have t0 : (L.length : Int) = (M.length : Int) := by omega
    have HL := Lib.hid hl
    have HX := Lib.hid (@syms_eq L M hl)
    generalize hbb : decide (L = M) = bb
    have HBB := Lib.hid hbb
    clear hbb
    rw [← hl] at hiy HB hn2 ⊢
    clear hl t0
    go_enter Try.func38, Try.ntmps38
    go_wp2
    go_loopw [5] (fun i wr => ∃ k : Nat, k ≤ L.length ∧ i = .int .i64 k ∧ (∀ q, q < k → L.getD q 0 = M.getD q 0) ∧ ∃ j, wr = w.drewN j) (fun i _ => L.length - (intOf i).toNat)
    case atStart => exact ⟨0, Nat.zero_le _, rfl, fun q hq => by omega, 0, rfl⟩
    case round =>
      obtain ⟨k, hk, rfl, hall, j, rfl⟩ := hrel
      have HALL := Lib.hid hall
      clear hall
      by_cases hlt : k < L.length
      · have d1 : w.cell? ⟨bOf a, oOf a + k, none⟩ = some (.int .u16 ((L.getD k 0 : Nat) : Int)) := HA.out.cell k hlt
        have d2 : w.cell? ⟨bOf b, oOf b + k, none⟩ = some (.int .u16 ((M.getD k 0 : Nat) : Int)) := HB.out.cell k hlt
        by_cases he : L.getD k 0 = M.getD k 0
        · rw [he] at d1
          have HE := Lib.hid he
          clear he
          obtain ⟨x, hx⟩ : ∃ x, x = M.getD k 0 := ⟨_, rfl⟩
          rw [← hx] at d1 d2
          clear hx
          go_wp2
          go_quiet (fail)
          go_wp2
          go_roundw
          case rel => exact ⟨k + 1, by omega, by go_num, fun q hq => by
            by_cases e : q < k
            · exact HALL.out q e
            · obtain rfl : q = k := by omega
              exact HE.out, _, rfl⟩
          case measure => simp [intOf]; omega
        · have hne : (((L.getD k 0 : Nat) : Int) != ((M.getD k 0 : Nat) : Int)) = true := by rw [bne_iff_ne]; omega
          have HNE := Lib.hid he
          have hfin : bb = false := by
            rw [← HBB.out, decide_eq_false_iff_not]
            intro e
            exact HNE.out (by rw [e])
          subst hfin
          clear he
          generalize L.getD k 0 = x at *
          generalize M.getD k 0 = y at *
          go_wp2
          go_quiet (fail)
          go_wp2
          go_ret
          exact ⟨rfl, _, World.drewN_drewN _ _ _⟩
      · obtain rfl : k = L.length := by omega
        have hd : decide ((L.length : Int) < L.length) = false := by simp
        have hfin : bb = true := by
          rw [← HBB.out, decide_eq_true_eq]
          exact HX.out HALL.out
        subst hfin
        go_wp2
        go_ret
        exact ⟨rfl, _, rfl⟩
  · have h1 : ((L.length : Int) != (M.length : Int)) = true := by rw [bne_iff_ne]; omega
    have hf : decide (L = M) = false := by rw [decide_eq_false_iff_not]; intro e; rw [e] at hl; exact hl rfl
    rw [hf]
    clear hl hf
    go_enter Try.func38, Try.ntmps38
    go_wp2
    go_ret
    exact ⟨rfl, 0, rfl⟩
/-- is a symbol too great? -/
theorem great_any (w : World) (c : Nat) : Calls Try.prog 78 #[.int .u16 (c : Int)] w fun e w' => e = .returned (.bool (decide (256 < c))) ∧ w = w' := by
  by_cases h : 256 < c
  · have t1 : (256 : Int) < (c : Int) := by omega
    have t2 : decide (256 < c) = true := by simp [h]
    rw [t2]
    clear h t2
    go_enter Try.func78, Try.ntmps78
    go_wp2
    go_ret
    exact ⟨rfl, rfl⟩
  · have t1 : decide ((256 : Int) < (c : Int)) = false := by simp; omega
    have t2 : decide (256 < c) = false := by simp; omega
    rw [t2]
    clear h t2
    go_enter Try.func78, Try.ntmps78
    go_wp2
    go_ret
    exact ⟨rfl, rfl⟩
def anyGreat (L : List Nat) : Bool := L.any fun c => decide (256 < c)
theorem anyGreat_no {L : List Nat} (h : ∀ q, q < L.length → ¬ 256 < L.getD q 0) : anyGreat L = false := by
  unfold anyGreat
  rw [List.any_eq_false]
  intro c hc
  obtain ⟨q, hq, rfl⟩ := List.getElem_of_mem hc
  have := h q hq
  rw [List.getD_eq_getElem?_getD, List.getElem?_eq_getElem hq] at this
  simpa using this
theorem anyGreat_yes {L : List Nat} {q : Nat} (hq : q < L.length) (h : 256 < L.getD q 0) : anyGreat L = true := by
  unfold anyGreat
  rw [List.any_eq_true]
  exact ⟨_, getD_mem' hq, by simpa using h⟩
theorem anyGreat_false {L : List Nat} (h : anyGreat L = false) : ∀ c ∈ L, c ≤ 256 := by
  unfold anyGreat at h
  rw [List.any_eq_false] at h
  intro c hc
  have := h c hc
  simp at this; omega
attribute [irreducible] anyGreat
set_option maxRecDepth 100000 in
set_option maxHeartbeats 1000000 in
theorem indexF_any (w : World) (a : Option Addr) (cap : Nat) (L : List Nat) (hn : L.length ≤ 1000000) (hr : Row w a L.length (symV L)) :
    Calls Try.prog 94 #[.slice a L.length cap, .func (.func 78) #[] #[]] w fun e w' => (∃ z : Int, e = .returned (.int .i64 z) ∧ decide (0 ≤ z) = anyGreat L) ∧ w = w' := by
  have hix := run_ix (P := Try.prog) 70 (by kernel_rfl) size_u16 a L.length cap hr.at_ .i64
  have HR := Lib.hid hr
  have eg := enters_of Try.func78 (by kernel_rfl) rfl
  clear hr
  go_enter Try.func94, Try.ntmps94
  go_wp2
  go_loop [8] (fun ii => ∃ i : Nat, i ≤ L.length ∧ ii = .int .i64 i ∧ ∀ q, q < i → ¬ 256 < L.getD q 0) (fun ii => L.length - (intOf ii).toNat)
  case atStart => exact ⟨0, Nat.zero_le _, rfl, fun q hq => by omega⟩
  case round =>
    obtain ⟨i, hi, rfl, hall⟩ := hrel
    have HALL := Lib.hid hall
    clear hall
    by_cases hlt : i < L.length
    · have d0 : w.cell? ⟨bOf a, oOf a + i, none⟩ = some (.int .u16 ((L.getD i 0 : Nat) : Int)) := HR.out.cell i hlt
      by_cases hg : 256 < L.getD i 0
      · have HY := Lib.hid (anyGreat_yes hlt hg)
        have hgd : decide (256 < L.getD i 0) = true := by simpa using hg
        have hg2 := great_any w (L.getD i 0)
        rw [hgd] at hg2
        have HC := Lib.hid hg2
        clear hg hgd hg2
        generalize L.getD i 0 = c at *
        go_wp2_with (go_at_call 78; refine HC.out.mono ?_; rintro e w' ⟨rfl, rfl⟩)
        go_ret
        exact ⟨⟨_, rfl, by rw [HY.out]; simp⟩, rfl⟩
      · have HG := Lib.hid hg
        have hgd : decide (256 < L.getD i 0) = false := by simpa using hg
        have hg2 := great_any w (L.getD i 0)
        rw [hgd] at hg2
        have HC := Lib.hid hg2
        clear hg hgd hg2
        obtain ⟨c, hc⟩ : ∃ c, c = L.getD i 0 := ⟨_, rfl⟩
        rw [← hc] at d0 HC
        clear hc
        go_wp2_with (go_at_call 78; refine HC.out.mono ?_; rintro e w' ⟨rfl, rfl⟩)
        go_round
        case rel => exact ⟨i + 1, by omega, by go_num, fun q hq => by
          by_cases e : q < i
          · exact HALL.out q e
          · obtain rfl : q = i := by omega
            exact HG.out⟩
        case measure => simp [intOf]; omega
    · obtain rfl : i = L.length := by omega
      have hd : decide ((L.length : Int) < L.length) = false := by simp
      have HN := Lib.hid (anyGreat_no HALL.out)
      go_wp2
      go_ret
      exact ⟨⟨_, rfl, by rw [HN.out]; rfl⟩, rfl⟩
theorem containsF_any (w : World) (a : Option Addr) (cap : Nat) (L : List Nat) (hn : L.length ≤ 1000000) (hr : Row w a L.length (symV L)) :
    Calls Try.prog 77 #[.slice a L.length cap, .func (.func 78) #[] #[]] w fun e w' => e = .returned (.bool (anyGreat L)) ∧ w = w' := by
  have HC := Lib.hid (indexF_any w a cap L hn hr)
  clear hr
  go_enter Try.func77, Try.ntmps77
  go_wp2_with fail
  refine HC.out.mono ?_
  rintro e w' ⟨⟨z, rfl, hz⟩, rfl⟩
  go_wp2
  go_ret
  exact ⟨rfl, rfl⟩
def OfPost (w : World) (ds : List (List Nat)) (e : Ending) (w' : World) : Prop :=
  ∃ a, e = .returned (.slice a (bwtOf ds).length (bwtOf ds).length) ∧ Row w' a (bwtOf ds).length (symV (bwtOf ds)) ∧ Below w.heap.size w w' ∧ ((bwtOf ds).length = 0 ∨ w.heap.size ≤ bOf a)
theorem bwt_take (ds : List (List Nat)) (i : Nat) (hi : i < (rowOf ds).length) : (bwtOf ds).take (i + 1) = (bwtOf ds).take i ++ [(bwtOf ds).getD i 0] := take_succ_getD _ i (by rw [bwtOf_len]; exact hi)
/-- what append leaves, to be clipped -/
theorem owns_clip {w : World} {base : Nat} {e : TypeId} {v : Value} {n : Nat} {xs : List Value} (h : w.ownsRow base e 1 v n xs) :
    ∃ a cap, v = .slice a n cap ∧ n ≤ cap ∧ (a = none → cap = 0) ∧ Row w a n (fun k => xs.getD k undef) ∧ (n = 0 ∨ base ≤ bOf a) := by
  obtain ⟨a, cap, rfl, h1, h2, h3, _⟩ := Row.of_owns h
  refine ⟨a, cap, rfl, h1, fun e => ?_, h2, h3⟩
  rcases h.2 with ⟨e2, _⟩ | ⟨g, c, cur, e2, _⟩
  · injection e2
  · rw [e] at e2; cases e2
def symVs (L : List Nat) : List Value := L.map fun c : Nat => .int .u16 (c : Int)
set_option maxRecDepth 100000 in
set_option maxHeartbeats 1000000 in
theorem of_any (w : World) (bt : Nat) (x : TxP) (ds : List (List Nat)) (ht : TextAt w bt x ds) (hok : NewOk ds) :
    Calls Try.prog 54 #[.pointer (some ⟨bt, 0, none⟩)] w (OfPost w ds) := by
  have HT := Lib.hid ht
  have hall := hok.all
  have HAR := Lib.hid (array_any w bt x ds ht hok)
  have hixr := run_ix (P := Try.prog) 70 (by kernel_rfl) size_u16 x.ar (rowOf ds).length x.cr ht.row.at_ .i64
  have HBL := Lib.hid (bwtOf_len ds)
  have HPL := Lib.hid (prevS_le ds hok.byte)
  have hle : (bwtOf ds).length ≤ 60000 := by rw [bwtOf_len]; exact hall
  obtain ⟨i0, hi0, hz0, hz1, hz2⟩ := info_parts info_u16
  clear ht hok
  go_enter Try.func54, Try.ntmps54
  go_wp2_with fail
  refine (trow_any _ bt x ds HT.out).mono ?_
  rintro e w' ⟨rfl, rfl⟩
  go_wp2_with fail
  refine HAR.out.mono ?_
  rintro e w1 ⟨a1, c1, sa, rfl, hr1, hsa, hb1, _⟩
  obtain rfl : sa = saOf ds := hsa.one (saOf_sa ds)
  have hix := run_ix (P := Try.prog) 30 (by kernel_rfl) size_int a1 (rowOf ds).length c1 hr1.at_ .i64
  have HR1 := Lib.hid hr1
  have HB1 := Lib.hid hb1
  have HRW := Lib.hid (HT.out.row.kept hb1)
  have HMEM := Lib.hid hsa.mem
  have HLEN := Lib.hid hsa.len
  clear hr1 hb1 hsa HAR
  go_wp2_with fail
  go_loopw [4, 15] (fun v ii wr => ∃ i : Nat, i ≤ (rowOf ds).length ∧ ii = .int .i64 i ∧ wr.ownsRow w1.heap.size 110 1 v i (symVs ((bwtOf ds).take i)) ∧ Below w1.heap.size w1 wr) (fun _ ii _ => (rowOf ds).length - (intOf ii).toNat)
  case atStart => exact ⟨0, Nat.zero_le _, rfl, World.ownsRow_nil _ _ _ _, Below.refl _ _⟩
  case round =>
    obtain ⟨i, hi, rfl, hown, hbel⟩ := hrel
    have hs := hbel.size
    by_cases hlt : i < (rowOf ds).length
    · have d0 : wr.cell? ⟨bOf a1, oOf a1 + i, none⟩ = some (.int .i64 (((saOf ds).getD i 0 : Nat) : Int)) := (HR1.out.kept hbel).cell i hlt
      have hpm : (saOf ds).getD i 0 < (rowOf ds).length := (HMEM.out _).1 (getD_mem' (by rw [HLEN.out]; exact hlt))
      have hnx : symVs ((bwtOf ds).take (i + 1)) = symVs ((bwtOf ds).take i) ++ [.int .u16 ((prevS (rowOf ds) ((saOf ds).getD i 0) : Nat) : Int)] := by
        rw [bwt_take ds i hlt, bwtOf_at ds i hlt]; unfold symVs; rw [List.map_append]; rfl
      have HNX := Lib.hid hnx
      have HO := Lib.hid hown
      have HB := Lib.hid hbel
      have HRK := Lib.hid (HRW.out.kept hbel)
      clear hown hbel hnx
      generalize (saOf ds).getD i 0 = p at *
      cases p with
      | zero =>
        have hp0 : prevS (rowOf ds) 0 = 0 := rfl
        rw [hp0] at HNX
        clear hp0
        go_wp2_with (at_builtin; refine wpList_append_own _ rfl _ _ 70 rfl w1.heap.size 110 i0 (.int .u16 0) 1 2 Try.underlying70 hi0 hz0 hz1 hz2 rfl (by decide) _ _ _ rfl (HO.out.alloc _) ⟨wr.heap.size, 0, none⟩ 1 1 [.int .u16 0] rfl rfl (cell_one_new _ _ _) (by simp [Value.oneCell']) (by simp only [maxLen]; omega) (by omega) (by simp; omega) ?_; intro v' w2 hown' hgrow _)
        have hlt' := HO.out.lt
        have HO1 : Hid (w2.ownsRow w1.heap.size 110 1 v' (i + 1) (symVs ((bwtOf ds).take (i + 1)))) := by rw [HNX.out]; exact hown'
        have HB2 : Hid (Below w1.heap.size w1 w2) := (HB.out.alloc hs _).grown hgrow (by simp; omega) (fun g hg => (hlt' g hg).1)
        clear hown' hgrow hlt'
        go_wp2
        go_roundw
        case rel => exact ⟨i + 1, by omega, by go_num, HO1.out, HB2.out⟩
        case measure => simp [intOf]; omega
      | succ p =>
        rw [prevS_succ] at HNX
        have d1 : wr.cell? ⟨bOf x.ar, oOf x.ar + p, none⟩ = some (.int .u16 (((rowOf ds).getD p 0 : Nat) : Int)) := HRK.out.cell p (by omega)
        have hp1 : ((p + 1 : Nat) : Int) - 1 = (p : Int) := by omega
        have hp2 : IntKind.i64.wrap (((p + 1 : Nat) : Int) - 1) = (p : Int) := by rw [hp1]; exact IntWalk.i64_in _ (by omega)
        have hp3 : (0 : Int) < ((p + 1 : Nat) : Int) := by omega
        have hpl : p < (rowOf ds).length := by omega
        generalize (rowOf ds).getD p 0 = c at *
        go_wp2_with (at_builtin; refine wpList_append_own _ rfl _ _ 70 rfl w1.heap.size 110 i0 (.int .u16 0) 1 2 Try.underlying70 hi0 hz0 hz1 hz2 rfl (by decide) _ _ _ rfl (HO.out.alloc _) ⟨wr.heap.size, 0, none⟩ 1 1 [.int .u16 (c : Int)] rfl rfl (cell_one_new _ _ _) (by simp [Value.oneCell']) (by simp only [maxLen]; omega) (by omega) (by simp; omega) ?_; intro v' w2 hown' hgrow _)
        have hlt' := HO.out.lt
        have HO1 : Hid (w2.ownsRow w1.heap.size 110 1 v' (i + 1) (symVs ((bwtOf ds).take (i + 1)))) := by rw [HNX.out]; exact hown'
        have HB2 : Hid (Below w1.heap.size w1 w2) := (HB.out.alloc hs _).grown hgrow (by simp; omega) (fun g hg => (hlt' g hg).1)
        clear hown' hgrow hlt' hp1 hp2 hp3 d1
        go_wp2
        go_roundw
        case rel => exact ⟨i + 1, by omega, by go_num, HO1.out, HB2.out⟩
        case measure => simp [intOf]; omega
    · obtain rfl : i = (rowOf ds).length := by omega
      have hd : decide (((rowOf ds).length : Int) < (rowOf ds).length) = false := by simp
      obtain ⟨a', cap', hv, hcc, hca, hrw, hlow⟩ := owns_clip hown
      subst hv
      have HRWF : Hid (Row wr a' (bwtOf ds).length (symV (bwtOf ds))) := by
        rw [HBL.out]
        exact hrw.congr fun k hk => by
          rw [← HBL.out, List.take_length]
          unfold symVs symV
          rw [List.getD_eq_getElem?_getD, List.getElem?_map, List.getD_eq_getElem?_getD, List.getElem?_eq_getElem (by rw [HBL.out]; exact hk)]; rfl
      have HBF : Hid (Below w.heap.size w wr) := below_next HB1.out hbel HB1.out.size
      have hsz := HB1.out.size
      have HLOW : Hid ((bwtOf ds).length = 0 ∨ w.heap.size ≤ bOf a') := by
        rw [HBL.out]
        rcases hlow with h | h
        · exact .inl h
        · exact .inr (by omega)
      clear hown hrw hbel hlow
      go_wp2_with fail
      refine (clip16_any _ a' _ cap' hcc hca).mono ?_
      rintro e w' ⟨rfl, rfl⟩
      go_wp2
      go_ret
      exact ⟨a', by rw [HBL.out]; rfl, HRWF.out, HBF.out, HLOW.out⟩
end Go.Proofs.Ytjpoebmjfedecaa
