/-
  Texts of this claim, one behind the other.
-/
import Derived.Test.YtjpoebmjfedecaaFmNew
import Derived.Test.YtjpoebmjfedecaaBwtRev
import Derived.Test.YtjpoebmjfedecaaPlainFmTells
import Derived.Test.YtjpoebmjfedecaaWalkOwn
import Derived.Test.YtjpoebmjfedecaaTextWalk

/-
  Get: a document, gathered backwards from its end's row.
-/
namespace Go.Proofs.Ytjpoebmjfedecaa
open Go.RowKit

def RevXPost (w : World) (base : Nat) (a : Option Addr) (v : Value) (d : List Nat) (e : Ending) (w' : World) : Prop :=
  e = .returned (.tuple #[]) ∧ w'.ownsRow base 5 1 v d.length (byteVs d.reverse) ∧ Below base w w' ∧ w.heap.size ≤ w'.heap.size ∧ KeepX (fun b => b ≠ bOf a) w w'
set_option maxRecDepth 100000 in
set_option maxHeartbeats 1000000 in
theorem reverseX_any (w : World) (base : Nat) (a : Option Addr) (cap : Nat) (d : List Nat) (hn : d.length ≤ 1000000) (h : w.ownsRow base 5 1 (.slice a d.length cap) d.length (byteVs d)) :
    Calls Try.prog 59 #[.slice a d.length cap] w (RevXPost w base a (.slice a d.length cap) d) := by
  have hix := run_ix (P := Try.prog) 22 (by kernel_rfl) size_u8 a d.length cap (owns_row h).1.at_ .i64
  have HO := Lib.hid h
  clear h
  have e0 : IntKind.i64.wrap ((d.length : Int) - 1) = (d.length : Int) - 1 := IntWalk.i64_in _ (by omega)
  go_enter Try.func59, Try.ntmps59
  go_wp2
  go_loopw [2, 3] (fun ii jj wr => ∃ i : Nat, i ≤ d.length ∧ ii = .int .i64 i ∧ jj = .int .i64 ((d.length : Int) - 1 - i) ∧ wr.ownsRow base 5 1 (.slice a d.length cap) d.length (byteVs (revI d i)) ∧ Below base w wr ∧ w.heap.size ≤ wr.heap.size ∧ KeepX (fun b => b ≠ bOf a) w wr) (fun ii _ _ => d.length - (intOf ii).toNat)
  case atStart => exact ⟨0, Nat.zero_le _, rfl, by simp, by rw [revI_zero]; exact HO.out, Below.refl _ _, Nat.le_refl _, KeepX.refl _ _⟩
  case round =>
    obtain ⟨i, hi, rfl, rfl, hown, hbel, hsz, hkx⟩ := hrel
    have HKX := Lib.hid hkx
    clear hkx
    by_cases hlt : i + 1 < d.length - i
    · obtain ⟨j, hj⟩ : ∃ j, j = d.length - 1 - i := ⟨_, rfl⟩
      have hjz : (d.length : Int) - 1 - (i : Int) = (j : Int) := by omega
      rw [hjz]
      have hij : (i : Int) < (j : Int) := by omega
      have hil : i < d.length := by omega
      have hjl : j < d.length := by omega
      obtain ⟨c1, f1, k1, b1, s1⟩ := owns_store hown i hil
      obtain ⟨c2, f2, k2, b2, s2⟩ := owns_store hown j hjl
      rw [byteVs_at _ _ (by rw [revI_len]; exact hil)] at c1
      rw [byteVs_at _ _ (by rw [revI_len]; exact hjl)] at c2
      have hnx := revI_succ d i hlt
      rw [← hj] at hnx
      generalize hx : (revI d i).getD i 0 = x at *
      generalize hy : (revI d i).getD j 0 = y at *
      obtain ⟨o1, g1⟩ := s1 (.int .u8 (y : Int))
      obtain ⟨c3, f3, k3, b3, s3⟩ := owns_store o1 j hjl
      obtain ⟨o2, g2⟩ := s3 (.int .u8 (x : Int))
      rw [byteVs_set, byteVs_set, ← hnx] at o2
      rw [byteVs_set, byteVs_at _ _ (by rw [List.length_set, revI_len]; exact hjl), set_at _ _ _ _ (by rw [revI_len]; exact hil), if_neg (by omega), hy] at c3
      have HO2 := Lib.hid o2
      have HG1 := Lib.hid g1
      have HG2 := Lib.hid g2
      have HB := Lib.hid hbel
      have HS1 := Lib.hid g1.size
      have HS2 := Lib.hid g2.size
      have hgl : base ≤ wr.heap.size := Nat.le_trans b1 (Nat.le_of_lt (World.block_lt_of_cell? wr _ c1))
      clear hown hbel s1 s2 s3 hnx o1 o2 g1 g2 hx hy hj k1 k2 k3 b2 b3 e0
      go_wp2_with fail
      go_region
      clear c1 c2 c3 f1 f2 f3
      go_wp2
      go_roundw
      case rel => exact ⟨i + 1, by omega, by go_num, by (refine congrArg (Value.int .i64) ?_) <;> omega, HO2.out, ((HB.out.grown HG1.out hgl (fun k hk => by cases hk; exact b1)).grown HG2.out (Nat.le_trans hgl HS1.out) (fun k hk => by cases hk; exact b1)).drew, by have := HS1.out; have := HS2.out; exact Nat.le_trans hsz (Nat.le_trans HS1.out HS2.out), ((HKX.out.trans (KeepX.gb HG1.out (fun r e => by cases e; exact fun h => h rfl))).trans (KeepX.gb HG2.out (fun r e => by cases e; exact fun h => h rfl))).drewN 1⟩
      case measure => simp [intOf]; omega
    · have hij : decide ((i : Int) < (d.length : Int) - 1 - (i : Int)) = false := by simp; omega
      rw [revI_all d i (by omega)] at hown
      have HO2 := Lib.hid hown
      have HB := Lib.hid hbel
      clear hown hbel e0
      generalize (d.length : Int) - 1 - (i : Int) = jz at *
      go_wp2
      go_end0
      exact ⟨rfl, HO2.out, HB.out, hsz, HKX.out⟩
open Go.Shelf
attribute [local go_sem] Oper.semAt_some

def GetPost (w : World) (ds : List (List Nat)) (j : Nat) (e : Ending) (w' : World) : Prop :=
  ∃ a, e = .returned (.tuple #[.slice a (ds.getD j []).length (ds.getD j []).length, .bool true]) ∧ Row w' a (ds.getD j []).length (byteV (ds.getD j [])) ∧ Below w.heap.size w w' ∧ ((ds.getD j []).length = 0 ∨ w.heap.size ≤ bOf a)
set_option maxRecDepth 100000 in
set_option maxHeartbeats 400000 in
theorem fget_no (w : World) (bf : Nat) (ds : List (List Nat)) (h : FmAt w bf ds) (doc : Int) (hd : doc < 0 ∨ (ds.length : Int) ≤ doc) :
    Calls Try.prog 35 #[.pointer (some ⟨bf, 0, none⟩), .int .i64 doc] w fun e w' => e = .returned (.tuple #[.slice none 0 0, .bool false]) ∧ Below w.heap.size w w' := by
  have HD := Lib.hid (fun W (h : FmAt W bf ds) => fdocs_any W bf ds h)
  have HF := Lib.hid h
  clear h
  by_cases h0 : doc < 0
  · clear hd
    go_enter Try.func35, Try.ntmps35
    go_wp2
    go_ret2
    exact ⟨rfl, Below.refl _ _⟩
  · have h1 : (ds.length : Int) ≤ doc := by omega
    have h2 : decide (doc < 0) = false := by simp; omega
    clear hd
    go_enter Try.func35, Try.ntmps35
    go_wp2_with fail
    refine (HD.out _ HF.out).mono ?_
    rintro e w' ⟨rfl, rfl⟩
    go_wp2
    go_ret2
    exact ⟨rfl, Below.refl _ _⟩
set_option maxRecDepth 100000 in
set_option maxHeartbeats 2000000 in
theorem fget_any (w : World) (bf : Nat) (ds : List (List Nat)) (hok : NewOk ds) (h : FmAt w bf ds) (j : Nat) (hj : j < ds.length) :
    Calls Try.prog 35 #[.pointer (some ⟨bf, 0, none⟩), .int .i64 (j : Int)] w (GetPost w ds j) := by
  refine (callsIn_wide (n := 5)).1 ?_
  have hwf : ∀ f, Fence.wide.fn f = True := fun _ => rfl
  have HD := Lib.hid (fdocs_any w bf ds h)
  obtain ⟨bx, bm, al, cap, Y, bp, bq, vS, vZ, hf⟩ := h
  have c0 := hf.c0
  have hba : Below w.heap.size w (w.alloc (.cells #[.slice none 0 0] 22)) := (Below.refl _ w).alloc (Nat.le_refl _) _
  have c1 : (w.alloc (.cells #[.slice none 0 0] 22)).cell? ⟨bf, 0, none⟩ = some (.pointer (some ⟨bx, 0, none⟩)) := (hba.cell (p := ⟨bf, 0, none⟩) hf.lt).trans c0
  have HF := Lib.hid hf
  have HOK := Lib.hid hok
  have BO := ((Boxed.new w 22 (.slice none 0 0)).alloc (.cells #[.pointer (some ⟨bx, 0, none⟩)] 23)).alloc (.cells #[.int .i64 (j : Int)] 3)
  have BX := (Boxed.new (w.alloc (.cells #[.slice none 0 0] 22)) 23 (.pointer (some ⟨bx, 0, none⟩))).alloc (.cells #[.int .i64 (j : Int)] 3)
  have BI := Boxed.new ((w.alloc (.cells #[.slice none 0 0] 22)).alloc (.cells #[.pointer (some ⟨bx, 0, none⟩)] 23)) 3 (.int .i64 (j : Int))
  have hB4 : Below w.heap.size w (((w.alloc (.cells #[.slice none 0 0] 22)).alloc (.cells #[.pointer (some ⟨bx, 0, none⟩)] 23)).alloc (.cells #[.int .i64 (j : Int)] 3)) := (((Below.refl _ w).alloc (Nat.le_refl _) _).alloc (by simp) _).alloc (by simp; omega) _
  have hs4 : (((w.alloc (.cells #[.slice none 0 0] 22)).alloc (.cells #[.pointer (some ⟨bx, 0, none⟩)] 23)).alloc (.cells #[.int .i64 (j : Int)] 3)).heap.size = w.heap.size + 3 := by simp
  simp only [World.size_alloc] at BO BX BI
  obtain ⟨hj1, hj2⟩ := row_end ds j hj
  have hjL : j < (bwtOf ds).length := by rw [bwtOf_len, ← rows_len]; exact hj1
  have hdl := hok.long _ (doc_mem hj)
  have HRD := Lib.hid ((reads_bwt ds hok).each j hj)
  obtain ⟨d, hd⟩ : ∃ d, (ds.getD j []).length = d := ⟨_, rfl⟩
  rw [hd] at hdl hj2
  have hdL : d < (bwtOf ds).length := by
    have := place_lt ds j d hj (by omega)
    rw [bwtOf_len]; omega
  have HWK : Hid (WkOf (bwtOf ds) (j : Int) (wkTo (bwtOf ds) j d)) := .inl ⟨j, d, rfl, hjL, way_ends ds hok.byte j j d hj1 hj2, hdL, rfl⟩
  have HDD := Lib.hid hd
  have HBO := Lib.hid BO
  have HBX := Lib.hid BX
  have HBI := Lib.hid BI
  have HB4 := Lib.hid hB4
  have HS4 := Lib.hid hs4
  have t0 : decide ((j : Int) < 0) = false := by simp
  have t1 : decide ((ds.length : Int) ≤ (j : Int)) = false := by simp; omega
  have t2 : decide (ds.length ≤ j) = false := by simp; omega
  clear hok hf hba BO BX BI hB4 hs4 hj1 hj2 hjL hdL hd
  refine callsIn_of_wp_marks Try.func35 rfl trivial ?_ rfl
  simp only [Try.ntmps35, List.size_toArray, List.length_cons, List.length_nil, Nat.reduceAdd, Nat.reduceSub, Array.replicate_succ, Array.replicate_zero, List.push_toArray, List.append_toArray, List.nil_append, List.cons_append]
  gi_wp2_with (first
    | (gi_at_call 30; refine (callsIn_wide.2 HD.out).mono ?_; rintro e w2 ⟨rfl, rfl⟩)
    | (gi_at_call 43; refine (callsIn_wide.2 (bwalk_any _ bx (j : Int))).mono ?_; rintro e w4 ⟨rfl, rfl⟩; simp only [World.size_alloc]))
  generalize (((w.alloc (.cells #[.slice none 0 0] 22)).alloc (.cells #[.pointer (some ⟨bx, 0, none⟩)] 23)).alloc (.cells #[.int .i64 (j : Int)] 3)) = w4 at *
  have hs4 := HS4.out
  have HK4 : Hid (Keeps w w4) := Keeps.of_below HB4.out
  obtain ⟨i0, hi0, hz0, hz1, hz2⟩ := info_parts info_u8
  clear c1
  refine wpIn_rangeFunc_G rfl (by omega) (gf := 64) (lb := #[.pointer (some ⟨w.heap.size + 1 + 1, 0, none⟩), .pointer (some ⟨w.heap.size + 1, 0, none⟩)]) rfl trivial (enters_of Try.func64 (by kernel_rfl) rfl)
    (walkX 4 (by omega) (fun b => b < w4.heap.size ∧ b ≠ w.heap.size) w bx bm al cap (bwtOf ds) HF.out.ix (fun b h => ⟨by omega, by omega⟩) (w.heap.size + 1 + 1) (w.heap.size + 1) ⟨by omega, by omega⟩ (j : Int) _ HWK.out w4 HK4.out (by omega) HBI.out.cell HBX.out.cell)
    (fun b h => h.1) (Below.refl _ _) (fun _ => rfl)
    (fun X (pre : List (Nat × Fin 256)) W => (∃ v, (Boxed W w.heap.size 22 v ∧ ¬ X w.heap.size) ∧ W.ownsRow w4.heap.size 5 1 v pre.length (byteVs (pathL (bwtOf ds) j pre.length)) ∧ (∀ g, v.ownBlock = some g → ¬ X g) ∧ True) ∧ (Below w.heap.size w4 W ∧ ∀ b, X b → w.heap.size ≤ b) ∧ ∀ b, X b → b < W.heap.size)
    (fun _ _ _ _ => False)
    (Fr.and (Fr.row w.heap.size 22 w4.heap.size 5 1 (fun pre : List (Nat × Fin 256) => pre.length) (fun pre => byteVs (pathL (bwtOf ds) j pre.length)) (fun _ => True)) (Fr.and (Fr.below (by omega)) Fr.bd))
    (fun c X X' s A B hs st hx => hs.elim)
    ⟨⟨_, ⟨HBO.out, fun h => h⟩, by rw [List.length_nil, pathL_zero, byteVs_nil]; exact World.ownsRow_nil _ _ _ _, fun g h => by simp [Value.ownBlock] at h, trivial⟩, ⟨Below.refl _ _, fun b h => h.elim⟩, fun b h => h.elim⟩
    (fun y => { tmps := #[.pointer (some ⟨bf, 0, none⟩), .int .i64 (j : Int), undef, undef, .slice none 0 0, .bool false, .pointer (some ⟨w.heap.size, 0, none⟩), undef, .int .u8 ((y.2.val : Nat) : Int), .int .i64 (j : Int), .bool false, .bool false, .int .i64 (j : Int), .pointer (some ⟨bf, 0, none⟩), .int .i64 (ds.length : Int), .bool false, .bool false, .pointer (some ⟨bf, 0, none⟩), .pointer (some ⟨bf, 0, none⟩), .pointer (some ⟨bf, 0, none⟩), .pointer (some ⟨bx, 0, none⟩), .int .i64 (j : Int), .func (.func 64) #[] #[.pointer (some ⟨w.heap.size + 1 + 1, 0, none⟩), .pointer (some ⟨w.heap.size + 1, 0, none⟩)], .int .i64 ((y.1 : Nat) : Int), .int .u8 ((y.2.val : Nat) : Int), undef, undef, undef, undef, undef, undef, undef, undef], defers := [] }) ?assign ?body ?done ?stop
  case assign =>
    intro l y W G hG
    unfold bwV
    gi_wp2
    exact hG
  case body =>
    rintro l X pre y W - hXl ⟨⟨v, hv, hrow, hg, _⟩, ⟨hB, hge⟩, hbd⟩ hok2
    obtain ⟨y1, y2⟩ := y
    have hlt2 : pre.length < d := by
      rcases Nat.lt_or_ge pre.length d with h | h
      · exact h
      · rw [List.getElem?_eq_none (by rw [wkTo_len]; exact h)] at hok2; cases hok2
    rw [wkTo_at (bwtOf ds) j hlt2] at hok2
    obtain ⟨rfl, rfl⟩ := Prod.mk.inj (Option.some.inj hok2)
    have hcb : (bwtOf ds).getD (itL (bwtOf ds) j pre.length) 0 - 1 < 256 := by
      rcases Nat.lt_or_ge (itL (bwtOf ds) j pre.length) (bwtOf ds).length with h | h
      · have := bwtOf_le ds HOK.out.byte _ (getD_mem' h); omega
      · rw [List.getD_eq_getElem?_getD, List.getElem?_eq_none h]; simp
    have HPS := Lib.hid (pathL_succ (bwtOf ds) j pre.length)
    rw [← byF_val _ hcb] at HPS
    generalize byF ((bwtOf ds).getD (itL (bwtOf ds) j pre.length) 0 - 1) = c at *
    generalize itL (bwtOf ds) j (pre.length + 1) = r at *
    obtain ⟨c, hc256⟩ := c
    simp only at HPS
    have hc := hv.1.cell
    have hs := hB.size
    obtain ⟨a', cap', rfl⟩ : ∃ a' cap', v = .slice a' pre.length cap' := by
      rcases hrow.2 with ⟨rfl, h⟩ | ⟨g, cap, cur, rfl, _⟩
      · exact ⟨none, 0, by rw [h]⟩
      · exact ⟨_, _, rfl⟩
    have HV := Lib.hid hv
    have HO := Lib.hid hrow
    have HG := Lib.hid hg
    have HBD := Lib.hid hbd
    have HB5 := Lib.hid hB
    have HGE := Lib.hid hge
    have HOC : ∀ u ∈ [Value.int .u8 (c : Int)], u.oneCell' = true := by simp [Value.oneCell']
    have HML : pre.length + 1 ≤ maxLen := by unfold maxLen; omega
    have HBY : (pre.length + 1) * 1 ≤ 140737488355328 := by omega
    clear hv hrow hg hbd hB hge hok2 hcb
    gi_wp2_with (gi_at_builtin; refine wpListIn_append_own_at _ rfl _ _ 22 rfl w4.heap.size 5 i0 (.int .u8 0) 1 1 Try.underlying22 hi0 hz0 hz1 hz2 rfl (by decide) _ _ _ rfl (HO.out.alloc _) ⟨W.heap.size, 0, none⟩ 1 1 [.int .u8 (c : Int)] rfl rfl (cell_one_new _ _ _) HOC HML HBY (by simp; omega) ?_; intro v' w1 hown' hgrow _ hat; obtain ⟨g', cg', rfl⟩ := own_slice' hown'; obtain ⟨hv1, hv2, hr2, hg2, hk2, hb2, hb3, hs2⟩ := boxed_appX HV.out HO.out HG.out HBD.out (by omega) (by omega) hown' hgrow hat; have hc1 := hv1.cell; have hf1 := hv1.frozen; have HV2 := Lib.hid hv2; have HR2 := Lib.hid hr2; have HG2 := Lib.hid hg2; have HK2 := Lib.hid hk2; have HBB := Lib.hid hb2; have HBW := Lib.hid hb3; have HSS := Lib.hid hs2; clear hv1 hv2 hr2 hg2 hk2 hb2 hb3 hs2 hown' hgrow hat)
    refine ⟨HK2.out, ⟨HSS.out, fun b hb hk => HBB.out b hk.1 hk.2⟩, ⟨_, HV2.out, ?_, HG2.out, trivial⟩, ⟨HB5.out.trans (HBW.out _ (by omega)), HGE.out⟩, fun b hb => Nat.lt_of_lt_of_le (HBD.out b hb) HSS.out⟩
    rw [List.length_append, List.length_singleton, HPS.out, byteVs_snoc]; exact HR2.out
  case done =>
    rintro D X xs W2 hD hXD rfl ⟨⟨v, hv, hrow, hg, _⟩, ⟨hB, hge⟩, hbd⟩ hk
    rw [wkTo_len] at hrow
    obtain ⟨a', cap', rfl⟩ : ∃ a' cap', v = .slice a' d cap' := by
      rcases hrow.2 with ⟨rfl, h⟩ | ⟨g, cap, cur, rfl, _⟩
      · exact ⟨none, 0, by rw [h]⟩
      · exact ⟨_, _, rfl⟩
    have hpl := pathL_len (bwtOf ds) j d
    have HREV := reverseX_any W2 w4.heap.size a' cap' (pathL (bwtOf ds) j d) (by rw [hpl]; omega) (by rw [hpl]; exact hrow)
    rw [hpl] at HREV
    have HRV := Lib.hid HREV
    have hDl := (Array.getElem?_eq_some_iff.1 hk).1
    have hDa : D ≠ bOf a' := by
      intro e
      cases ha : a' with
      | none => rw [ha] at e; simp [bOf] at e; omega
      | some ad =>
        subst ha
        obtain ⟨g, hg3⟩ : ∃ g, (Value.slice (some ad) d cap').ownBlock = some g := by
          rcases hrow.2 with ⟨h, _⟩ | ⟨g, cap2, cur, h, _⟩
          · cases h
          · exact ⟨g, by rw [h]; rfl⟩
        have hg4 := hg g hg3
        have : g = bOf (some ad) := by
          rcases hrow.2 with ⟨h, _⟩ | ⟨g2, cap2, cur, h, _⟩
          · cases h
          · injection h with h1 _ _
            injection h1 with h1
            subst h1
            simp [Value.ownBlock] at hg3
            simp [bOf, hg3]
        rw [← this] at e
        exact hg4 (e ▸ hXD)
    have hc := hv.1.cell
    have HV := Lib.hid hv
    have HBW : Hid (Below w.heap.size w W2) := HB4.out.trans hB
    have HDK := Lib.hid hk
    have HPL := Lib.hid hpl
    clear hv hrow hg hB hge hbd hk HREV hpl HBO HBX HBI HK4
    gi_wp2_with fail
    refine (callsIn_wide.2 HRV.out).mono ?_
    rintro e W3 ⟨rfl, ho3, hb3, hs3, hkx3⟩
    rw [HPL.out] at ho3
    obtain ⟨a5, c5, hv5, hc5, hn5, hr5, hlow5⟩ := owns_clip ho3
    obtain ⟨rfl, rfl⟩ : a' = a5 ∧ cap' = c5 := by injection hv5 with q1 q2 q3; exact ⟨q1, q3⟩
    have hdoc : ds.getD j [] = (pathL (bwtOf ds) j d).reverse := by rw [← HDD.out]; exact HRD.out.2
    have hr6 : Row W3 a' (pathL (bwtOf ds) j d).reverse.length (byteV (pathL (bwtOf ds) j d).reverse) := byteVs_row (by rw [List.length_reverse, HPL.out]; exact hr5)
    rw [← hdoc, HDD.out] at hr6
    have hDK3 : W3.heap[D]? = some (.deferred (some [])) := (hkx3.block D hDl hDa).trans HDK.out
    have hc3 : W3.cell? ⟨w.heap.size, 0, none⟩ = some (.slice a' d cap') := (World.cell?_of_block (a := ⟨w.heap.size, 0, none⟩) (hb3.block _ (show w.heap.size < w4.heap.size by omega))).trans hc
    have HFIN : Hid (GetPost w ds j (.returned (.tuple #[.slice a' d d, .bool true])) (W3.putObj D (.deferred none))) := by
      unfold Hid GetPost
      rw [HDD.out]
      refine ⟨a', rfl, hr6.gb (grownBy_putObj' W3 D (.deferred none)) ?_, (HBW.out.trans (hb3.mono (by omega))).trans (belowK_b (w := w) (Nat.le_refl _) W3 D _ _ (by omega) hDK3 rfl rfl), hlow5.imp id (fun h => by omega)⟩
      exact .inr fun e => hDa (Option.some.inj e).symm
    have HCL := Lib.hid (clipB_any W3 a' d cap' hc5 hn5)
    have HK3 := Lib.hid hDK3
    clear hr5 hr6 hlow5 hDK3 hb3 hkx3 ho3 hv5 hdoc hc HRV
    gi_wp2_with fail
    refine (callsIn_wide.2 HCL.out).mono ?_
    rintro e W5 ⟨rfl, rfl⟩
    gi_wp2
    refine ⟨by simp, .inl ⟨_, _, rfl, run_takeDeferred HK3.out, ?_⟩⟩
    refine ⟨_, results_tmp2 rfl _ _ _, ?_⟩
    exact HFIN.out
  case stop =>
    rintro D X c pre W2 hD hXD hpre hf hk
    exact hf.elim
end Go.Proofs.Ytjpoebmjfedecaa

/-
  Piece: a piece of a document.
-/
namespace Go.Proofs.Ytjpoebmjfedecaa
open Go.RowKit

/-- a cut within bytes -/
def cutB (a : Option Addr) (cap l : Nat) : Option Addr := if cap = l then a else a.map (·.add (l * 1))
theorem cut_lh8 (a : Option Addr) (n cap l h : Nat) (hl : l ≤ h) (hh : h ≤ n) (hc : n ≤ cap) : ∀ W : World, (Instr.slice 22 (.slice a n cap) (some (.int .i64 (l : Int))) (some (.int .i64 (h : Int))) none).run Try.prog W = .ok (.slice (cutB a cap l) (h - l) (cap - l)) W := by
  intro W
  rw [run_slice_lh (P := Try.prog) (w := W) 22 a n cap (by kernel_rfl) .i64 .i64 (l : Int) (h : Int) (by omega) (by omega) (by omega), size_u8 W]
  rfl
theorem cut_row {w : World} {a : Option Addr} {n : Nat} {f : Nat → Value} (hr : Row w a n f) (cap l h : Nat) (hl : l ≤ h) (hh : h ≤ n) (hc : n ≤ cap) : Row w (cutB a cap l) (h - l) (fun k => f (l + k)) := by
  rcases Nat.eq_zero_or_pos (h - l) with h0 | h0
  · rw [h0]; exact Row.nil _ _ _
  · have ha := hr.at_.resolve_left (by omega)
    have hcell := hr.cell
    unfold cutB
    have e1 : a.map (·.add (l * 1)) = some ⟨bOf a, oOf a + l * 1, none⟩ := by
      conv => lhs; rw [ha]
      simp [Addr.add]
    rw [if_neg (by omega), e1]
    refine ⟨.inr rfl, fun k hk => ?_⟩
    have := hcell (l + k) (by omega)
    show w.cell? ⟨bOf a, oOf a + l * 1 + k, none⟩ = _
    rw [show oOf a + l * 1 + k = oOf a + (l + k) by omega]
    exact this
attribute [irreducible] cutB
def PiecePost (w : World) (d : List Nat) (e : Ending) (w' : World) : Prop :=
  ∃ a, e = .returned (.tuple #[.slice a d.length d.length, .bool true]) ∧ Row w' a d.length (byteV d) ∧ Below w.heap.size w w'
def pieceL (d : List Nat) (k m : Nat) : List Nat := (d.drop k).take m
theorem pieceL_len (d : List Nat) (k m : Nat) : (pieceL d k m).length = min m (d.length - k) := by unfold pieceL; rw [List.length_take, List.length_drop]
set_option maxRecDepth 100000 in
set_option maxHeartbeats 1000000 in
theorem fpiece_any (w : World) (bf : Nat) (ds : List (List Nat)) (hok : NewOk ds) (h : FmAt w bf ds) (j : Nat) (hj : j < ds.length) (k m : Nat) (hk : (Lit.int .i64 (k : Int)).wf = true) (hm : (Lit.int .i64 (m : Int)).wf = true) :
    Calls Try.prog 29 #[.pointer (some ⟨bf, 0, none⟩), .int .i64 (j : Int), .int .i64 (k : Int), .int .i64 (m : Int)] w (PiecePost w (pieceL (ds.getD j []) k m)) := by
  have HG := Lib.hid (fget_any w bf ds hok h j hj)
  have hdl := hok.long _ (doc_mem hj)
  have hkb := bounds_i64 hk
  have hmb := bounds_i64 hm
  have hPL := pieceL_len (ds.getD j []) k m
  have HPV : Hid (∀ q, q < (pieceL (ds.getD j []) k m).length → (pieceL (ds.getD j []) k m).getD q 0 = (ds.getD j []).getD (min k (ds.getD j []).length + q) 0) := fun q hq => by
    rw [hPL] at hq
    have hk2 : min k (ds.getD j []).length = k := by omega
    rw [hk2]
    unfold pieceL
    rw [List.getD_eq_getElem?_getD, List.getElem?_take_of_lt (by omega), List.getElem?_drop, ← List.getD_eq_getElem?_getD]
  clear hok h hk hm
  unfold GetPost at HG
  generalize pieceL (ds.getD j []) k m = p at *
  generalize ds.getD j [] = d at *
  obtain ⟨A, hA⟩ : ∃ A, A = min k d.length := ⟨_, rfl⟩
  obtain ⟨M, hM⟩ : ∃ M, M = min m (d.length - A) := ⟨_, rfl⟩
  have HLEN : Hid (p.length = M) := by show _ = _; omega
  rw [← hA] at HPV
  have HA := Lib.hid hA
  have HM := Lib.hid hM
  have hA2 : A ≤ d.length := by omega
  have hM2 : A + M ≤ d.length := by omega
  clear hPL hA hM
  have t0 : decide ((k : Int) < 0) = false := by simp
  have t1 : decide ((m : Int) < 0) = false := by simp
  go_enter Try.func29, Try.ntmps29
  go_wp2_with fail
  refine HG.out.mono ?_
  rintro e w1 ⟨a, rfl, hr, hb, hlo⟩
  have HR1 := Lib.hid hr
  have HB1 := Lib.hid hb
  clear hr hb hlo HG
  have w1w : IntKind.i64.wrap ((d.length : Int) - (A : Int)) = ((d.length - A : Nat) : Int) := by rw [show (d.length : Int) - (A : Int) = ((d.length - A : Nat) : Int) by omega]; exact IntWalk.i64_in _ (by omega)
  have w2w : IntKind.i64.wrap ((A : Int) + (M : Int)) = ((A + M : Nat) : Int) := by rw [show (A : Int) + (M : Int) = ((A + M : Nat) : Int) by omega]; exact IntWalk.i64_in _ (by omega)
  have w3w := fun W => cut_lh8 a d.length d.length A (A + M) (by omega) hM2 (Nat.le_refl _) W
  rw [show A + M - A = M by omega] at w3w
  have HROW := cut_row HR1.out d.length A (A + M) (by omega) hM2 (Nat.le_refl _)
  rw [show A + M - A = M by omega] at HROW
  have HCL := Lib.hid (cloneB_any w1 (cutB a d.length A) M (d.length - A) (fun q => byteV d (A + q)) (by omega) (fun _ _ => rfl) HROW)
  have HFIN : Hid (∀ w' (a' : Option Addr), Row w' a' M (fun q => byteV d (A + q)) → Below w1.heap.size w1 w' → PiecePost w p (.returned (.tuple #[.slice a' M M, .bool true])) w') := fun w' a' hr hb => by
    refine ⟨a', by rw [HLEN.out], ?_, below_next HB1.out hb HB1.out.size⟩
    rw [HLEN.out]
    refine hr.congr fun q hq => ?_
    unfold byteV
    rw [HPV.out q (by rw [HLEN.out]; exact hq)]
  have w3v : ∀ W : World, (Instr.slice 22 (.slice a d.length d.length) (some (.int .i64 (A : Int))) (some (.int .i64 ((A : Int) + (M : Int)))) none).run Try.prog W = .ok (.slice (cutB a d.length A) M (d.length - A)) W := fun W => by
    have := w3w W
    rw [Int.natCast_add] at this
    exact this
  clear HROW HPV HR1
  rcases Nat.lt_or_ge d.length k with g1 | g1
  · obtain rfl : A = d.length := by rw [HA.out]; omega
    obtain rfl : M = 0 := by rw [HM.out]; omega
    have g2 : (d.length : Int) < (k : Int) := by omega
    have w4w : IntKind.i64.wrap (d.length : Int) = (d.length : Int) := IntWalk.i64_in _ (by omega)
    clear w3v
    simp only [Nat.add_zero, Nat.sub_self] at w3w HCL HFIN
    clear w1w w2w
    rcases Nat.eq_zero_or_pos m with g3 | g3
    · subst g3
      go_wp2_with fail
      refine HCL.out.mono ?_
      rintro e w5 ⟨a5, c5, rfl, hc5, hn5, hr5, hb5, -⟩
      have HF5 := Lib.hid (HFIN.out w5 a5 hr5 hb5)
      have HCP := Lib.hid (clipB_any w5 a5 _ c5 hc5 hn5)
      clear hc5 hn5 hr5 hb5 HFIN HCL
      go_wp2_with fail
      refine HCP.out.mono ?_
      rintro e w6 ⟨rfl, rfl⟩
      go_wp2
      go_ret2
      exact HF5.out
    · have g4 : (0 : Int) < (m : Int) := by omega
      go_wp2_with fail
      refine HCL.out.mono ?_
      rintro e w5 ⟨a5, c5, rfl, hc5, hn5, hr5, hb5, -⟩
      have HF5 := Lib.hid (HFIN.out w5 a5 hr5 hb5)
      have HCP := Lib.hid (clipB_any w5 a5 _ c5 hc5 hn5)
      clear hc5 hn5 hr5 hb5 HFIN HCL
      go_wp2_with fail
      refine HCP.out.mono ?_
      rintro e w6 ⟨rfl, rfl⟩
      go_wp2
      go_ret2
      exact HF5.out
  · obtain rfl : A = k := by rw [HA.out]; omega
    have g2 : decide ((d.length : Int) < (A : Int)) = false := by simp; omega
    have g3 : decide (d.length < A) = false := by simp; omega
    clear w3w w3v
    rcases Nat.eq_or_lt_of_le g1 with g7 | g7
    · have hcut : cutB a d.length A = a := by unfold cutB; rw [if_pos g7.symm]
      rw [hcut] at HCL
      subst g7
      obtain rfl : M = 0 := by rw [HM.out]; omega
      have w4w : IntKind.i64.wrap (d.length : Int) = (d.length : Int) := IntWalk.i64_in _ (by omega)
      simp only [Nat.sub_self] at HCL HFIN
      clear w1w w2w
      rcases Nat.eq_zero_or_pos m with g3 | g3
      · subst g3
        go_wp2_with fail
        refine HCL.out.mono ?_
        rintro e w5 ⟨a5, c5, rfl, hc5, hn5, hr5, hb5, -⟩
        have HF5 := Lib.hid (HFIN.out w5 a5 hr5 hb5)
        have HCP := Lib.hid (clipB_any w5 a5 _ c5 hc5 hn5)
        clear hc5 hn5 hr5 hb5 HFIN HCL
        go_wp2_with fail
        refine HCP.out.mono ?_
        rintro e w6 ⟨rfl, rfl⟩
        go_wp2
        go_ret2
        exact HF5.out
      · have g4 : (0 : Int) < (m : Int) := by omega
        go_wp2_with fail
        refine HCL.out.mono ?_
        rintro e w5 ⟨a5, c5, rfl, hc5, hn5, hr5, hb5, -⟩
        have HF5 := Lib.hid (HFIN.out w5 a5 hr5 hb5)
        have HCP := Lib.hid (clipB_any w5 a5 _ c5 hc5 hn5)
        clear hc5 hn5 hr5 hb5 HFIN HCL
        go_wp2_with fail
        refine HCP.out.mono ?_
        rintro e w6 ⟨rfl, rfl⟩
        go_wp2
        go_ret2
        exact HF5.out
    · have g8 : ¬ d.length = A := by omega
      have hcut : cutB a d.length A = Option.map (fun x => x.add A) a := by unfold cutB; rw [if_neg g8]; simp
      rw [hcut] at HCL
      rcases Nat.lt_or_ge (d.length - A) m with g4 | g4
      · obtain rfl : M = d.length - A := by rw [HM.out]; omega
        have g5 : ((d.length - A : Nat) : Int) < (m : Int) := by omega
        go_wp2_with fail
        refine HCL.out.mono ?_
        rintro e w5 ⟨a5, c5, rfl, hc5, hn5, hr5, hb5, -⟩
        have HF5 := Lib.hid (HFIN.out w5 a5 hr5 hb5)
        have HCP := Lib.hid (clipB_any w5 a5 _ c5 hc5 hn5)
        clear hc5 hn5 hr5 hb5 HFIN HCL
        go_wp2_with fail
        refine HCP.out.mono ?_
        rintro e w6 ⟨rfl, rfl⟩
        go_wp2
        go_ret2
        exact HF5.out
      · obtain rfl : M = m := by rw [HM.out]; omega
        have g5 : decide (((d.length - A : Nat) : Int) < (M : Int)) = false := by simp; omega
        have g6 : decide (d.length - A < M) = false := by simp; omega
        go_wp2_with fail
        refine HCL.out.mono ?_
        rintro e w5 ⟨a5, c5, rfl, hc5, hn5, hr5, hb5, -⟩
        have HF5 := Lib.hid (HFIN.out w5 a5 hr5 hb5)
        have HCP := Lib.hid (clipB_any w5 a5 _ c5 hc5 hn5)
        clear hc5 hn5 hr5 hb5 HFIN HCL
        go_wp2_with fail
        refine HCP.out.mono ?_
        rintro e w6 ⟨rfl, rfl⟩
        go_wp2
        go_ret2
        exact HF5.out
end Go.Proofs.Ytjpoebmjfedecaa
