/-
  What the statements' helper Find gathers: hits, at most so many.
-/
import Derived.Test.YtehgpggkicoddaaFindIt
import Derived.Test.YtehgpggkicoddaaHitRow
import Derived.Test.YtehgpggkicoddaaRefRange
import Derived.Lib.ConvBytes
namespace Go.Proofs.Ytehgpggkicoddaa
open Go.RowKit Go.Shelf
attribute [local go_sem] Oper.semAt_some

theorem sBf_at (d : List Nat) (hb : ∀ c ∈ d, c < 256) (k : Nat) (hk : k < d.length) : ∃ h : k < (sB d).size, ((sB d)[k]'h).toNat = d.getD k 0 := by
  refine ⟨by rw [sB_size]; exact hk, ?_⟩
  have : d.getD k 0 < 256 := hb _ (getD_mem' hk)
  rw [List.getD_eq_getElem?_getD, List.getElem?_eq_getElem hk] at this ⊢
  unfold sB
  show (((d.map UInt8.ofNat).toArray)[k]'(by simpa using hk)).toNat = _
  simp at this ⊢
  omega
theorem str_bytes (w : World) (P : List Nat) (hb : ∀ c ∈ P, c < 256) : ∃ cap w', (convert 9 29 (.string (sB P))).run Try.prog w = .ok (.slice (some ⟨w.heap.size, 0, none⟩) P.length cap) w' ∧
    P.length ≤ cap ∧ Row w' (some ⟨w.heap.size, 0, none⟩) P.length (byteV P) ∧ Below w.heap.size w w' ∧ w'.heap.size = w.heap.size + 1 := by
  refine ⟨grownCap w (sB P).size 0 5, Lib.bytesWorld w 5 (sB P), ?_, ?_, ⟨.inr rfl, ?_⟩, ⟨rfl, rfl, rfl, ?_, ?_⟩, Lib.bytesWorld_size w 5 (sB P)⟩
  · exact (Lib.run_convert_string_bytes (P := Try.prog) w 9 29 5 (sB P) Try.underlying9 Try.underlying29 Try.underlying5).trans (by rw [sB_size])
  · exact Nat.le_trans (Nat.le_of_eq (sB_size P).symm) (grownCap_ge w _ _ _)
  · intro k hk
    have := Lib.bytesWorld_cell w 5 (sB P) k (by rw [sB_size]; exact hk)
    simp only [bOf, oOf, Option.map_some, Option.getD_some, Nat.zero_add]
    rw [this]
    obtain ⟨h1, h2⟩ := sBf_at P hb k hk
    have h3 : (sB P).data.toList.getD k 0 = (sB P)[k]'h1 := by
      rw [List.getD_eq_getElem?_getD, List.getElem?_eq_getElem (by simpa using h1)]; rfl
    rw [h3, h2]
  · rw [Lib.bytesWorld_size]; omega
  · exact fun b h => Lib.bytesWorld_at_old w _ _ b h
theorem tfind_any (w : World) (bt : Nat) (a : Option Addr) (cap : Nat) (P : List Nat) (hr : Row w a P.length (byteV P)) (hP : P.length ≤ 1000000) :
    Calls Try.prog 22 #[.pointer (some ⟨bt, 0, none⟩), .slice a P.length cap] w fun e w' => e = .returned (.func (.func 26) #[] #[.pointer (some ⟨w.heap.size, 0, none⟩), .pointer (some ⟨w.heap.size + 1, 0, none⟩)]) ∧
      ∃ a' c', Below w.heap.size w w' ∧ w.heap.size + 2 ≤ w'.heap.size ∧ w'.cell? ⟨w.heap.size, 0, none⟩ = some (.pointer (some ⟨bt, 0, none⟩)) ∧ w'.cell? ⟨w.heap.size + 1, 0, none⟩ = some (.slice a' P.length c') ∧ Row w' a' P.length (byteV P) ∧ (P.length = 0 ∨ w.heap.size ≤ bOf a') := by
  have hb2 : Below w.heap.size w ((w.alloc (.cells #[.pointer (some ⟨bt, 0, none⟩)] 25)).alloc (.cells #[.slice a P.length cap] 29)) := ((Below.refl _ w).alloc (Nat.le_refl _) _).alloc (by simp) _
  have B1 := (Boxed.new w 25 (.pointer (some ⟨bt, 0, none⟩))).alloc (.cells #[.slice a P.length cap] 29)
  have B2 := Boxed.new (w.alloc (.cells #[.pointer (some ⟨bt, 0, none⟩)] 25)) 29 (.slice a P.length cap)
  rw [World.size_alloc] at B2
  have hs2 : ((w.alloc (.cells #[.pointer (some ⟨bt, 0, none⟩)] 25)).alloc (.cells #[.slice a P.length cap] 29)).heap.size = w.heap.size + 2 := by simp
  have HCL := Lib.hid (fun W => cloneB_any W a P.length cap (byteV P) hP (fun _ _ => rfl))
  have HR := Lib.hid hr
  have HB2 := Lib.hid hb2
  have HX1 := Lib.hid B1
  have HX2 := Lib.hid B2
  have HS2 := Lib.hid hs2
  clear hr hb2 B1 B2 hs2
  go_enter Try.func22, Try.ntmps22
  go_wp2_with fail
  generalize ((w.alloc (.cells #[.pointer (some ⟨bt, 0, none⟩)] 25)).alloc (.cells #[.slice a P.length cap] 29)) = w2 at *
  refine (HCL.out w2 (HR.out.kept HB2.out)).mono ?_
  rintro e w3 ⟨a', c', rfl, hc', hn', hr', hb3, hl'⟩
  have X1 : Boxed w3 w.heap.size 25 (.pointer (some ⟨bt, 0, none⟩)) := (hb3.block _ (by have := HX1.out.lt; exact this)).trans HX1.out
  have X2 : Boxed w3 (w.heap.size + 1) 29 (.slice a P.length cap) := (hb3.block _ (by have := HX2.out.lt; exact this)).trans HX2.out
  have hs3 : w.heap.size + 2 ≤ w3.heap.size := by have := hb3.size; rw [HS2.out] at this; exact this
  have hbw : Below w.heap.size w w3 := below_next HB2.out hb3 (by rw [HS2.out]; omega)
  have hcell := X2.cell
  have hfr := X2.frozen
  have Y1 := X1.other (show w.heap.size ≠ w.heap.size + 1 by omega) (.slice a' P.length c')
  have Y2 := X2.set (.slice a' P.length c')
  have hrow : Row (w3.setCell ⟨w.heap.size + 1, 0, none⟩ (.slice a' P.length c')) a' P.length (byteV P) := hr'.gb (grownBy_setCell' w3 _ _) (hl'.imp id fun h e => by have := Option.some.inj e; rw [HS2.out] at h; omega)
  have HFIN : Hid (Below w.heap.size w (w3.setCell ⟨w.heap.size + 1, 0, none⟩ (.slice a' P.length c')) ∧ w.heap.size + 2 ≤ (w3.setCell ⟨w.heap.size + 1, 0, none⟩ (.slice a' P.length c')).heap.size ∧ (w3.setCell ⟨w.heap.size + 1, 0, none⟩ (.slice a' P.length c')).cell? ⟨w.heap.size, 0, none⟩ = some (.pointer (some ⟨bt, 0, none⟩)) ∧ (w3.setCell ⟨w.heap.size + 1, 0, none⟩ (.slice a' P.length c')).cell? ⟨w.heap.size + 1, 0, none⟩ = some (.slice a' P.length c') ∧ Row (w3.setCell ⟨w.heap.size + 1, 0, none⟩ (.slice a' P.length c')) a' P.length (byteV P) ∧ (P.length = 0 ∨ w.heap.size ≤ bOf a')) :=
    ⟨hbw.setCell (by simp) _, by simpa [World.setCell] using hs3, Y1.cell, Y2.cell, hrow, hl'.imp id (fun h => by rw [HS2.out] at h; omega)⟩
  clear hb3 hl' X1 X2 hs3 hbw Y1 Y2 hrow hr' HX1 HX2 HS2 HB2 HR HCL hn'
  go_wp2
  go_ret
  exact ⟨rfl, a', c', HFIN.out⟩
theorem nilf9 (A : Array Value) (W : World) : (binOp .eql 54 (.func (.func 26) #[] A) .nilFunc).run Try.prog W = .ok (.bool false) W := by kernel_rfl
def FindLPost (w : World) (ds : List (List Nat)) (P : List Nat) (most : Nat) (e : Ending) (w' : World) : Prop :=
  ∃ a cap, e = .returned (.slice a ((fdTo ds P ds.length).take most).length cap) ∧ HRow w' a ((fdTo ds P ds.length).take most) ∧ Below w.heap.size w w'
set_option maxRecDepth 100000 in
set_option maxHeartbeats 2000000 in
theorem lfind_any (w : World) (bt : Nat) (x : TxP) (ds : List (List Nat)) (ht : TextAt w bt x ds) (hok : NewOk ds) (hm : MaxCell w) (P : List Nat) (hpb : ∀ c ∈ P, c < 256) (hPl : P.length ≤ 1000000) (most : Nat) (hmo : most ≤ 2000000) :
    Calls Try.prog 13 #[.pointer (some ⟨bt, 0, none⟩), .string (sB P), .int .i64 most] w (FindLPost w ds P most) := by
  refine (callsIn_wide (n := 5)).1 ?_
  have hwf : ∀ f, Fence.wide.fn f = True := fun _ => rfl
  obtain ⟨i0, hi0, hz0, hz1, hz2⟩ := info_parts info_hit
  refine callsIn_of_wp_marks Try.func13 rfl trivial ?_ rfl
  simp only [Try.ntmps13, List.size_toArray, List.length_cons, List.length_nil, Nat.reduceAdd, Nat.reduceSub, Array.replicate_succ, Array.replicate_zero, List.push_toArray, List.append_toArray, List.nil_append, List.cons_append]
  have hnf := nilf9
  have hlen : (fdTo ds P ds.length).length ≤ 60000 := by
    have h1 := fdTo_len ds P ds.length (Nat.le_refl _)
    have h2 := startOf_all ds
    have h3 := hok.all
    omega
  have BM := (Boxed.new w 3 (.int .i64 (most : Int))).alloc (.cells #[.slice none 0 0] 32)
  have BO := Boxed.new (w.alloc (.cells #[.int .i64 (most : Int)] 3)) 32 (.slice none 0 0)
  rw [World.size_alloc] at BO
  have hb2 : Below w.heap.size w ((w.alloc (.cells #[.int .i64 (most : Int)] 3)).alloc (.cells #[.slice none 0 0] 32)) := ((Below.refl _ w).alloc (Nat.le_refl _) _).alloc (by simp) _
  have hs2 : ((w.alloc (.cells #[.int .i64 (most : Int)] 3)).alloc (.cells #[.slice none 0 0] 32)).heap.size = w.heap.size + 2 := by simp
  obtain ⟨cc, w3, hcv, hcap, hrow3, hb3, hs3⟩ := str_bytes ((w.alloc (.cells #[.int .i64 (most : Int)] 3)).alloc (.cells #[.slice none 0 0] 32)) P hpb
  simp only [World.size_alloc] at hcv hrow3 hs3 hb3 hs2
  have HTF := Lib.hid (tfind_any w3 bt _ cc P hrow3 hPl)
  have HT := Lib.hid ht
  have HOK := Lib.hid hok
  have HM := Lib.hid hm
  have HPB := Lib.hid hpb
  have HBM := Lib.hid BM
  have HBO := Lib.hid BO
  have HB2 := Lib.hid hb2
  have HS2 := Lib.hid hs2
  have HB3 := Lib.hid hb3
  have HS3 := Lib.hid hs3
  clear ht hok hm hpb BM BO hb2 hs2 hb3 hs3 hrow3 hcap
  generalize sB P = sP at *
  gi_wp2_with (gi_at_call 22; refine (callsIn_wide.2 HTF.out).mono ?_; rintro e w4 ⟨rfl, ap, cp, hb4, hs4, c41, c42, hpr, hpl⟩)
  obtain ⟨hw3, hw3'⟩ : w.heap.size + 3 ≤ w3.heap.size ∧ w3.heap.size ≤ w.heap.size + 3 := by have := HS3.out; omega
  have hb24 : Below w.heap.size w w4 := ((HB2.out.trans (HB3.out.mono (by omega))).trans (hb4.mono (by omega)))
  have HB4 := Lib.hid hb24
  have X1 : Boxed w4 w.heap.size 3 (.int .i64 (most : Int)) := (hb4.block _ (by omega)).trans ((HB3.out.block _ (by omega)).trans HBM.out)
  have X2 : Boxed w4 (w.heap.size + 1) 32 (.slice none 0 0) := (hb4.block _ (by omega)).trans ((HB3.out.block _ (by omega)).trans HBO.out)
  have HX1 := Lib.hid X1
  have HX2 := Lib.hid X2
  have HFA : Hid (FdAt w w4 w3.heap.size (w3.heap.size + 1) bt ap cp P) := ⟨KeepAll.of_below hb24, c41, c42, hpr⟩
  have HFK : Hid (FdK (fun b => b < w4.heap.size ∧ b ≠ w.heap.size + 1) w w3.heap.size (w3.heap.size + 1) ap P) := by
    refine ⟨fun b hb => ⟨by omega, by omega⟩, ⟨by omega, by omega⟩, ⟨by omega, by omega⟩, ?_⟩
    rcases Nat.eq_zero_or_pos P.length with h | h
    · exact .inl h
    · exact .inr ⟨hpr.lt h, by have := hpl.resolve_left (by omega); omega⟩
  clear hb24 X1 X2 c41 c42 hpr hpl hb4 HBM HBO HB2 HS2 HB3 HS3 HTF hcv
  refine wpIn_rangeFunc_X rfl (by omega) (gf := 26) (lb := #[.pointer (some ⟨w3.heap.size, 0, none⟩), .pointer (some ⟨w3.heap.size + 1, 0, none⟩)]) rfl trivial (enters_of Try.func26 (by kernel_rfl) rfl)
    (find1_any 4 (by omega) (fun b => b < w4.heap.size ∧ b ≠ w.heap.size + 1) w w4 w3.heap.size (w3.heap.size + 1) bt x ap cp ds P HT.out HM.out HFA.out HFK.out HOK.out HPB.out hPl)
    (fun b h => h.1) (Below.refl _ _) (fun _ => rfl)
    (fun X (pre : List (Nat × Nat)) W => (∃ v, (Boxed W (w.heap.size + 1) 32 v ∧ ¬ X (w.heap.size + 1)) ∧ W.ownsRow w4.heap.size 46 2 v pre.length (hitVs pre) ∧ (∀ g, v.ownBlock = some g → ¬ X g) ∧ pre.length ≤ most) ∧ (Boxed W w.heap.size 3 (.int .i64 (most : Int)) ∧ ¬ X w.heap.size) ∧ (Below w.heap.size w4 W ∧ ∀ b, X b → w.heap.size ≤ b) ∧ ∀ b, X b → b < W.heap.size)
    (fun c X (pre : List (Nat × Nat)) W => (∃ v, (Boxed W (w.heap.size + 1) 32 v ∧ ¬ X (w.heap.size + 1)) ∧ W.ownsRow w4.heap.size 46 2 v (pre.take most).length (hitVs (pre.take most)) ∧ (∀ g, v.ownBlock = some g → ¬ X g) ∧ (c = .exit 0 ∧ most < pre.length)) ∧ (Below w.heap.size w4 W ∧ ∀ b, X b → w.heap.size ≤ b))
    (Fr.and (Fr.row (w.heap.size + 1) 32 w4.heap.size 46 2 (fun pre : List (Nat × Nat) => pre.length) (fun pre => hitVs pre) (fun pre => pre.length ≤ most)) (Fr.and (Fr.boxed w.heap.size 3 (fun _ => .int .i64 (most : Int))) (Fr.and (Fr.below (by omega)) Fr.bd)))
    (fun c => Fr.and (Fr.row (w.heap.size + 1) 32 w4.heap.size 46 2 (fun pre : List (Nat × Nat) => (pre.take most).length) (fun pre => hitVs (pre.take most)) (fun pre => c = .exit 0 ∧ most < pre.length)) (Fr.below (by omega)))
    ⟨⟨_, ⟨HX2.out, fun h => h⟩, by rw [hitVs_nil]; exact World.ownsRow_nil _ _ _ _, fun g h => by simp [Value.ownBlock] at h, Nat.zero_le _⟩, ⟨HX1.out, fun h => h⟩, ⟨Below.refl _ _, fun b h => h.elim⟩, fun b h => h.elim⟩
    (fun y => { tmps := #[.pointer (some ⟨bt, 0, none⟩), .string sP, .int .i64 (most : Int), undef, undef, .pointer (some ⟨w.heap.size, 0, none⟩), .slice none 0 0, .pointer (some ⟨w.heap.size + 1, 0, none⟩), .func (.func 26) #[] #[.pointer (some ⟨w3.heap.size, 0, none⟩), .pointer (some ⟨w3.heap.size + 1, 0, none⟩)], .int .i64 ((y.1 : Nat) : Int), .int .i64 ((y.2 : Nat) : Int), .pointer (some ⟨bt, 0, none⟩), .string sP, .slice (some ⟨w.heap.size + 1 + 1, 0, none⟩) P.length cc, .func (.func 26) #[] #[.pointer (some ⟨w3.heap.size, 0, none⟩), .pointer (some ⟨w3.heap.size + 1, 0, none⟩)], .func (.func 26) #[] #[.pointer (some ⟨w3.heap.size, 0, none⟩), .pointer (some ⟨w3.heap.size + 1, 0, none⟩)], .bool false, .func (.func 26) #[] #[.pointer (some ⟨w3.heap.size, 0, none⟩), .pointer (some ⟨w3.heap.size + 1, 0, none⟩)], .int .i64 ((y.1 : Nat) : Int), .int .i64 ((y.2 : Nat) : Int), undef, undef, undef, undef, undef, undef, undef, undef, undef, undef, undef], defers := [] }) ?assign ?body ?done ?stop
  case assign =>
    intro l y W G hG
    unfold hitE
    gi_wp2
    exact hG
  case body =>
    rintro l X pre y W - hXl ⟨⟨v, hv, hrow, hg, hle⟩, hM, ⟨hB, hge⟩, hbd⟩ hlt
    obtain ⟨y1, y2⟩ := y
    have hc := hv.1.cell
    have hcM := hM.1.cell
    have hs := hB.size
    have hlt2 : pre.length < 100000 := by omega
    obtain ⟨a', cap', rfl⟩ : ∃ a' cap', v = .slice a' pre.length cap' := by
      rcases hrow.2 with ⟨rfl, h⟩ | ⟨g, cap, cur, rfl, _⟩
      · exact ⟨none, 0, by rw [h]⟩
      · exact ⟨_, _, rfl⟩
    have HV := Lib.hid hv
    have HM2 := Lib.hid hM
    have HO := Lib.hid hrow
    have HG := Lib.hid hg
    have HBD := Lib.hid hbd
    have HB5 := Lib.hid hB
    have HGE := Lib.hid hge
    clear hv hM hrow hg hbd hB hge
    by_cases hge2 : (most : Int) ≤ (pre.length : Int)
    · gi_wp2
      have e : (pre ++ [(y1, y2)]).take most = pre := by rw [List.take_append_of_le_length (by omega), List.take_of_length_le (by omega)]
      refine ⟨KeepX.refl _ _, KeepX.refl _ _, ⟨_, HV.out, ?_, HG.out, rfl, by simp; omega⟩, HB5.out, HGE.out⟩
      rw [e]; exact HO.out
    · gi_wp2_with (gi_at_builtin; refine wpListIn_append_own_at _ rfl _ _ 32 rfl w4.heap.size 46 i0 _ 2 16 Try.underlying32 hi0 hz0 hz1 hz2 rfl (by decide) _ pre.length _ rfl (HO.out.alloc _) ⟨W.heap.size, 0, none⟩ 1 1 [.int .i64 ((y1 : Nat) : Int), .int .i64 ((y2 : Nat) : Int)] rfl rfl (World.news_of_block (cs := #[.int .i64 ((y1 : Nat) : Int), .int .i64 ((y2 : Nat) : Int)]) (t := 46) (fr := (0, 0)) (heap_alloc_new W _)) (by simp [Value.oneCell']) (by simp only [maxLen]; omega) (by omega) (by simp; omega) ?_; intro v' w1 hown' hgrow _ hat; obtain ⟨g', cap2, rfl⟩ := ownsRow_succ hown'; obtain ⟨hv1, hv2, hr2, hg2, hk2, hb2, hb3, hs2⟩ := boxed_appX HV.out HO.out HG.out HBD.out (by omega) (by omega) hown' hgrow hat; have hc1 := hv1.cell; have hf1 := hv1.frozen; have HV2 := Lib.hid hv2; have HR2 := Lib.hid hr2; have HG2 := Lib.hid hg2; have HK2 := Lib.hid hk2; have HBB := Lib.hid hb2; have HBW := Lib.hid hb3; have HSS := Lib.hid hs2; clear hv1 hv2 hr2 hg2 hk2 hb2 hb3 hs2 hown' hgrow hat)
      gi_wp2
      refine ⟨HK2.out, ⟨HSS.out, fun b hb hk => HBB.out b hk.1 hk.2⟩, ⟨_, HV2.out, ?_, HG2.out, by simp; omega⟩, ⟨(HBB.out _ (by omega) (by omega)).trans HM2.out.1, HM2.out.2⟩, ⟨HB5.out.trans (HBW.out _ (by omega)), HGE.out⟩, fun b hb => Nat.lt_of_lt_of_le (HBD.out b hb) HSS.out⟩
      rw [hitVs_append, List.length_append, show hitVs [(y1, y2)] = [.int .i64 ((y1 : Nat) : Int), .int .i64 ((y2 : Nat) : Int)] by rw [hitVs_cons, hitVs_nil]]
      exact HR2.out
  case done =>
    rintro D X xs W hD hXD rfl ⟨⟨v, hv, hrow, hg, hle⟩, hM, ⟨hB, hge⟩, hbd⟩ hK
    have hc := hv.1.cell
    obtain ⟨a', cap', rfl, hcap, hr, hb⟩ := hrow_of_owns hrow rfl
    have hDl := (Array.getElem?_eq_some_iff.1 hK).1
    have HFIN : Hid (FindLPost w ds P most (.returned (.slice a' (fdTo ds P ds.length).length cap')) (W.putObj D (.deferred none))) := by
      have e : (fdTo ds P ds.length).take most = fdTo ds P ds.length := List.take_of_length_le hle
      unfold FindLPost
      rw [e]
      refine ⟨a', cap', rfl, ⟨hr.row.gb (grownBy_putObj' W D (.deferred none)) ?_⟩, (HB4.out.trans hB).trans (belowK_b (w := w) (Nat.le_refl _) W D _ _ (by omega) hK rfl rfl)⟩
      rcases Nat.eq_zero_or_pos (fdTo ds P ds.length).length with h | h
      · exact .inl (by omega)
      · refine .inr fun e => ?_
        have h0 := hr.row.cell 0 (by omega)
        have h1 : bOf a' = D := Option.some.inj e
        rw [h1] at h0
        simp [World.cell?, hK] at h0
    have HK := Lib.hid hK
    clear hv hM hrow hg hB hge hbd hr hb hK hle
    gi_wp2
    refine ⟨by simp, .inl ⟨_, _, rfl, run_takeDeferred HK.out, ?_⟩⟩
    refine ⟨_, results_tmp rfl _ _ _, ?_⟩
    exact HFIN.out
  case stop =>
    rintro D X c pre W hD hXD hpre ⟨⟨v, hv, hrow, hg, rfl, hlt⟩, hB, hge⟩ hK
    have hc := hv.1.cell
    have hDl := (Array.getElem?_eq_some_iff.1 hK).1
    have e : pre.take most = (fdTo ds P ds.length).take most := by
      obtain ⟨t, ht⟩ := hpre
      rw [← ht, List.take_append_of_le_length (by omega)]
    rw [e] at hrow
    obtain ⟨a', cap', rfl, hcap, hr, hb⟩ := hrow_of_owns hrow rfl
    have HFIN : Hid (FindLPost w ds P most (.returned (.slice a' ((fdTo ds P ds.length).take most).length cap')) (W.putObj D (.deferred none))) := by
      refine ⟨a', cap', rfl, ⟨hr.row.gb (grownBy_putObj' W D (.deferred none)) ?_⟩, (HB4.out.trans hB).trans (belowK_b (w := w) (Nat.le_refl _) W D _ _ (by omega) hK rfl rfl)⟩
      rcases Nat.eq_zero_or_pos ((fdTo ds P ds.length).take most).length with h | h
      · exact .inl (by omega)
      · refine .inr fun e => ?_
        have h0 := hr.row.cell 0 (by omega)
        have h1 : bOf a' = D := Option.some.inj e
        rw [h1] at h0
        simp [World.cell?, hK] at h0
    have HK := Lib.hid hK
    clear hv hrow hg hB hge hr hb hK e
    rw [List.length_take] at HFIN
    gi_wp2
    refine ⟨by simp, .inl ⟨_, _, rfl, run_takeDeferred HK.out, ?_⟩⟩
    refine ⟨_, results_tmp rfl _ _ _, ?_⟩
    exact HFIN.out
end Go.Proofs.Ytehgpggkicoddaa
