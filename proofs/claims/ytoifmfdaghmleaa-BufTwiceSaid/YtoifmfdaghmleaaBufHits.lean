/-
  Locate, and the statements' helper hits: what Locate tells, at most so much.
-/
import Derived.Test.YtoifmfdaghmleaaBufLoc
import Derived.Test.YtoifmfdaghmleaaHitRow
import Derived.Test.YtoifmfdaghmleaaTwoBox
import Derived.Lib.ConvBytes
import Derived.Deep.AppendLies
set_option linter.unusedVariables false
namespace Go.Proofs.Ytoifmfdaghmleaa
open Go.RowKit Go.Lib Go.Sort Go.Shelf Go.Proofs.Ytoifmfdaghmleaa.Tx
attribute [local go_sem] Oper.semAt_some

/-- bytes as a text -/
def sB (d : List Nat) : ByteArray := ⟨(d.map UInt8.ofNat).toArray⟩
theorem sB_size (d : List Nat) : (sB d).size = d.length := by simp [sB, ByteArray.size]
theorem getD_mem' {d : List Nat} {k : Nat} (h : k < d.length) : d.getD k 0 ∈ d := by
  rw [List.getD_eq_getElem?_getD, List.getElem?_eq_getElem h]
  exact List.getElem_mem h
theorem info_hit5 : (Try.prog.info? 88).map (fun i => (i.zero, i.size, i.bytes)) = some (some (.agg #[.int .i64 0, .int .i64 0]), 2, 16) := by kernel_rfl
theorem sBf_at (d : List Nat) (hb : ∀ c ∈ d, c < 256) (k : Nat) (hk : k < d.length) : ∃ h : k < (sB d).size, ((sB d)[k]'h).toNat = d.getD k 0 := by
  refine ⟨by rw [sB_size]; exact hk, ?_⟩
  have : d.getD k 0 < 256 := hb _ (getD_mem' hk)
  rw [List.getD_eq_getElem?_getD, List.getElem?_eq_getElem hk] at this ⊢
  unfold sB
  show (((d.map UInt8.ofNat).toArray)[k]'(by simpa using hk)).toNat = _
  simp at this ⊢
  omega
theorem str_bytes (w : World) (P : List Nat) (hb : ∀ c ∈ P, c < 256) : ∃ cap w', (convert 9 26 (.string (sB P))).run Try.prog w = .ok (.slice (some ⟨w.heap.size, 0, none⟩) P.length cap) w' ∧
    P.length ≤ cap ∧ Row w' (some ⟨w.heap.size, 0, none⟩) P.length (byteV P) ∧ Below w.heap.size w w' ∧ w'.heap.size = w.heap.size + 1 := by
  refine ⟨grownCap w (sB P).size 0 5, Lib.bytesWorld w 5 (sB P), ?_, ?_, ⟨.inr rfl, ?_⟩, ⟨rfl, rfl, rfl, ?_, ?_⟩, Lib.bytesWorld_size w 5 (sB P)⟩
  · exact (Lib.run_convert_string_bytes (P := Try.prog) w 9 26 5 (sB P) Try.underlying9 Try.underlying26 Try.underlying5).trans (by rw [sB_size])
  · exact Nat.le_trans (Nat.le_of_eq (sB_size P).symm) (grownCap_ge w _ _ _)
  · intro k hk
    have := Lib.bytesWorld_cell w 5 (sB P) k (by rw [sB_size]; exact hk)
    simp only [bOf, oOf, Option.map_some, Option.getD_some, Nat.zero_add]
    rw [this]
    obtain ⟨h1, h2⟩ := sBf_at P hb k hk
    have h3 : (sB P).data.toList.getD k 0 = (sB P)[k]'h1 := by
      rw [List.getD_eq_getElem?_getD, List.getElem?_eq_getElem (by simpa using h1)]; rfl
    rw [h3, h2]
  · rw [Lib.bytesWorld_size]; omega
  · exact fun b h => Lib.bytesWorld_at_old w _ _ b h
theorem locB (w : World) (base : Nat) (dd : Int → List Nat) (bp mp : Nat) (mv : Value) (L : List BEnt) (hf : BufS base dd w bp mp mv L) (hm : MaxCell w) (a : Option Addr) (cap : Nat) (P : List Nat) (hr : Row w a P.length (byteV P)) (hP : P.length ≤ 1000000) :
    Calls Try.prog 63 #[.pointer (some ⟨bp, 0, none⟩), .slice a P.length cap] w fun e w' => ∃ a' c', e = .returned (.func (.func 100) #[] #[.pointer (some ⟨w.heap.size, 0, none⟩), .pointer (some ⟨w.heap.size + 1, 0, none⟩)]) ∧
      Below w.heap.size w w' ∧ LocAt base dd w' bp mp mv L w.heap.size (w.heap.size + 1) a' c' P ∧ (P.length = 0 ∨ w.heap.size + 2 ≤ bOf a') := by
  have hb2 : Below w.heap.size w ((w.alloc (.cells #[.pointer (some ⟨bp, 0, none⟩)] 22)).alloc (.cells #[.slice a P.length cap] 26)) := ((Below.refl _ w).alloc (Nat.le_refl _) _).alloc (by simp) _
  have B1 := (Boxed.new w 22 (.pointer (some ⟨bp, 0, none⟩))).alloc (.cells #[.slice a P.length cap] 26)
  have B2 := Boxed.new (w.alloc (.cells #[.pointer (some ⟨bp, 0, none⟩)] 22)) 26 (.slice a P.length cap)
  have hsz : ((w.alloc (.cells #[.pointer (some ⟨bp, 0, none⟩)] 22)).alloc (.cells #[.slice a P.length cap] 26)).heap.size = w.heap.size + 2 := by simp
  simp only [World.size_alloc] at B2
  have HCL := Lib.hid (cloneB_any ((w.alloc (.cells #[.pointer (some ⟨bp, 0, none⟩)] 22)).alloc (.cells #[.slice a P.length cap] 26)) a P.length cap (byteV P) hP (fun _ _ => rfl) (hr.kept hb2))
  have HB2 := Lib.hid hb2
  have HX1 := Lib.hid B1
  have HX2 := Lib.hid B2
  have HF2 := Lib.hid (hf.kept hb2)
  have HM2 := Lib.hid (hm.kept hb2)
  have HSZ := Lib.hid hsz
  have HLT := Lib.hid hf.lt
  have HML := Lib.hid hm.lt
  clear hr hb2 B1 hf hm hsz
  have hc0 := B2.cell
  clear B2
  go_enter Try.func63, Try.ntmps63
  go_wp2_with fail
  generalize ((w.alloc (.cells #[.pointer (some ⟨bp, 0, none⟩)] 22)).alloc (.cells #[.slice a P.length cap] 26)) = w2 at *
  refine HCL.out.mono ?_
  rintro e w3 ⟨a', c', rfl, hc', hn', hr', hb3, hl'⟩
  have X2 : Boxed w3 (w.heap.size + 1) 26 (.slice a P.length cap) := (hb3.block _ HX2.out.lt).trans HX2.out
  have X1 : Boxed w3 w.heap.size 22 (.pointer (some ⟨bp, 0, none⟩)) := (hb3.block _ HX1.out.lt).trans HX1.out
  have HR3 := Lib.hid hr'
  have HB3 := Lib.hid hb3
  have HL3 := Lib.hid hl'
  have hc1 := X2.cell
  have hf1 := X2.frozen
  have H1 := Lib.hid X1
  have H2 := Lib.hid X2
  clear hc' hn' hr' hb3 hl' HCL X1 X2 hc0
  go_wp2
  go_ret
  have st : StepX (fun b => b = w.heap.size + 1) w3 (w3.setCell ⟨w.heap.size + 1, 0, none⟩ (.slice a' P.length c')) := StepX.setCell _ _ _ rfl
  have hlow : P.length = 0 ∨ w.heap.size + 2 ≤ bOf a' := HL3.out.imp id (fun h => by have := HSZ.out; omega)
  refine ⟨a', c', rfl, (HB2.out.trans (HB3.out.mono HB2.out.size)).trans (st.below (Nat.le_trans HB2.out.size HB3.out.size) (fun b h => by subst h; omega)), ⟨(HF2.out.kept HB3.out).step st (fun b hb h => ?_), ?_, ?_, ?_, ?_⟩, hlow⟩
  · subst h
    have := HLT.out _ hb
    omega
  · exact Boxed.cell (t := 22) ((st.block w.heap.size H1.out.lt (by omega)).trans H1.out)
  · exact (H2.out.set _).cell
  · exact row_stepX HR3.out st (hlow.imp id (fun h => by omega))
  · exact (HM2.out.kept HB3.out).block (st.block _ (HM2.out.kept HB3.out).lt (by have := HML.out; omega))
def HitsPost (w : World) (H : List (Nat × Nat)) (most : Nat) (e : Ending) (w' : World) : Prop :=
  ∃ a cap, e = .returned (.slice a (H.take most).length cap) ∧ HRow w' a (H.take most) ∧ Below w.heap.size w w'
set_option maxRecDepth 100000 in
set_option maxHeartbeats 2000000 in
theorem hitsB_any (base : Nat) (dd : Int → List Nat) (w : World) (bt mp : Nat) (mv : Value) (L : List BEnt) (ht : BufS base dd w bt mp mv L) (hmx : MaxCell w) (P : List Nat) (hdb : ∀ i, ∀ c ∈ dd i, c < 256) (hpb : ∀ c ∈ P, c < 256) (hPl : P.length ≤ 100000) (hL : L.length ≤ 100000) (hD : ∀ i, (dd i).length ≤ 1000000) (hpos : ∀ e ∈ L, 0 ≤ e.1) (hlen : (hitsL dd P L).length ≤ 60000) (most : Nat) (hmo : most ≤ 2000000) :
    Calls Try.prog 20 #[.pointer (some ⟨bt, 0, none⟩), .string (sB P), .int .i64 most] w (HitsPost w (hitsL dd P L) most) := by
  refine (callsIn_wide (n := 5)).1 ?_
  have hwf : ∀ f, Fence.wide.fn f = True := fun _ => rfl
  obtain ⟨i0, hi0, hz0, hz1, hz2⟩ := info_parts info_hit5
  refine callsIn_of_wp_marks Try.func20 rfl trivial ?_ rfl
  simp only [Try.ntmps20, List.size_toArray, List.length_cons, List.length_nil, Nat.reduceAdd, Nat.reduceSub, Array.replicate_succ, Array.replicate_zero, List.push_toArray, List.append_toArray, List.nil_append, List.cons_append]
  have BM := (Boxed.new w 3 (.int .i64 (most : Int))).alloc (.cells #[.slice none 0 0] 38)
  have BO := Boxed.new (w.alloc (.cells #[.int .i64 (most : Int)] 3)) 38 (.slice none 0 0)
  rw [World.size_alloc] at BO
  have hb2 : Below w.heap.size w ((w.alloc (.cells #[.int .i64 (most : Int)] 3)).alloc (.cells #[.slice none 0 0] 38)) := ((Below.refl _ w).alloc (Nat.le_refl _) _).alloc (by simp) _
  have hs2 : ((w.alloc (.cells #[.int .i64 (most : Int)] 3)).alloc (.cells #[.slice none 0 0] 38)).heap.size = w.heap.size + 2 := by simp
  obtain ⟨cc, w3, hcv, hcap, hrow3, hb3, hs3⟩ := str_bytes ((w.alloc (.cells #[.int .i64 (most : Int)] 3)).alloc (.cells #[.slice none 0 0] 38)) P hpb
  simp only [World.size_alloc] at hcv hrow3 hs3 hb3 hs2
  have hbw3 : Below w.heap.size w w3 := hb2.trans (hb3.mono (by omega))
  have HTF := Lib.hid (locB w3 base dd bt mp mv L (ht.kept hbw3) (hmx.kept hbw3) _ cc P hrow3 (by omega))
  have HLT := Lib.hid ht
  have HMXL : Hid (Try.lays185_ren.g 1 < w.heap.size) := hmx.lt
  have HDB := Lib.hid hdb
  have HDL := Lib.hid hD
  have HPOS := Lib.hid hpos
  have HPB := Lib.hid hpb
  have HBM := Lib.hid BM
  have HBO := Lib.hid BO
  have HB2 := Lib.hid hb2
  have HS2 := Lib.hid hs2
  have HB3 := Lib.hid hb3
  have HS3 := Lib.hid hs3
  clear ht hmx hbw3 hdb hD hpos hpb BM BO hb2 hs2 hb3 hs3 hrow3 hcap
  generalize sB P = sP at *
  gi_wp2_with (gi_at_call 63; refine (callsIn_wide.2 HTF.out).mono ?_; rintro e w4 ⟨ap, cp, rfl, hb4, hlc, hlp⟩; have HLC := Lib.hid hlc; have HLP := Lib.hid hlp; clear hlc hlp)
  obtain ⟨hw3, hw3'⟩ : w.heap.size + 3 ≤ w3.heap.size ∧ w3.heap.size ≤ w.heap.size + 3 := by have := HS3.out; omega
  have hs4 := hb4.size
  have hb24 : Below w.heap.size w w4 := ((HB2.out.trans (HB3.out.mono (by omega))).trans (hb4.mono (by omega)))
  have HB4 := Lib.hid hb24
  have X1 : Boxed w4 w.heap.size 3 (.int .i64 (most : Int)) := (hb4.block _ (by omega)).trans ((HB3.out.block _ (by omega)).trans HBM.out)
  have X2 : Boxed w4 (w.heap.size + 1) 38 (.slice none 0 0) := (hb4.block _ (by omega)).trans ((HB3.out.block _ (by omega)).trans HBO.out)
  have HLK : Hid (LocK (fun b => b < w4.heap.size ∧ b ≠ w.heap.size + 1) L (w3.heap.size + 1) ap P) := by
    refine ⟨⟨World.block_lt_of_cell? _ _ HLC.out.c2, by omega⟩, ?_, ⟨HLC.out.mx.lt, by have := HMXL.out; omega⟩, fun e he h0 => ?_⟩
    · rcases Nat.eq_zero_or_pos P.length with h | h
      · exact .inl h
      · exact .inr ⟨HLC.out.pr.lt h, by have := HLP.out.resolve_left (by omega); omega⟩
    · have := HLT.out.lt (bOf e.2.1) (.inr ⟨e, he, h0, rfl⟩)
      exact ⟨by omega, by omega⟩
  have HX1 := Lib.hid X1
  have HX2 := Lib.hid X2
  clear hb24 X1 X2 hb4 HBM HBO HB2 HS2 HB3 HS3 HTF hcv
  refine wpIn_rangeFunc_X rfl (by omega) (gf := 100) (lb := #[.pointer (some ⟨w3.heap.size, 0, none⟩), .pointer (some ⟨w3.heap.size + 1, 0, none⟩)]) rfl trivial (enters_of Try.func100 (by kernel_rfl) rfl)
    (loc1B 4 (by omega) (fun b => b < w4.heap.size ∧ b ≠ w.heap.size + 1) base dd w4 bt mp mv L w3.heap.size (w3.heap.size + 1) ap cp P HLC.out HLK.out HDB.out HPB.out (by omega) hL HDL.out HPOS.out)
    (fun b h => h.1) (Below.refl _ _) (fun _ => rfl)
    (fun X (pre : List (Nat × Nat)) W => (∃ v, (Boxed W (w.heap.size + 1) 38 v ∧ ¬ X (w.heap.size + 1)) ∧ W.ownsRow w4.heap.size 88 2 v pre.length (hitVs pre) ∧ (∀ g, v.ownBlock = some g → ¬ X g) ∧ pre.length ≤ most) ∧ (Boxed W w.heap.size 3 (.int .i64 (most : Int)) ∧ ¬ X w.heap.size) ∧ (Below w.heap.size w4 W ∧ ∀ b, X b → w.heap.size ≤ b) ∧ ∀ b, X b → b < W.heap.size)
    (fun c X (pre : List (Nat × Nat)) W => (∃ v, (Boxed W (w.heap.size + 1) 38 v ∧ ¬ X (w.heap.size + 1)) ∧ W.ownsRow w4.heap.size 88 2 v (pre.take most).length (hitVs (pre.take most)) ∧ (∀ g, v.ownBlock = some g → ¬ X g) ∧ (c = .exit 0 ∧ most < pre.length)) ∧ (Below w.heap.size w4 W ∧ ∀ b, X b → w.heap.size ≤ b))
    (Fr.and (Fr.row (w.heap.size + 1) 38 w4.heap.size 88 2 (fun pre : List (Nat × Nat) => pre.length) (fun pre => hitVs pre) (fun pre => pre.length ≤ most)) (Fr.and (Fr.boxed w.heap.size 3 (fun _ => .int .i64 (most : Int))) (Fr.and (Fr.below (by omega)) Fr.bd)))
    (fun c => Fr.and (Fr.row (w.heap.size + 1) 38 w4.heap.size 88 2 (fun pre : List (Nat × Nat) => (pre.take most).length) (fun pre => hitVs (pre.take most)) (fun pre => c = .exit 0 ∧ most < pre.length)) (Fr.below (by omega)))
    ⟨⟨_, ⟨HX2.out, fun h => h⟩, by rw [hitVs_nil]; exact World.ownsRow_nil _ _ _ _, fun g h => by simp [Value.ownBlock] at h, Nat.zero_le _⟩, ⟨HX1.out, fun h => h⟩, ⟨Below.refl _ _, fun b h => h.elim⟩, fun b h => h.elim⟩
    (fun y => { tmps := #[.pointer (some ⟨bt, 0, none⟩), .string sP, .int .i64 (most : Int), undef, undef, .pointer (some ⟨w.heap.size, 0, none⟩), .slice none 0 0, .pointer (some ⟨w.heap.size + 1, 0, none⟩), .int .i64 ((y.1 : Nat) : Int), .int .i64 ((y.2 : Nat) : Int), .pointer (some ⟨bt, 0, none⟩), .string sP, .slice (some ⟨w.heap.size + 1 + 1, 0, none⟩) P.length cc, .func (.func 100) #[] #[.pointer (some ⟨w3.heap.size, 0, none⟩), .pointer (some ⟨w3.heap.size + 1, 0, none⟩)], .int .i64 ((y.1 : Nat) : Int), .int .i64 ((y.2 : Nat) : Int), undef, undef, undef, undef, undef, undef, undef, undef, undef, undef, undef], defers := [] }) ?assign ?body ?done ?stop
  case assign =>
    intro l y W G hG
    unfold hitE5
    gi_wp2
    exact hG
  case body =>
    rintro l X pre y W - hXl ⟨⟨v, hv, hrow, hg, hle⟩, hM, ⟨hB, hge⟩, hbd⟩ hlt
    obtain ⟨y1, y2⟩ := y
    have hc := hv.1.cell
    have hcM := hM.1.cell
    have hs := hB.size
    have hlt2 : pre.length < 100000 := by omega
    obtain ⟨a', cap', rfl⟩ : ∃ a' cap', v = .slice a' pre.length cap' := by
      rcases hrow.2 with ⟨rfl, h⟩ | ⟨g, cap, cur, rfl, _⟩
      · exact ⟨none, 0, by rw [h]⟩
      · exact ⟨_, _, rfl⟩
    have HV := Lib.hid hv
    have HM2 := Lib.hid hM
    have HO := Lib.hid hrow
    have HG := Lib.hid hg
    have HBD := Lib.hid hbd
    have HB5 := Lib.hid hB
    have HGE := Lib.hid hge
    clear hv hM hrow hg hbd hB hge
    by_cases hge2 : (most : Int) ≤ (pre.length : Int)
    · gi_wp2
      have e : (pre ++ [(y1, y2)]).take most = pre := by rw [List.take_append_of_le_length (by omega), List.take_of_length_le (by omega)]
      refine ⟨KeepX.refl _ _, KeepX.refl _ _, ⟨_, HV.out, ?_, HG.out, rfl, by simp; omega⟩, HB5.out, HGE.out⟩
      rw [e]; exact HO.out
    · gi_wp2_with (gi_at_builtin; refine wpListIn_append_own_at _ rfl _ _ 38 rfl w4.heap.size 88 i0 _ 2 16 Try.underlying38 hi0 hz0 hz1 hz2 rfl (by decide) _ pre.length _ rfl (HO.out.alloc _) ⟨W.heap.size, 0, none⟩ 1 1 [.int .i64 ((y1 : Nat) : Int), .int .i64 ((y2 : Nat) : Int)] rfl rfl (World.news_of_block (cs := #[.int .i64 ((y1 : Nat) : Int), .int .i64 ((y2 : Nat) : Int)]) (t := 88) (fr := (0, 0)) (heap_alloc_new W _)) (by simp [Value.oneCell']) (by simp only [maxLen]; omega) (by omega) (by simp; omega) ?_; intro v' w1 hown' hgrow _ hat; obtain ⟨g', cap2, rfl⟩ := ownsRow_succ hown'; obtain ⟨hv1, hv2, hr2, hg2, hk2, hb2, hb3, hs2⟩ := boxed_appX HV.out HO.out HG.out HBD.out (by omega) (by omega) hown' hgrow hat; have hc1 := hv1.cell; have hf1 := hv1.frozen; have HV2 := Lib.hid hv2; have HR2 := Lib.hid hr2; have HG2 := Lib.hid hg2; have HK2 := Lib.hid hk2; have HBB := Lib.hid hb2; have HBW := Lib.hid hb3; have HSS := Lib.hid hs2; clear hv1 hv2 hr2 hg2 hk2 hb2 hb3 hs2 hown' hgrow hat)
      gi_wp2
      refine ⟨HK2.out, ⟨HSS.out, fun b hb hk => HBB.out b hk.1 hk.2⟩, ⟨_, HV2.out, ?_, HG2.out, by simp; omega⟩, ⟨(HBB.out _ (by omega) (by omega)).trans HM2.out.1, HM2.out.2⟩, ⟨HB5.out.trans (HBW.out _ (by omega)), HGE.out⟩, fun b hb => Nat.lt_of_lt_of_le (HBD.out b hb) HSS.out⟩
      rw [hitVs_append, List.length_append, show hitVs [(y1, y2)] = [.int .i64 ((y1 : Nat) : Int), .int .i64 ((y2 : Nat) : Int)] by rw [hitVs_cons, hitVs_nil]]
      exact HR2.out
  case done =>
    rintro D X xs W hD hXD rfl ⟨⟨v, hv, hrow, hg, hle⟩, hM, ⟨hB, hge⟩, hbd⟩ hK
    have hc := hv.1.cell
    obtain ⟨a', cap', rfl, hcap, hr, hb⟩ := hrow_of_owns hrow rfl
    have hDl := (Array.getElem?_eq_some_iff.1 hK).1
    have HFIN : Hid (HitsPost w (hitsL dd P L) most (.returned (.slice a' (hitsL dd P L).length cap')) (W.putObj D (.deferred none))) := by
      have e : (hitsL dd P L).take most = hitsL dd P L := List.take_of_length_le hle
      unfold HitsPost
      rw [e]
      refine ⟨a', cap', rfl, ⟨hr.row.gb (grownBy_putObj' W D (.deferred none)) ?_⟩, (HB4.out.trans hB).trans (belowK_b (w := w) (Nat.le_refl _) W D _ _ (by omega) hK rfl rfl)⟩
      rcases Nat.eq_zero_or_pos (hitsL dd P L).length with h | h
      · exact .inl (by omega)
      · refine .inr fun e => ?_
        have h0 := hr.row.cell 0 (by omega)
        have h1 : bOf a' = D := Option.some.inj e
        rw [h1] at h0
        simp [World.cell?, hK] at h0
    have HK := Lib.hid hK
    clear hv hM hrow hg hB hge hbd hr hb hK hle
    gi_wp2
    refine ⟨by simp, .inl ⟨_, _, rfl, run_takeDeferred HK.out, ?_⟩⟩
    refine ⟨_, results_tmp rfl _ _ _, ?_⟩
    exact HFIN.out
  case stop =>
    rintro D X c pre W hD hXD hpre ⟨⟨v, hv, hrow, hg, rfl, hlt⟩, hB, hge⟩ hK
    have hc := hv.1.cell
    have hDl := (Array.getElem?_eq_some_iff.1 hK).1
    have e : pre.take most = (hitsL dd P L).take most := by
      obtain ⟨t, ht⟩ := hpre
      rw [← ht, List.take_append_of_le_length (by omega)]
    rw [e] at hrow
    obtain ⟨a', cap', rfl, hcap, hr, hb⟩ := hrow_of_owns hrow rfl
    have HFIN : Hid (HitsPost w (hitsL dd P L) most (.returned (.slice a' ((hitsL dd P L).take most).length cap')) (W.putObj D (.deferred none))) := by
      refine ⟨a', cap', rfl, ⟨hr.row.gb (grownBy_putObj' W D (.deferred none)) ?_⟩, (HB4.out.trans hB).trans (belowK_b (w := w) (Nat.le_refl _) W D _ _ (by omega) hK rfl rfl)⟩
      rcases Nat.eq_zero_or_pos ((hitsL dd P L).take most).length with h | h
      · exact .inl (by omega)
      · refine .inr fun e => ?_
        have h0 := hr.row.cell 0 (by omega)
        have h1 : bOf a' = D := Option.some.inj e
        rw [h1] at h0
        simp [World.cell?, hK] at h0
    have HK := Lib.hid hK
    clear hv hrow hg hB hge hr hb hK e
    rw [List.length_take] at HFIN
    gi_wp2
    refine ⟨by simp, .inl ⟨_, _, rfl, run_takeDeferred HK.out, ?_⟩⟩
    refine ⟨_, results_tmp rfl _ _ _, ?_⟩
    exact HFIN.out
end Go.Proofs.Ytoifmfdaghmleaa
