/-
  All's iterator: the documents, one by one; each is laid anew.
-/
import Derived.Test.YtoifmfdaghmleaaBufHits
import Derived.Test.YtoifmfdaghmleaaSeqV
set_option linter.unusedVariables false
namespace Go.Proofs.Ytoifmfdaghmleaa
open Go.RowKit Go.Lib Go.Sort Go.Shelf Go.Proofs.Ytoifmfdaghmleaa.Tx
attribute [local go_sem] Oper.semAt_some

theorem conv_str (W : World) (a : Option Addr) (d : List Nat) (cap : Nat) (h : Row W a d.length (byteV d)) : (convert 26 9 (.slice a d.length cap)).run Try.prog W = .ok (.string (sB d)) W := by
  cases a with
  | none =>
    have : d.length = 0 := by rcases h.at_ with h | h; · exact h
                              · cases h
    have : d = [] := List.eq_nil_of_length_eq_zero this
    subst this
    rw [run_convert_bytes_nil W 26 5 Try.underlying26 Try.underlying5 _ _ 9 Try.underlying9]
    rw [show sB [] = ByteArray.empty by unfold sB; rfl]
  | some ad =>
    have e : strOfNums (d.map Int.ofNat) = sB d := by
      unfold strOfNums sB
      congr 2
      rw [List.map_map]
      exact List.map_congr_left fun c _ => rfl
    rcases h.at_ with h0 | h0
    · have : d = [] := List.eq_nil_of_length_eq_zero h0
      subst this
      rw [run_convert_bytes_string W 26 9 5 _ _ cap Try.underlying26 Try.underlying5 Try.underlying9]
      have := run_bytesToString (P := Try.prog) W ad 0 cap [] (by simp [loadCells, loadCellsFrom])
      simp only [List.length_nil]
      rw [this, ← e]; rfl
    · obtain ⟨b, o, sp⟩ := ad
      obtain rfl : sp = none := by injection h0 with h0; injection h0
      have := run_convert_bytes_arg (P := Try.prog) W 26 5 Try.underlying26 Try.underlying5 b o d.length cap (d.map Int.ofNat) (by simp) (fun i hi => by
        refine (h.cell i hi).trans ?_
        simp [List.getD_eq_getElem?_getD, hi]) 9 Try.underlying9
      rw [this, e]

abbrev BufY := Int × Option Addr
def docE5 (dd : Int → List Nat) (y : BufY) : Array Value := #[.int .i64 y.1, .slice y.2 (dd y.1).length (dd y.1).length]
def docOk5 (dd : Int → List Nat) (ids : List Int) (X : Nat → Prop) (pre : List BufY) (y : BufY) (W : World) : Prop :=
  pre.map Prod.fst ++ [y.1] <+: ids ∧ Row W y.2 (dd y.1).length (byteV (dd y.1)) ∧ ((dd y.1).length = 0 ∨ X (bOf y.2))
theorem docOk5_put {dd : Int → List Nat} {ids : List Int} (X X' : Nat → Prop) (pre : List BufY) (y : BufY) (W : World) (l : Nat) (r : Loop) (o : Obj) (hx : ∀ b, X b → X' b) (h : docOk5 dd ids X pre y W) (hl : W.heap[l]? = some (.loop r)) : docOk5 dd ids X' pre y (W.putObj l o) :=
  ⟨h.1, row_putLoop h.2.1 o hl, h.2.2.imp id (hx _)⟩
theorem ballf (w : World) (bf : Nat) :
    Calls Try.prog 62 #[.pointer (some ⟨bf, 0, none⟩)] w fun e w' => e = .returned (.func (.func 98) #[] #[.pointer (some ⟨w.heap.size, 0, none⟩)]) ∧ w' = w.alloc (.cells #[.pointer (some ⟨bf, 0, none⟩)] 22) := by
  go_enter Try.func62, Try.ntmps62
  go_wp2
  go_ret
  exact ⟨rfl, rfl⟩
theorem ok_new5 {W : World} {a : Option Addr} {n B : Nat} {f : Nat → Value} (hr : Row W a n f) (hl : n = 0 ∨ B ≤ bOf a) : n = 0 ∨ (B ≤ bOf a ∧ bOf a < W.heap.size) := by
  rcases Nat.eq_zero_or_pos n with h | h
  · exact .inl h
  · exact .inr ⟨hl.resolve_left (by omega), hr.lt h⟩
theorem bool_ways5 {e : Ending} {A B : Prop} (h : (e = .returned (.bool true) ∧ A) ∨ (e = .returned (.bool false) ∧ B)) : ∃ b, e = .returned (.bool b) ∧ ((b = true ∧ A) ∨ (b = false ∧ B)) := by
  rcases h with ⟨rfl, h⟩ | ⟨rfl, h⟩
  · exact ⟨true, rfl, .inl ⟨rfl, h⟩⟩
  · exact ⟨false, rfl, .inr ⟨rfl, h⟩⟩
theorem Fr.ex2 {β γ : Type} {J : γ → (Nat → Prop) → β → World → Prop} {p : γ → β → Prop} (h : ∀ c, Fr (J c)) : Fr (fun X s W => ∃ c, p c s ∧ J c X s W) := fun X X' s W W' ⟨c, hp, hj⟩ st hx => ⟨c, hp, h c X X' s W W' hj st hx⟩
set_option maxRecDepth 100000 in
set_option maxHeartbeats 4000000 in
theorem all1B (n : Nat) (hn : 3 ≤ n) (K : Nat → Prop) (base : Nat) (dd : Int → List Nat) (w : World) (bp mp : Nat) (mv : Value) (L : List BEnt) (B1 : Nat) (h : BufS base dd w bp mp mv L) (hc1 : w.cell? ⟨B1, 0, none⟩ = some (.pointer (some ⟨bp, 0, none⟩))) (hK : ∀ e ∈ L, 0 < e.2.2.1 → K (bOf e.2.1))
    (hL : L.length ≤ 100000) (hD : ∀ i, (dd i).length ≤ 1000000) :
    SeqV Fence.wide n Try.prog 98 #[.pointer (some ⟨B1, 0, none⟩)] (docE5 dd) K (fun xs => xs.map Prod.fst = ksG L) (fun pre => pre.map Prod.fst <+: ksG L) (docOk5 dd (ksG L)) w := by
  intro l J Jx W hW hJ hJx hY h0
  have hwf : ∀ f, Fence.wide.fn f = True := fun _ => rfl
  refine callsIn_of_wp_marks Try.func98 rfl trivial ?_ rfl
  simp only [Try.ntmps98, List.size_toArray, List.length_cons, List.length_nil, Nat.reduceAdd, Nat.reduceSub, Array.replicate_succ, Array.replicate_zero, List.push_toArray, List.append_toArray, List.nil_append, List.cons_append]
  have HY := Lib.hid hY
  have HJ := Lib.hid hJ
  have HJX := Lib.hid hJx
  have HK := Lib.hid hK
  have HDL := Lib.hid hD
  have hbw : Below W.heap.size W (W.alloc (.cells #[.func (.yield l) #[] #[]] 84)) := (Below.refl _ W).alloc (Nat.le_refl _) _
  have hl1 := (h.kept hW).kept hbw
  have c0 := (hW.cell (World.block_lt_of_cell? w _ hc1)).trans hc1
  have c1 := (hbw.cell (World.block_lt_of_cell? W _ c0)).trans c0
  have c2 := hl1.cap.1
  have HBW := Lib.hid hbw
  have HL1 := Lib.hid hl1
  have HYB := Lib.hid (Boxed.new W 84 (.func (.yield l) #[] #[]))
  have HJ1 : Hid (∀ W', Below W.heap.size W W' → J (fun b => W.heap.size ≤ b ∧ b < W'.heap.size) [] W') := fun W' hb => hJ _ _ _ _ _ h0 (StepX.of_below hb) (fun b hb' => .inr hb')
  have HAL := Lib.hid (allGI _ mp mv L hl1.map (by omega))
  clear hY hJ hJx hK h0 h hW hD hbw hl1 hc1 c0
  gi_wp2_with fail
  refine ⟨fun _ => by omega, (callsIn_wide.2 HAL.out).mono ?_⟩
  rintro e w2 ⟨fv, rfl, hit, hb2⟩
  obtain ⟨gf, lb, rfl, eg, hseq⟩ := hit
  have HB2 := Lib.hid (below_next HBW.out hb2 HBW.out.size)
  have HL2 := Lib.hid (HL1.out.kept hb2)
  have HYB2 : Hid (Boxed w2 W.heap.size 84 (.func (.yield l) #[] #[])) := (hb2.block _ HYB.out.lt).trans HYB.out
  have HSZ : Hid (W.heap.size + 1 ≤ w2.heap.size) := by have := hb2.size; rw [World.size_alloc] at this; exact this
  have HSQ := Lib.hid hseq
  clear hb2 HAL HL1 HYB c1 c2 hseq HBW
  obtain ⟨X1, hX1⟩ : ∃ X1 : Nat → Prop, X1 = fun b => W.heap.size ≤ b ∧ b < w2.heap.size := ⟨_, rfl⟩
  obtain ⟨K1, hK1⟩ : ∃ K1 : Nat → Prop, K1 = fun b => K b ∨ X1 b := ⟨_, rfl⟩
  have HJ2 : Hid (J (fun b => X1 b ∨ False) [] w2) := by
    have := HJ1.out w2 HB2.out
    rw [← hX1] at this
    exact HJ.out _ _ _ _ _ this (StepX.refl _ _) (fun b hb => .inl (hb.resolve_right id))
  have x1y : X1 W.heap.size := by rw [hX1]; exact ⟨Nat.le_refl _, HSZ.out⟩
  have x1lt : ∀ b, X1 b → b < w2.heap.size := fun b h => by rw [hX1] at h; exact h.2
  have k1k : ∀ b, K b → K1 b := fun b h => by rw [hK1]; exact .inl h
  have k1x : ∀ b, X1 b → K1 b := fun b h => by rw [hK1]; exact .inr h
  have k1d : ∀ b, K1 b → K b ∨ X1 b := fun b h => by rw [hK1] at h; exact h
  have HRD : Hid (∀ W', KeepX K1 w2 W' → (∀ e ∈ L, Row W' e.2.1 (dd e.1).length (byteV (dd e.1))) ∧ Boxed W' W.heap.size 84 (.func (.yield l) #[] #[])) := fun W' hk => by
    refine ⟨fun e he => ?_, (hk.block _ HYB2.out.lt (k1x _ x1y)).trans HYB2.out⟩
    obtain ⟨h1, h2⟩ := HL2.out.docs e he
    refine row_keepX5 hk h2 ?_
    rcases Nat.eq_zero_or_pos (dd e.1).length with h0 | h0
    · exact .inl h0
    · exact .inr (k1k _ (HK.out e he (by omega)))
  have HDC : Hid (∀ e ∈ L, e.2.2.1 = (dd e.1).length ∧ e.2.2.2 = e.2.2.1) := fun e he => (HL2.out.docs e he).1
  obtain ⟨By, hBy⟩ : ∃ By, By = W.heap.size := ⟨_, rfl⟩
  rw [← hBy] at HRD x1y ⊢
  clear hX1 hK1 HJ1 HSZ HYB2 hBy
  gi_wp2
  refine wpIn_rangeFunc_G rfl (by omega) (gf := gf) (lb := lb) rfl trivial eg (HSQ.out (n - 1) (by omega) (fun _ => False)) (fun b h => h.elim) (Below.refl _ _) (fun _ => rfl)
    (fun Xo (pre : List BEnt) W' => (∃ ys : List BufY, ys.map Prod.fst = ksG pre ∧ J (fun b => X1 b ∨ Xo b) ys W') ∧ ((KeepX K1 w2 W' ∧ ∀ b, Xo b → w2.heap.size ≤ b) ∧ ∀ b, Xo b → b < W'.heap.size))
    (fun c Xo (pre : List BEnt) W' => (∃ ys : List BufY, ys.map Prod.fst <+: ksG L ∧ Jx (fun b => X1 b ∨ Xo b) ys W') ∧ c = .ret)
    (Fr.and (Fr.ex2 (p := fun ys pre => ys.map Prod.fst = ksG pre) (fun ys => Fr.or HJ.out X1 (fun _ : List BEnt => ys))) (Fr.and (Fr.keep K1 w2) Fr.bd))
    (fun c => Fr.and (Fr.ex (fun ys => Fr.or HJX.out X1 (fun _ : List BEnt => ys))) (Fr.pure (fun _ => c = .ret)))
    ⟨⟨[], rfl, HJ2.out⟩, ⟨KeepX.refl _ _, fun b h => h.elim⟩, fun b h => h.elim⟩
    (fun e => { tmps := #[.func (.yield l) #[] #[], .pointer (some ⟨B1, 0, none⟩), .pointer (some ⟨By, 0, none⟩), .int .i64 e.1, .slice e.2.1 e.2.2.1 e.2.2.2, .pointer (some ⟨bp, 0, none⟩), .pointer (some ⟨bp, 0, none⟩), .pointer (some ⟨bp, 0, none⟩), .pointer (some ⟨mp, 0, none⟩), .func (.func gf) #[] lb, .int .i64 e.1, .slice e.2.1 e.2.2.1 e.2.2.2, undef, undef, undef, undef, undef, undef], defers := [] }) ?assign ?body ?done ?stop
  case assign =>
    rintro lo ⟨id, a, m, c⟩ Wb G hG
    gi_wp2
    exact hG
  case body =>
    rintro lo Xo pre ⟨id, a, m, c⟩ Wb - hXl ⟨⟨ys, hys, hj⟩, ⟨hkp, hge⟩, hbd⟩ hok
    have hmem : (id, a, m, c) ∈ L := List.IsPrefix.subset hok (by simp)
    obtain ⟨hm, hc⟩ := HDC.out _ hmem
    simp only at hm hc
    subst hc
    subst hm
    obtain ⟨hrow0, hyb⟩ := HRD.out Wb hkp
    have hrow := hrow0 _ hmem
    simp only at hrow
    have HOW := Lib.hid (own_any Wb.drew a (dd id).length (dd id).length (byteV (dd id)) (HDL.out id) (fun _ _ => rfl) hrow.drew)
    have HPF : Hid (ys.map Prod.fst ++ [id] <+: ksG L) := by
      obtain ⟨t, ht⟩ := hok
      refine ⟨ksG t, ?_⟩
      rw [hys, ← ht]
      unfold ksG
      simp
    have HKS : Hid ((ys ++ [(id, a)]).map Prod.fst = ksG (pre ++ [(id, a, (dd id).length, (dd id).length)])) := by
      show _ = _
      rw [List.map_append, hys]
      unfold ksG
      simp
    have hc2 := hyb.cell
    have HYB := Lib.hid hyb
    have HKP := Lib.hid hkp
    have HGE := Lib.hid hge
    have HBD := Lib.hid hbd
    have HJB : Hid (∀ W2, Below Wb.heap.size Wb W2 → J (fun b => (X1 b ∨ Xo b) ∨ (Wb.heap.size ≤ b ∧ b < W2.heap.size)) ys W2) := fun W2 hb => HJ.out _ _ _ _ _ hj (StepX.of_below hb) (fun b hb => hb)
    have HYW : Hid (∀ W2, Below Wb.heap.size Wb W2 → Boxed W2 By 84 (.func (.yield l) #[] #[])) := fun W2 hb => (hb.block _ HYB.out.lt).trans HYB.out
    clear hok hmem hrow0 hrow hyb hj hkp hge hbd hys
    simp only
    gi_wp2
    gi_region_with (first
        | (refine ⟨fun _ => by omega, (callsIn_wide.2 HOW.out).mono ?_⟩; rintro e W2 ⟨a', rfl, hr2, hb2, hl2⟩; have HB3 : Hid (Below Wb.heap.size Wb W2) := (show Below Wb.heap.size Wb W2 from ((Below.refl _ Wb).drew).trans hb2); obtain ⟨fn, tmps, assign, body, hy, hR⟩ := HY.out _ ys (id, a') W2 (HJB.out W2 HB3.out) ⟨HPF.out, hr2, (ok_new5 hr2 hl2).imp (fun h => h) (fun h => .inr h)⟩; have HYR := Lib.hid hR; have hc3 := (HYW.out W2 HB3.out).cell; unfold docE5 at hy; simp only at hy; clear hR hr2 hb2 hl2)
        | (refine ⟨(fun h => by cases h), (roundIn_wide HYR.out).mono ?_⟩; rintro e0 W3 ⟨hkx, hkk, hor⟩; obtain ⟨bb, rfl, hbb⟩ := bool_ways5 hor; have HBW := Lib.hid hbb; have HKX := Lib.hid hkx; have HKK := Lib.hid hkk; clear hkx hkk hor hbb))
    all_goals
      have hkx := HKX.out
      have hkk := HKK.out
      have hor := HBW.out
      have hz := HB3.out.size
      have hk2 := HKP.out.size
      have hk3 := hkx.size
      have HF1 : Hid (KeepX Xo Wb W3) := ⟨by omega, fun b hb h => (hkx.block b (by omega) (.inl (.inr h))).trans (HB3.out.block b hb)⟩
      have HF5 : Hid (KeepX (fun _ => False) Wb W3) := ⟨by omega, fun b hb h => h.elim⟩
      have HF2 : Hid (KeepX K1 w2 W3) := ⟨by omega, fun b hb h => ((k1d b h).elim (fun h => hkk.block b (by omega) h) (fun h => hkx.block b (by omega) (.inl (.inl h)))).trans ((HB3.out.block b (by omega)).trans (HKP.out.block b hb h))⟩
      have HF4 : Hid (∀ b, Xo b → b < W3.heap.size) := fun b h => by have := HBD.out b h; omega
      clear hkx hkk hy hz hk2 hk3 hc2 hc3
      rcases hor with ⟨rfl, hj3⟩ | ⟨rfl, hj3⟩
      · have HJ3 := Lib.hid (HJ.out _ _ _ _ _ hj3 (StepX.refl _ _) (fun b (hb : X1 b ∨ Xo b) => .inl (.inl hb)))
        clear hj3
        gi_wp2
        refine ⟨HF1.out, HF5.out, ⟨_, ?_, HJ3.out⟩, ⟨HF2.out, HGE.out⟩, HF4.out⟩
        rw [← HKS.out, List.map_append, List.map_append]; rfl
      · have HJ3 := Lib.hid (HJX.out _ _ _ _ _ hj3 (StepX.refl _ _) (fun b (hb : X1 b ∨ Xo b) => .inl (.inl hb)))
        clear hj3
        gi_wp2
        refine ⟨HF1.out, HF5.out, ⟨_, ?_, HJ3.out⟩, rfl⟩
        rw [List.map_append]; exact HPF.out
  case done =>
    rintro D Xd xs W3 hD hXD rfl ⟨⟨ys, hys, hj⟩, -, -⟩ hk
    have HJ3 := Lib.hid hj
    have HDK := Lib.hid hk
    have HYS := Lib.hid hys
    clear hj hk hys
    gi_wp2
    refine leaves_marks (fun b => X1 b ∨ Xd b) (fun W => J (fun b => X1 b ∨ Xd b) ys W) (fun A B h st => HJ.out.step h st) (fun A h => ?_) [D] W3 ?_ ?_ HJ3.out
    · exact ⟨_, results_none rfl _ _ _, ⟨_, rfl⟩, .inl ⟨_, _, HYS.out, h⟩⟩
    · simp
    · intro E hE
      obtain rfl := List.mem_singleton.1 hE
      exact ⟨.inr hXD, HDK.out⟩
  case stop =>
    rintro D Xd c pre W3 hD hXD hpre ⟨⟨ys, hp, hj⟩, rfl⟩ hk
    have HJ3 := Lib.hid hj
    have HDK := Lib.hid hk
    have HPR := Lib.hid hp
    clear hj hk hp
    gi_wp2
    refine leaves_marks (fun b => X1 b ∨ Xd b) (fun W => Jx (fun b => X1 b ∨ Xd b) ys W) (fun A B h st => HJX.out.step h st) (fun A h => ?_) [D] W3 ?_ ?_ HJ3.out
    · exact ⟨_, results_none rfl _ _ _, ⟨_, rfl⟩, .inr ⟨_, _, HPR.out, h⟩⟩
    · simp
    · intro E hE
      obtain rfl := List.mem_singleton.1 hE
      exact ⟨.inr hXD, HDK.out⟩
end Go.Proofs.Ytoifmfdaghmleaa
