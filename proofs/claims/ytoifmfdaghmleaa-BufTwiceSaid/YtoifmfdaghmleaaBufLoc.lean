/-
  Locate and its iterator: it ranges over the map's, and within each round over text.In's; its contract.
-/
import Derived.Test.YtoifmfdaghmleaaBufAdd
import Derived.Test.YtoifmfdaghmleaaMapAllG
import Derived.Test.YtoifmfdaghmleaaSeqN
import Derived.Test.YtoifmfdaghmleaaFindIn
set_option linter.unusedVariables false
namespace Go.Proofs.Ytoifmfdaghmleaa
open Go.RowKit Go.Lib Go.Sort Go.Shelf Go.Proofs.Ytoifmfdaghmleaa.Tx
attribute [local go_sem] Oper.semAt_some

def hitE5 (y : Nat × Nat) : Array Value := #[.int .i64 (y.1 : Int), .int .i64 (y.2 : Int)]
/-- the hits in documents -/
def hitsL (dd : Int → List Nat) (P : List Nat) (L : List BEnt) : List (Nat × Nat) := L.flatMap fun e => (inL P (dd e.1)).map fun k => (e.1.toNat, k)
theorem hitsL_nil (dd : Int → List Nat) (P : List Nat) : hitsL dd P [] = [] := rfl
theorem hitsL_app (dd : Int → List Nat) (P : List Nat) (A B : List BEnt) : hitsL dd P (A ++ B) = hitsL dd P A ++ hitsL dd P B := by unfold hitsL; exact List.flatMap_append
theorem hitsL_snoc (dd : Int → List Nat) (P : List Nat) (A : List BEnt) (e : BEnt) : hitsL dd P (A ++ [e]) = hitsL dd P A ++ (inL P (dd e.1)).map fun k => (e.1.toNat, k) := by
  rw [hitsL_app]
  unfold hitsL
  simp
theorem hitsL_pre {dd : Int → List Nat} {P : List Nat} {A B : List BEnt} (h : A <+: B) : hitsL dd P A <+: hitsL dd P B := by
  obtain ⟨t, rfl⟩ := h
  rw [hitsL_app]
  exact List.prefix_append _ _
attribute [irreducible] hitsL
theorem SeqG.inRound {α : Type} {F : Fence} {n : Nat} {P : Program} {g : Nat} {lb : Array Value} {encs : α → Array Value} {K : Nat → Prop} {S Sp : List α → Prop} {Ok : List α → α → Prop} {w : World} (l : Nat) (h : SeqG F n P g lb encs K S Sp Ok w) : SeqG (F.inRound l) n P g lb encs K S Sp Ok w := h
theorem Fr.ex {β γ : Type} {J : γ → (Nat → Prop) → β → World → Prop} {p : γ → Prop} (h : ∀ c, Fr (J c)) : Fr (fun X s W => ∃ c, p c ∧ J c X s W) := fun X X' s W W' ⟨c, hp, hj⟩ st hx => ⟨c, hp, h c X X' s W W' hj st hx⟩
theorem tin5 (w : World) (ad ap : Option Addr) (n cd m cp : Nat) :
    Calls Try.prog 101 #[.slice ad n cd, .slice ap m cp] w fun e w' => e = .returned (.func (.func 129) #[] #[.pointer (some ⟨w.heap.size + 1, 0, none⟩), .pointer (some ⟨w.heap.size, 0, none⟩)]) ∧ w' = (w.alloc (.cells #[.slice ad n cd] 26)).alloc (.cells #[.slice ap m cp] 26) := by
  go_enter Try.func101, Try.ntmps101
  go_wp2
  go_ret
  exact ⟨rfl, rfl⟩
/-- what Locate's iterator reads -/
structure LocAt (base : Nat) (dd : Int → List Nat) (W : World) (bp mp : Nat) (mv : Value) (L : List BEnt) (B1 B2 : Nat) (ap : Option Addr) (cp : Nat) (P : List Nat) : Prop where
  buf : BufS base dd W bp mp mv L
  c1 : W.cell? ⟨B1, 0, none⟩ = some (.pointer (some ⟨bp, 0, none⟩))
  c2 : W.cell? ⟨B2, 0, none⟩ = some (.slice ap P.length cp)
  pr : Row W ap P.length (byteV P)
  mx : MaxCell W
theorem LocAt.kept {base : Nat} {dd : Int → List Nat} {W W' : World} {bp mp : Nat} {mv : Value} {L : List BEnt} {B1 B2 : Nat} {ap : Option Addr} {cp : Nat} {P : List Nat} (h : LocAt base dd W bp mp mv L B1 B2 ap cp P) (hb : Below W.heap.size W W') : LocAt base dd W' bp mp mv L B1 B2 ap cp P :=
  ⟨h.buf.kept hb, (hb.cell (World.block_lt_of_cell? W _ h.c1)).trans h.c1, (hb.cell (World.block_lt_of_cell? W _ h.c2)).trans h.c2, h.pr.kept hb, h.mx.kept hb⟩
/-- .. which the caller's rounds keep -/
structure LocK (K : Nat → Prop) (L : List BEnt) (B2 : Nat) (ap : Option Addr) (P : List Nat) : Prop where
  c2 : K B2
  pr : P.length = 0 ∨ K (bOf ap)
  mx : K (Try.lays185_ren.g 1)
  docs : ∀ e ∈ L, 0 < e.2.2.1 → K (bOf e.2.1)
theorem cell_keepX5 {K : Nat → Prop} {W W' : World} (kp : KeepX K W W') {p : Addr} {v : Value} (hx : K p.block) (hc : W.cell? p = some v) : W'.cell? p = some v :=
  (World.cell?_of_block (kp.block _ (World.block_lt_of_cell? W _ hc) hx)).trans hc
theorem row_keepX5 {K : Nat → Prop} {W W' : World} (kp : KeepX K W W') {a : Option Addr} {n : Nat} {f : Nat → Value} (h : Row W a n f) (hx : n = 0 ∨ K (bOf a)) : Row W' a n f :=
  ⟨h.at_, fun k hk => cell_keepX5 kp (p := ⟨bOf a, oOf a + k, none⟩) (hx.resolve_left (by omega)) (h.cell k hk)⟩
set_option maxRecDepth 100000 in
set_option maxHeartbeats 4000000 in
theorem loc1B (n : Nat) (hn : 4 ≤ n) (K : Nat → Prop) (base : Nat) (dd : Int → List Nat) (w : World) (bp mp : Nat) (mv : Value) (L : List BEnt) (B1 B2 : Nat) (ap : Option Addr) (cp : Nat) (P : List Nat) (h : LocAt base dd w bp mp mv L B1 B2 ap cp P) (hK : LocK K L B2 ap P)
    (hdb : ∀ i, ∀ c ∈ dd i, c < 256) (hpb : ∀ c ∈ P, c < 256) (hPl : P.length ≤ 1000000) (hL : L.length ≤ 100000) (hD : ∀ i, (dd i).length ≤ 1000000) (hpos : ∀ e ∈ L, 0 ≤ e.1) :
    SeqX Fence.wide n Try.prog 100 #[.pointer (some ⟨B1, 0, none⟩), .pointer (some ⟨B2, 0, none⟩)] hitE5 K (fun xs => xs = hitsL dd P L) (fun pre => pre <+: hitsL dd P L) (hitsL dd P L).length w := by
  intro l J Jx W hW hJ hJx hY h0
  have hLA := h.kept (hW.mono (Nat.le_refl _))
  have hwf : ∀ f, Fence.wide.fn f = True := fun _ => rfl
  refine callsIn_of_wp_marks Try.func100 rfl trivial ?_ rfl
  simp only [Try.ntmps100, List.size_toArray, List.length_cons, List.length_nil, Nat.reduceAdd, Nat.reduceSub, Array.replicate_succ, Array.replicate_zero, List.push_toArray, List.append_toArray, List.nil_append, List.cons_append]
  have HY := Lib.hid hY
  have HJ := Lib.hid hJ
  have HJX := Lib.hid hJx
  have HK := Lib.hid hK
  have HPB := Lib.hid hpb
  have HDB := Lib.hid hdb
  have HDL := Lib.hid hD
  have HPOS := Lib.hid hpos
  have hbw : Below W.heap.size W (W.alloc (.cells #[.func (.yield l) #[] #[]] 29)) := (Below.refl _ W).alloc (Nat.le_refl _) _
  have hl1 := hLA.kept hbw
  have c1 := hl1.c1
  have c2 := hl1.buf.cap.1
  have HBW := Lib.hid hbw
  have HL1 := Lib.hid hl1
  have HYB := Lib.hid (Boxed.new W 29 (.func (.yield l) #[] #[]))
  have HJ1 : Hid (∀ W', Below W.heap.size W W' → J (fun b => W.heap.size ≤ b ∧ b < W'.heap.size) [] W') := fun W' hb => hJ _ _ _ _ _ h0 (StepX.of_below hb) (fun b hb' => .inr hb')
  have HAL := Lib.hid (allGI _ mp mv L hl1.buf.map (by omega))
  clear hY hJ hJx hK h0 hLA h hW hpb hdb hD hpos hbw hl1
  gi_wp2_with fail
  refine ⟨fun _ => by omega, (callsIn_wide.2 HAL.out).mono ?_⟩
  rintro e w2 ⟨fv, rfl, hit, hb2⟩
  obtain ⟨gf, lb, rfl, eg, hseq⟩ := hit
  have HB2 := Lib.hid (below_next HBW.out hb2 HBW.out.size)
  have HL2 := Lib.hid (HL1.out.kept hb2)
  have HYB2 : Hid (Boxed w2 W.heap.size 29 (.func (.yield l) #[] #[])) := (hb2.block _ HYB.out.lt).trans HYB.out
  have HSZ : Hid (W.heap.size + 1 ≤ w2.heap.size) := by have := hb2.size; rw [World.size_alloc] at this; exact this
  have HSQ := Lib.hid hseq
  clear hb2 HAL HL1 HYB c1 c2 hseq HBW
  obtain ⟨X1, hX1⟩ : ∃ X1 : Nat → Prop, X1 = fun b => W.heap.size ≤ b ∧ b < w2.heap.size := ⟨_, rfl⟩
  obtain ⟨K1, hK1⟩ : ∃ K1 : Nat → Prop, K1 = fun b => K b ∨ X1 b := ⟨_, rfl⟩
  have HJ2 : Hid (J (fun b => X1 b ∨ False) (hitsL dd P []) w2) := by
    rw [hitsL_nil]
    have := HJ1.out w2 HB2.out
    rw [← hX1] at this
    exact HJ.out _ _ _ _ _ this (StepX.refl _ _) (fun b hb => .inl (hb.resolve_right id))
  have x1y : X1 W.heap.size := by rw [hX1]; exact ⟨Nat.le_refl _, HSZ.out⟩
  have x1lt : ∀ b, X1 b → b < w2.heap.size := fun b h => by rw [hX1] at h; exact h.2
  have k1k : ∀ b, K b → K1 b := fun b h => by rw [hK1]; exact .inl h
  have k1x : ∀ b, X1 b → K1 b := fun b h => by rw [hK1]; exact .inr h
  have k1d : ∀ b, K1 b → K b ∨ X1 b := fun b h => by rw [hK1] at h; exact h
  have HRD : Hid (∀ W', KeepX K1 w2 W' → (∀ e ∈ L, Row W' e.2.1 (dd e.1).length (byteV (dd e.1))) ∧ W'.cell? ⟨B2, 0, none⟩ = some (.slice ap P.length cp) ∧ Row W' ap P.length (byteV P) ∧ MaxCell W' ∧ Boxed W' W.heap.size 29 (.func (.yield l) #[] #[])) := fun W' hk => by
    have hl := HL2.out
    refine ⟨fun e he => ?_, cell_keepX5 hk (k1k _ HK.out.c2) hl.c2, row_keepX5 hk hl.pr (HK.out.pr.imp id (k1k _)), hl.mx.block (hk.block _ hl.mx.lt (k1k _ HK.out.mx)), (hk.block _ HYB2.out.lt (k1x _ x1y)).trans HYB2.out⟩
    obtain ⟨h1, h2⟩ := hl.buf.docs e he
    refine row_keepX5 hk h2 ?_
    rcases Nat.eq_zero_or_pos (dd e.1).length with h0 | h0
    · exact .inl h0
    · exact .inr (k1k _ (HK.out.docs e he (by omega)))
  have HDC : Hid (∀ e ∈ L, e.2.2.1 = (dd e.1).length ∧ e.2.2.2 = e.2.2.1) := fun e he => (HL2.out.buf.docs e he).1
  obtain ⟨By, hBy⟩ : ∃ By, By = W.heap.size := ⟨_, rfl⟩
  rw [← hBy] at HRD x1y ⊢
  clear hX1 hK1 HJ1 HSZ HYB2 hBy
  gi_wp2
  refine wpIn_rangeFunc_GA rfl (by omega) (gf := gf) (lb := lb) rfl trivial eg (HSQ.out (n - 1) (by omega) (fun _ => False)) (fun b h => h.elim) (Below.refl _ _) (fun _ => rfl)
    (fun Xo (pre : List BEnt) W' => J (fun b => X1 b ∨ Xo b) (hitsL dd P pre) W' ∧ ((KeepX K1 w2 W' ∧ ∀ b, Xo b → w2.heap.size ≤ b) ∧ ∀ b, Xo b → b < W'.heap.size))
    (fun c Xo (pre : List BEnt) W' => (∃ hs, hs <+: hitsL dd P L ∧ Jx (fun b => X1 b ∨ Xo b) hs W') ∧ c = .ret)
    (Fr.and (Fr.or HJ.out X1 (fun pre : List BEnt => hitsL dd P pre)) (Fr.and (Fr.keep K1 w2) Fr.bd))
    (fun c => Fr.and (Fr.ex (fun hs => Fr.or HJX.out X1 (fun _ : List BEnt => hs))) (Fr.pure (fun _ => c = .ret)))
    ⟨HJ2.out, ⟨KeepX.refl _ _, fun b h => h.elim⟩, fun b h => h.elim⟩
    (fun e Wb a' Wa => Wa = Wb.alloc (.cells #[.int .i64 e.1] 3) ∧ a' = { tmps := #[.func (.yield l) #[] #[], .pointer (some ⟨B1, 0, none⟩), .pointer (some ⟨B2, 0, none⟩), .pointer (some ⟨By, 0, none⟩), .pointer (some ⟨Wb.heap.size, 0, none⟩), .slice e.2.1 e.2.2.1 e.2.2.2, undef, .pointer (some ⟨bp, 0, none⟩), .pointer (some ⟨bp, 0, none⟩), .pointer (some ⟨bp, 0, none⟩), .pointer (some ⟨mp, 0, none⟩), .func (.func gf) #[] lb, .int .i64 e.1, .slice e.2.1 e.2.2.1 e.2.2.2, undef, undef, undef, undef, undef, undef, undef, undef, undef], defers := [] }) ?assign ?body ?done ?stop
  case assign =>
    rintro lo ⟨id, a, m, c⟩ Wb G hG
    gi_wp2
    exact hG _ _ ((Below.refl _ Wb).alloc (Nat.le_refl _) _) ⟨rfl, rfl⟩
  case body =>
    rintro lo Xo pre ⟨id, a, m, c⟩ Wb Wa a' o hXl ⟨hj, ⟨hkp, hge⟩, hbd⟩ hok hba ⟨rfl, rfl⟩ hloop ⟨r0, rfl⟩
    simp only
    have hmem : (id, a, m, c) ∈ L := List.IsPrefix.subset hok (by simp)
    obtain ⟨hm, hc⟩ := HDC.out _ hmem
    simp only at hm hc
    subst hc
    subst hm
    have hid := HPOS.out _ hmem
    simp only at hid
    have HPRE := Lib.hid (hitsL_pre (dd := dd) (P := P) hok)
    rw [hitsL_snoc] at HPRE
    simp only at hba hloop HPRE
    have hsza : (Wb.alloc (.cells #[.int .i64 id] 3)).heap.size = Wb.heap.size + 1 := by simp
    have hBi : Boxed (Wb.alloc (.cells #[.int .i64 id] 3)) Wb.heap.size 3 (.int .i64 id) := Boxed.new _ _ _
    generalize (Wb.alloc (.cells #[.int .i64 id] 3)) = Wa at *
    have hlt : lo < Wa.heap.size := by obtain ⟨r, h⟩ := hloop; exact (Array.getElem?_eq_some_iff.1 h).1
    have hlor : (Wa.putObj lo (.loop r0)).heap[lo]? = some (.loop r0) := World.putObj_heap_same hlt
    have STW : StepX (fun b => b = lo) Wa (Wa.putObj lo (.loop r0)) := StepX.putObj _ _ _ rfl
    have hszr : (Wa.putObj lo (.loop r0)).heap.size = Wa.heap.size := by simp [World.putObj]
    generalize (Wa.putObj lo (.loop r0)) = wr at *
    have hlob := hbd lo hXl
    have hlow := hge lo hXl
    have hb0 := hba.size
    have hk0 := hkp.size
    have hkw : KeepX K1 w2 wr := ⟨by omega, fun b hb hk => (STW.block b (by omega) (by omega)).trans ((hba.block b (by omega)).trans (hkp.block b hb hk))⟩
    have hJr : J (fun b => X1 b ∨ Xo b ∨ b = Wb.heap.size) (hitsL dd P pre) wr := HJ.out _ _ _ _ _ hj ((StepX.of_below hba).trans (STW.mono (fun b _ e => by subst e; exact .inr hXl))) (fun b hb => by
      rcases hb with h | h | h
      · exact .inl (.inl h)
      · exact .inl (.inr h)
      · exact .inr (by omega))
    have hBir : Boxed wr Wb.heap.size 3 (.int .i64 id) := (STW.block _ (by omega) (by omega)).trans hBi
    obtain ⟨hrow0, hc2, hpr, hmx, hyb⟩ := HRD.out wr hkw
    have hrow := hrow0 _ hmem
    simp only at hrow
    have hszw : wr.heap.size = Wb.heap.size + 1 := by omega
    have HDBI := Lib.hid (HDB.out id)
    have HDLI := Lib.hid (HDL.out id)
    have HXO : Hid (∀ b, Xo b → w2.heap.size ≤ b ∧ b < wr.heap.size) := fun b h => ⟨hge b h, by have := hbd b h; omega⟩
    have HKW := Lib.hid hkw
    have HJR := Lib.hid hJr
    have HKD : Hid (0 < (dd id).length → K1 (bOf a)) := fun h => k1k _ (HK.out.docs _ hmem h)
    obtain ⟨Bi, hBie⟩ : ∃ Bi, Bi = Wb.heap.size := ⟨_, rfl⟩
    rw [← hBie] at hBir hszw HJR ⊢
    have HSZW := Lib.hid hszw
    clear hj hbd hkp hge hok hba hloop hmem hsza hBi hlt STW hszr hlob hlow hb0 hk0 hkw hJr hrow0 hBie hszw
    generalize hdd : dd id = D at *
    have HDD := Lib.hid hdd
    clear hdd
    -- the call of In
    have hwa : Below wr.heap.size wr ((wr.alloc (.cells #[.slice a D.length D.length] 26)).alloc (.cells #[.slice ap P.length cp] 26)) := ((Below.refl _ wr).alloc (Nat.le_refl _) _).alloc (by simp) _
    have hsz2 : ((wr.alloc (.cells #[.slice a D.length D.length] 26)).alloc (.cells #[.slice ap P.length cp] 26)).heap.size = wr.heap.size + 2 := by simp
    have bD := (Boxed.new wr 26 (.slice a D.length D.length)).alloc (.cells #[.slice ap P.length cp] 26)
    have bP := Boxed.new (wr.alloc (.cells #[.slice a D.length D.length] 26)) 26 (.slice ap P.length cp)
    simp only [World.size_alloc] at bP
    have HWA := Lib.hid hwa
    have HSZ2 := Lib.hid hsz2
    have HBD := Lib.hid bD
    have HBP := Lib.hid bP
    have HROW := Lib.hid hrow
    have HPR := Lib.hid hpr
    have HMX := Lib.hid hmx
    have HYB := Lib.hid hyb
    have HBI := Lib.hid hBir
    clear hwa hsz2 bD bP hrow hpr hmx hyb hBir
    gi_wp2_with fail
    refine ⟨fun _ => by omega, (callsIn_wide.2 (tin5 wr a ap D.length D.length P.length cp)).mono ?_⟩
    rintro e wa ⟨rfl, rfl⟩
    gi_wp2
    clear hc2
    generalize ((wr.alloc (.cells #[.slice a D.length D.length] 26)).alloc (.cells #[.slice ap P.length cp] 26)) = wa at *
    have hs2 := HSZ2.out
    have hszw := HSZW.out
    have hloa : wa.heap[lo]? = some (.loop r0) := (HWA.out.block lo (Array.getElem?_eq_some_iff.1 hlor).1).trans hlor
    -- the sets
    obtain ⟨X2, hX2⟩ : ∃ X2 : Nat → Prop, X2 = fun b => X1 b ∨ Xo b ∨ (Bi ≤ b ∧ b < wa.heap.size) := ⟨_, rfl⟩
    obtain ⟨K2, hK2⟩ : ∃ K2 : Nat → Prop, K2 = fun b => K b ∨ X2 b := ⟨_, rfl⟩
    have x21 : ∀ b, X1 b → X2 b := fun b h => by rw [hX2]; exact .inl h
    have x2o : ∀ b, Xo b → X2 b := fun b h => by rw [hX2]; exact .inr (.inl h)
    have x2n : ∀ b, Bi ≤ b → b < wa.heap.size → X2 b := fun b h1 h2 => by rw [hX2]; exact .inr (.inr ⟨h1, h2⟩)
    have k2k : ∀ b, K b → K2 b := fun b h => by rw [hK2]; exact .inl h
    have k2x : ∀ b, X2 b → K2 b := fun b h => by rw [hK2]; exact .inr h
    have k21 : ∀ b, K1 b → K2 b := fun b h => (k1d b h).elim (k2k b) (fun h => k2x b (x21 b h))
    have HJ0 : Hid (J (fun b => X2 b ∨ False) (hitsL dd P pre ++ ([] : List Nat).map fun k => (id.toNat, k)) wa) := by
      rw [List.map_nil, List.append_nil]
      exact HJ.out _ _ _ _ _ HJR.out (StepX.of_below HWA.out) (fun b hb => by
        have hb := hb.resolve_right (fun h => h)
        rw [hX2] at hb
        rcases hb with h | h | h
        · exact .inl (.inl h)
        · exact .inl (.inr (.inl h))
        · by_cases e : b = Bi
          · exact .inl (.inr (.inr e))
          · exact .inr (by omega))
    have HIN : Hid (InAt wa (wr.heap.size + 1) wr.heap.size a ap D.length cp D P) := ⟨HBP.out.cell, HBD.out.cell, HROW.out.kept HWA.out, HPR.out.kept HWA.out, HMX.out.kept HWA.out⟩
    have HINK : Hid (InK (fun b => K2 b ∧ b < wa.heap.size) (wr.heap.size + 1) wr.heap.size a ap D P) := by
      refine ⟨⟨k2x _ (x2n _ (by omega) (by omega)), by omega⟩, ⟨k2x _ (x2n _ (by omega) (by omega)), by omega⟩, ?_, ?_, ⟨k2k _ HK.out.mx, HIN.out.mx.lt⟩⟩
      · rcases Nat.eq_zero_or_pos D.length with h | h
        · exact .inl h
        · exact .inr ⟨k21 _ (HKD.out h), HIN.out.dr.lt h⟩
      · rcases Nat.eq_zero_or_pos P.length with h | h
        · exact .inl h
        · exact .inr ⟨k2k _ (HK.out.pr.resolve_left (by omega)), HIN.out.pr.lt h⟩
    have HKT : ∀ {A B : World}, KeepX K2 wa A → KeepX K A B → KeepX X2 A B → KeepX K2 wa B := fun {A B} h h1 h2 => h.trans ⟨h1.size, fun b hb hk => by rw [hK2] at hk; exact hk.elim (h1.block b hb) (h2.block b hb)⟩
    have HBX : Hid (∀ W', KeepX K2 wa W' → Boxed W' By 29 (.func (.yield l) #[] #[]) ∧ Boxed W' Bi 3 (.int .i64 id)) := fun W' h => by
      have h1 := HYB.out.lt
      have h2 := HBI.out.lt
      exact ⟨(h.block By (by omega) (k2x _ (x21 _ x1y))).trans ((HWA.out.block By h1).trans HYB.out), (h.block Bi (by omega) (k2x _ (x2n _ (Nat.le_refl _) (by omega)))).trans ((HWA.out.block Bi h2).trans HBI.out)⟩
    have HLEN : Hid (∀ m, m < (inL P D).length → (hitsL dd P pre).length + m < (hitsL dd P L).length) := fun m hm => by
      have h1 := HPRE.out.length_le
      rw [List.length_append, List.length_map] at h1
      omega
    have HSL : Hid (SeqX Fence.wide (n - 1 - 1 - 1) Try.prog 129 #[.pointer (some ⟨wr.heap.size + 1, 0, none⟩), .pointer (some ⟨wr.heap.size, 0, none⟩)] (fun k : Nat => #[.int .i64 (k : Int)]) (fun b => K2 b ∧ b < wa.heap.size) (fun xs => xs = inL P D) (fun pre => pre <+: inL P D) (inL P D).length wa) :=
      in1_any (n - 1 - 1 - 1) (by omega) (fun b => K2 b ∧ b < wa.heap.size) wa (wr.heap.size + 1) wr.heap.size a ap D.length cp D P HIN.out HINK.out HDBI.out HPB.out HDLI.out hPl (Nat.le_refl _)
    refine wpIn_rangeFunc_GN (l₀ := lo) (r₀ := r0) rfl hloa (by omega) (gf := 129) (lb := #[.pointer (some ⟨wr.heap.size + 1, 0, none⟩), .pointer (some ⟨wr.heap.size, 0, none⟩)]) rfl trivial (enters_of Try.func129 (by kernel_rfl) rfl)
      (SeqG.inRound lo HSL.out)
      (fun b h => h.2) (Below.refl _ _) (fun _ => rfl)
      (fun Xi (pre' : List Nat) W' => J (fun b => X2 b ∨ Xi b) (hitsL dd P pre ++ pre'.map fun k => (id.toNat, k)) W' ∧ (KeepX K2 wa W' ∧ ∀ b, Xi b → wa.heap.size ≤ b))
      (fun c Xi (pre' : List Nat) W' => (Jx (fun b => X2 b ∨ Xi b) (hitsL dd P pre ++ pre'.map fun k => (id.toNat, k)) W' ∧ (KeepX K2 wa W' ∧ ∀ b, Xi b → wa.heap.size ≤ b)) ∧ c = .ret)
      (Fr.and (Fr.or HJ.out X2 (fun pre' : List Nat => hitsL dd P pre ++ pre'.map fun k => (id.toNat, k))) (Fr.keep K2 wa))
      (fun c => Fr.and (Fr.and (Fr.or HJX.out X2 (fun pre' : List Nat => hitsL dd P pre ++ pre'.map fun k => (id.toNat, k))) (Fr.keep K2 wa)) (Fr.pure (fun _ => c = .ret)))
      ⟨HJ0.out, KeepX.refl _ _, fun b h => h.elim⟩
      (fun k => { tmps := #[.func (.yield l) #[] #[], .pointer (some ⟨B1, 0, none⟩), .pointer (some ⟨B2, 0, none⟩), .pointer (some ⟨By, 0, none⟩), .pointer (some ⟨Bi, 0, none⟩), .slice a D.length D.length, .int .i64 (k : Int), .pointer (some ⟨bp, 0, none⟩), .pointer (some ⟨bp, 0, none⟩), .pointer (some ⟨bp, 0, none⟩), .pointer (some ⟨mp, 0, none⟩), .func (.func gf) #[] lb, .int .i64 id, .slice a D.length D.length, .slice a D.length D.length, .slice ap P.length cp, .func (.func 129) #[] #[.pointer (some ⟨wr.heap.size + 1, 0, none⟩), .pointer (some ⟨wr.heap.size, 0, none⟩)], .int .i64 (k : Int), undef, undef, undef, undef, undef], defers := [] }) ?assign2 ?body2 ?done2 ?stop2
    case assign2 =>
      intro l' k W' G hG
      clear hszw hs2
      gi_wp2
      exact hG
    case body2 =>
      rintro l' Xi pre' k W' - hXl' ⟨hj, hkp, hge⟩ hlen
      obtain ⟨by1, by2⟩ := HBX.out W' hkp
      have hc1 := by1.cell
      have hc2 := by2.cell
      obtain ⟨fn, tmps, assign, body, hy, hR⟩ := HY.out (fun b => X2 b ∨ Xi b) _ (id.toNat, k) W' hj (by rw [List.length_append, List.length_map]; exact HLEN.out _ hlen)
      have HYR := Lib.hid hR
      have HKP := Lib.hid hkp
      have HGE := Lib.hid hge
      unfold hitE5 at hy
      simp only at hy
      rw [Int.toNat_of_nonneg hid] at hy
      clear hR by1 by2 hkp hge hj
      gi_wp2
      refine ⟨(fun h => by cases h), (roundIn_wide HYR.out).mono ?_⟩
      rintro e0 W3 ⟨hkx, hkk, hor⟩
      have HKX : Hid (KeepX Xi W' W3) := hkx.mono fun b _ h => .inr h
      have HKA : Hid (KeepX K2 wa W3) := HKT HKP.out hkk (hkx.mono fun b _ h => .inl h)
      have HKN : Hid (KeepX (fun b => K2 b ∧ b < wa.heap.size) W' W3) := ⟨hkk.size, fun b hb hk => by
        have h1 := hk.1
        rw [hK2] at h1
        exact h1.elim (hkk.block b hb) (fun h => hkx.block b hb (.inl h))⟩
      have HEQ : Hid (hitsL dd P pre ++ List.map (fun k => (id.toNat, k)) pre' ++ [(id.toNat, k)] = hitsL dd P pre ++ (pre' ++ [k]).map fun k => (id.toNat, k)) := by
        show _ = _
        rw [List.map_append, List.append_assoc]; rfl
      clear hkx hkk hy
      rcases hor with ⟨rfl, hj3⟩ | ⟨rfl, hj3⟩
      · rw [HEQ.out] at hj3
        have HJ3 := Lib.hid hj3
        clear hj3
        gi_wp2
        exact ⟨HKX.out, HKN.out, HJ3.out, HKA.out, HGE.out⟩
      · rw [HEQ.out] at hj3
        have HJ3 := Lib.hid hj3
        clear hj3
        gi_wp2
        exact ⟨HKX.out, HKN.out, ⟨HJ3.out, HKA.out, HGE.out⟩, rfl⟩
    case done2 =>
      rintro Xd xs W3 rfl ⟨hj, hkp, hge⟩
      have hz := hkp.size
      have HF1 : Hid (KeepX Xo wr W3) := ⟨by omega, fun b hb h => (hkp.block b (by omega) (k2x _ (x2o _ h))).trans (HWA.out.block b hb)⟩
      have HF2 : Hid (KeepX K1 w2 W3) := ⟨by have := HKW.out.size; omega, fun b hb h => (hkp.block b (by have := HKW.out.size; omega) (k21 _ h)).trans ((HWA.out.block b (by have := HKW.out.size; omega)).trans (HKW.out.block b hb h))⟩
      have HF3 : Hid (J (fun b => X1 b ∨ Xo b) (hitsL dd P (pre ++ [(id, a, D.length, D.length)])) W3) := by
        rw [hitsL_snoc, HDD.out]
        exact HJ.out _ _ _ _ _ hj (StepX.refl _ _) (fun b hb => .inl (.inl (hb.elim (x21 b) (x2o b))))
      have HF4 : Hid (∀ b, Xo b → b < W3.heap.size) := fun b h => by have := (HXO.out b h).2; omega
      have HF5 : Hid (KeepX (fun _ => False) wr W3) := ⟨by omega, fun b hb h => h.elim⟩
      clear hj hkp hge hz hs2 hszw
      gi_wp2
      exact ⟨HF1.out, HF5.out, HF3.out, ⟨HF2.out, fun b h => (HXO.out b h).1⟩, HF4.out⟩
    case stop2 =>
      rintro Xd c pre' W3 hpre ⟨⟨hj, hkp, hge⟩, rfl⟩
      have hz := hkp.size
      have HPR : Hid ((hitsL dd P pre ++ pre'.map fun k => (id.toNat, k)) <+: hitsL dd P L) := by
        refine List.IsPrefix.trans ?_ HPRE.out
        obtain ⟨t, ht⟩ := hpre
        rw [← ht, List.map_append, ← List.append_assoc]
        exact List.prefix_append _ _
      have HF1 : Hid (KeepX Xo wr W3) := ⟨by omega, fun b hb h => (hkp.block b (by omega) (k2x _ (x2o _ h))).trans (HWA.out.block b hb)⟩
      have HF5 : Hid (KeepX (fun _ => False) wr W3) := ⟨by omega, fun b hb h => h.elim⟩
      have HF3 : Hid (Jx (fun b => X1 b ∨ Xo b) (hitsL dd P pre ++ pre'.map fun k => (id.toNat, k)) W3) :=
        HJX.out _ _ _ _ _ hj (StepX.refl _ _) (fun b hb => .inl (.inl (hb.elim (x21 b) (x2o b))))
      clear hj hkp hge hz hs2 hszw
      gi_wp2
      exact ⟨HF1.out, HF5.out, ⟨_, HPR.out, HF3.out⟩, rfl⟩
  case done =>
    rintro D Xd xs W3 hD hXD rfl ⟨hj, -, -⟩ hk
    have HJ3 := Lib.hid hj
    have HDK := Lib.hid hk
    clear hj hk
    gi_wp2
    refine leaves_marks (fun b => X1 b ∨ Xd b) (fun W => J (fun b => X1 b ∨ Xd b) (hitsL dd P xs) W) (fun A B h st => HJ.out.step h st) (fun A h => ?_) [D] W3 ?_ ?_ HJ3.out
    · exact ⟨_, results_none rfl _ _ _, ⟨_, rfl⟩, .inl ⟨_, _, rfl, h⟩⟩
    · simp
    · intro E hE
      obtain rfl := List.mem_singleton.1 hE
      exact ⟨.inr hXD, HDK.out⟩
  case stop =>
    rintro D Xd c pre W3 hD hXD hpre ⟨⟨hs, hp, hj⟩, rfl⟩ hk
    have HJ3 := Lib.hid hj
    have HDK := Lib.hid hk
    have HPR := Lib.hid hp
    clear hj hk hp
    gi_wp2
    refine leaves_marks (fun b => X1 b ∨ Xd b) (fun W => Jx (fun b => X1 b ∨ Xd b) hs W) (fun A B h st => HJX.out.step h st) (fun A h => ?_) [D] W3 ?_ ?_ HJ3.out
    · exact ⟨_, results_none rfl _ _ _, ⟨_, rfl⟩, .inr ⟨_, _, HPR.out, h⟩⟩
    · simp
    · intro E hE
      obtain rfl := List.mem_singleton.1 hE
      exact ⟨.inr hXD, HDK.out⟩
end Go.Proofs.Ytoifmfdaghmleaa
