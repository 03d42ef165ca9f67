/-
  Texts of this claim, one behind the other.
-/
import Derived.Test.YtjpoebmjfedecaaWalkOwn
import Derived.WalkHide

/-
  At: where a row begins.
-/
namespace Go.Proofs.Ytjpoebmjfedecaa
open Go.RowKit Go.Shelf Go.Maps
attribute [local go_sem] Oper.semAt_some

theorem PMap.look_none {W : World} {b n : Nat} {f : Int → Option (Nat × Nat)} (h : PMap W b n f) (r : Int) (hr : (Lit.int .i64 r).wf = true) (hf : f r = none) :
    ∃ x y : Int, (Instr.lookup 76 (.map (some b)) (.int .i64 r) true).run Try.prog W = .ok (.tuple #[.agg #[.int .i64 x, .int .i64 y], .bool false]) W := by
  obtain ⟨x, y, h1, _⟩ := h.look r hr
  rw [hf] at h1
  exact ⟨x, y, h1⟩
theorem PMap.look_some {W : World} {b n : Nat} {f : Int → Option (Nat × Nat)} (h : PMap W b n f) (r : Int) (hr : (Lit.int .i64 r).wf = true) (d o : Nat) (hf : f r = some (d, o)) :
    (Instr.lookup 76 (.map (some b)) (.int .i64 r) true).run Try.prog W = .ok (.tuple #[.agg #[.int .i64 (d : Int), .int .i64 (o : Int)], .bool true]) W := by
  obtain ⟨x, y, h1, h2⟩ := h.look r hr
  obtain ⟨rfl, rfl⟩ := h2 _ hf
  rw [hf] at h1
  exact h1
def atV : Option (Nat × Nat) → Array Value
  | none => #[.int .i64 0, .int .i64 0, .bool false]
  | some p => #[.int .i64 (p.1 : Int), .int .i64 (p.2 : Int), .bool true]
/-- what is found behind k steps -/
def hitF (f : Int → Option (Nat × Nat)) (L : List Nat) (r k : Nat) : Option (Nat × Nat) := (f ((itL L r k : Nat) : Int)).map fun p => (p.1, p.2 + k)
def AtPost (w : World) (L : List Nat) (f : Int → Option (Nat × Nat)) (i : Int) (e : Ending) (w' : World) : Prop :=
  ∃ res, e = .returned (.tuple (atV res)) ∧ Below w.heap.size w w' ∧ (((i < 0 ∨ (L.length : Int) ≤ i) ∧ res = none) ∨ ∃ r M : Nat, i = (r : Int) ∧ r < L.length ∧ EndsL L r M ∧ AtP f L r M res)
theorem results_cell3 {fn : Func} {p q u : Tmp} {ty ty' ty2 : TypeId} (h : fn.results = #[.cell p ty, .cell q ty', .cell u ty2]) (tmps : Array Value) (P : Program) (w : World) :
    (results fn tmps).run P w =
      ((asAddr (tmps.getD p undef)).run P w).andThen fun a w₁ => ((loadVar ty a).run P w₁).andThen fun v w₂ => ((asAddr (tmps.getD q undef)).run P w₂).andThen fun a' w₃ => ((loadVar ty' a').run P w₃).andThen fun v' w₄ =>
        ((asAddr (tmps.getD u undef)).run P w₄).andThen fun a2 w₅ => ((loadVar ty2 a2).run P w₅).andThen fun v2 w₆ => .ok (.tuple #[v, v', v2]) w₆ := by
  simp only [results, h]
  simp [Sem.run_bind, Result.andThen]
set_option maxRecDepth 100000 in
set_option maxHeartbeats 4000000 in
theorem wat_any (w : World) (bx bm' : Nat) (al : Option Addr) (cap : Nat) (L : List Nat) (hI : IdxAt w bx bm' al cap L) (hL : L.length ≤ 100000) (hE : ∀ r, r < L.length → ∃ M, EndsL L r M ∧ M < L.length)
    (Y : Nat → Prop) (bp bm : Nat) (vS vZ : Value) (S Z : List Nat) (n : Nat) (f : Int → Option (Nat × Nat)) (hP : PlIn Y w bp bm vS vZ S Z n f) (hf : ∀ r p, f r = some p → p.1 ≤ 1000000 ∧ p.2 ≤ 1000000) (i : Int) (hiw : (Lit.int .i64 i).wf = true) :
    Calls Try.prog 14 #[.pointer (some ⟨bp, 0, none⟩), .pointer (some ⟨bx, 0, none⟩), .int .i64 i] w (AtPost w L f i) := by
  refine (callsIn_wide (n := 5)).1 ?_
  have hwf : ∀ f, Fence.wide.fn f = True := fun _ => rfl
  refine callsIn_of_wp_marks Try.func14 rfl trivial ?_ rfl
  simp only [Try.ntmps14, List.size_toArray, List.length_cons, List.length_nil, Nat.reduceAdd, Nat.reduceSub, Array.replicate_succ, Array.replicate_zero, List.push_toArray, List.append_toArray, List.nil_append, List.cons_append]
  have B3 := (((Boxed.new w 26 (.pointer (some ⟨bp, 0, none⟩))).alloc (.cells #[.int .i64 0] 3)).alloc (.cells #[.int .i64 0] 3)).alloc (.cells #[.bool false] 4)
  have B6 := ((Boxed.new (w.alloc (.cells #[.pointer (some ⟨bp, 0, none⟩)] 26)) 3 (.int .i64 0)).alloc (.cells #[.int .i64 0] 3)).alloc (.cells #[.bool false] 4)
  have B7 := (Boxed.new ((w.alloc (.cells #[.pointer (some ⟨bp, 0, none⟩)] 26)).alloc (.cells #[.int .i64 0] 3)) 3 (.int .i64 0)).alloc (.cells #[.bool false] 4)
  have B8 := Boxed.new (((w.alloc (.cells #[.pointer (some ⟨bp, 0, none⟩)] 26)).alloc (.cells #[.int .i64 0] 3)).alloc (.cells #[.int .i64 0] 3)) 4 (.bool false)
  have hB : Below w.heap.size w ((((w.alloc (.cells #[.pointer (some ⟨bp, 0, none⟩)] 26)).alloc (.cells #[.int .i64 0] 3)).alloc (.cells #[.int .i64 0] 3)).alloc (.cells #[.bool false] 4)) := ((((Below.refl _ w).alloc (Nat.le_refl _) _).alloc (by simp) _).alloc (by simp; omega) _).alloc (by simp; omega) _
  have hs : ((((w.alloc (.cells #[.pointer (some ⟨bp, 0, none⟩)] 26)).alloc (.cells #[.int .i64 0] 3)).alloc (.cells #[.int .i64 0] 3)).alloc (.cells #[.bool false] 4)).heap.size = w.heap.size + 4 := by simp
  simp only [World.size_alloc] at B6 B7 B8
  have HLN := Lib.hid (blen_any _ bx bm' al cap L (hI.kept hB))
  have HB := Lib.hid hB
  have HS := Lib.hid hs
  have HB3 := Lib.hid B3
  have HB6 := Lib.hid B6
  have HB7 := Lib.hid B7
  have HB8 := Lib.hid B8
  have HI := Lib.hid hI
  have HP := Lib.hid hP
  have HE := Lib.hid hE
  have HF := Lib.hid hf
  have hib := bounds_i64 hiw
  have HIW := Lib.hid hiw
  clear B3 B6 B7 B8 hB hs hI hP hE hf hiw
  have HPK := Lib.hid (HP.out.kept (KeepX.of_below HB.out))
  have fin : ∀ (tmps : Array Value) (W : World) (x y : Int) (b : Bool) (res : Option (Nat × Nat)), tmps.getD 6 undef = .pointer (some ⟨w.heap.size + 1, 0, none⟩) → tmps.getD 7 undef = .pointer (some ⟨w.heap.size + 1 + 1, 0, none⟩) → tmps.getD 8 undef = .pointer (some ⟨w.heap.size + 1 + 1 + 1, 0, none⟩) →
      Boxed W (w.heap.size + 1) 3 (.int .i64 x) → Boxed W (w.heap.size + 1 + 1) 3 (.int .i64 y) → Boxed W (w.heap.size + 1 + 1 + 1) 4 (.bool b) → Below w.heap.size w W → #[.int .i64 x, .int .i64 y, .bool b] = atV res →
      (((i < 0 ∨ (L.length : Int) ≤ i) ∧ res = none) ∨ ∃ r M : Nat, i = (r : Int) ∧ r < L.length ∧ EndsL L r M ∧ AtP f L r M res) → ∃ v, (results Try.f14 tmps).run Try.prog W = .ok v W ∧ AtPost w L f i (.returned v) W := fun tmps W x y b res h6 h7 h8 b6 b7 b8 hb he hr => by
    have c6 := b6.cell
    have c7 := b7.cell
    have c8 := b8.cell
    refine ⟨.tuple #[.int .i64 x, .int .i64 y, .bool b], ?_, res, by rw [he], hb, hr⟩
    rw [results_cell3 rfl, h6, h7, h8]
    go_simp
  have HFIN := Lib.hid fin
  clear fin
  by_cases h0 : i < 0
  · gi_wp2
    generalize ((((w.alloc (.cells #[.pointer (some ⟨bp, 0, none⟩)] 26)).alloc (.cells #[.int .i64 0] 3)).alloc (.cells #[.int .i64 0] 3)).alloc (.cells #[.bool false] 4)) = W1 at *
    exact HFIN.out _ W1 0 0 false none rfl rfl rfl HB6.out HB7.out HB8.out HB.out rfl (.inl ⟨.inl h0, rfl⟩)
  · by_cases h1 : (L.length : Int) ≤ i
    · gi_wp2_with (gi_at_call 13; refine (callsIn_wide.2 HLN.out).mono ?_; rintro e w2 ⟨rfl, rfl⟩)
      generalize ((((w.alloc (.cells #[.pointer (some ⟨bp, 0, none⟩)] 26)).alloc (.cells #[.int .i64 0] 3)).alloc (.cells #[.int .i64 0] 3)).alloc (.cells #[.bool false] 4)) = W1 at *
      exact HFIN.out _ W1 0 0 false none rfl rfl rfl HB6.out HB7.out HB8.out HB.out rfl (.inl ⟨.inr h1, rfl⟩)
    · obtain ⟨r, rfl⟩ : ∃ r : Nat, i = (r : Int) := ⟨i.toNat, by omega⟩
      have hrl : r < L.length := by omega
      obtain ⟨M, hM1, hM2⟩ := HE.out r hrl
      have t0 : decide ((r : Int) < 0) = false := by simp
      have t1 : decide (L.length ≤ r) = false := by simp; omega
      have t2 : ¬ L.length ≤ r := by omega
      clear h0
      generalize hW1 : ((((w.alloc (.cells #[.pointer (some ⟨bp, 0, none⟩)] 26)).alloc (.cells #[.int .i64 0] 3)).alloc (.cells #[.int .i64 0] 3)).alloc (.cells #[.bool false] 4)) = W1 at *
      have HW1 := Lib.hid hW1
      obtain ⟨_, _, c2, _, _⟩ := HPK.out.c0
      have c3 := HB3.out.cell
      cases hfr : f (r : Int) with
      | some p =>
        obtain ⟨d, o⟩ := p
        have hlk := HPK.out.mp.look_some (r : Int) HIW.out d o hfr
        have HBA : Hid (Below W1.heap.size W1 (W1.alloc (.cells #[.int .i64 (d : Int), .int .i64 (o : Int)] 84))) := (Below.refl _ _).alloc (Nat.le_refl _) _
        gi_wp2_with (gi_at_call 13; refine (callsIn_wide.2 HLN.out).mono ?_; rintro e w2 ⟨rfl, rfl⟩)
        have e0 : (W1.alloc (.cells #[.int .i64 (d : Int), .int .i64 (o : Int)] 84)).cell? ⟨W1.heap.size, 0, none⟩ = some (.int .i64 (d : Int)) := by simp only [World.cell?, World.alloc_heap_new]; rfl
        have e1 : (W1.alloc (.cells #[.int .i64 (d : Int), .int .i64 (o : Int)] 84)).cell? ⟨W1.heap.size, 1, none⟩ = some (.int .i64 (o : Int)) := by simp only [World.cell?, World.alloc_heap_new]; rfl
        have b6 : Boxed (W1.alloc (.cells #[.int .i64 (d : Int), .int .i64 (o : Int)] 84)) (w.heap.size + 1) 3 (.int .i64 0) := (HBA.out.block _ HB6.out.lt).trans HB6.out
        have b7 : Boxed (W1.alloc (.cells #[.int .i64 (d : Int), .int .i64 (o : Int)] 84)) (w.heap.size + 1 + 1) 3 (.int .i64 0) := (HBA.out.block _ HB7.out.lt).trans HB7.out
        have b8 : Boxed (W1.alloc (.cells #[.int .i64 (d : Int), .int .i64 (o : Int)] 84)) (w.heap.size + 1 + 1 + 1) 4 (.bool false) := (HBA.out.block _ HB8.out.lt).trans HB8.out
        generalize hW2 : W1.alloc (.cells #[.int .i64 (d : Int), .int .i64 (o : Int)] 84) = W2 at *
        generalize hAd : W1.heap.size = Ad at *
        have HAD := Lib.hid hAd
        have HQ2 := Lib.hid hW2
        have HC6 := Lib.hid b6
        have HC7 := Lib.hid b7
        have HC8 := Lib.hid b8
        have g6 := b6.cell
        have g7 := b7.cell
        have g8 := b8.cell
        have k6 := b6.frozen
        have k7 := b7.frozen
        have k8 := b8.frozen
        clear hW2 hlk c2 c3 hAd b6 b7 b8
        gi_region
        have hba : Below W1.heap.size W1 W2 := by rw [HAD.out]; exact HBA.out
        have hs1 := HS.out
        have hb : Below w.heap.size w (((W2.setCell ⟨w.heap.size + 1, 0, none⟩ (.int .i64 (d : Int))).setCell ⟨w.heap.size + 1 + 1, 0, none⟩ (.int .i64 (o : Int))).setCell ⟨w.heap.size + 1 + 1 + 1, 0, none⟩ (.bool true)).drew :=
          ((((below_next HB.out hba HB.out.size).setCell (p := ⟨w.heap.size + 1, 0, none⟩) (by simp) _).setCell (p := ⟨w.heap.size + 1 + 1, 0, none⟩) (by simp; omega) _).setCell (p := ⟨w.heap.size + 1 + 1 + 1, 0, none⟩) (by simp; omega) _).drew
        have b6 : Boxed (((W2.setCell ⟨w.heap.size + 1, 0, none⟩ (.int .i64 (d : Int))).setCell ⟨w.heap.size + 1 + 1, 0, none⟩ (.int .i64 (o : Int))).setCell ⟨w.heap.size + 1 + 1 + 1, 0, none⟩ (.bool true)).drew (w.heap.size + 1) 3 (.int .i64 (d : Int)) := ((HC6.out.set _).other (by omega) _).other (by omega) _
        have b7 : Boxed (((W2.setCell ⟨w.heap.size + 1, 0, none⟩ (.int .i64 (d : Int))).setCell ⟨w.heap.size + 1 + 1, 0, none⟩ (.int .i64 (o : Int))).setCell ⟨w.heap.size + 1 + 1 + 1, 0, none⟩ (.bool true)).drew (w.heap.size + 1 + 1) 3 (.int .i64 (o : Int)) := ((HC7.out.other (by omega) _).set _).other (by omega) _
        have b8 : Boxed (((W2.setCell ⟨w.heap.size + 1, 0, none⟩ (.int .i64 (d : Int))).setCell ⟨w.heap.size + 1 + 1, 0, none⟩ (.int .i64 (o : Int))).setCell ⟨w.heap.size + 1 + 1 + 1, 0, none⟩ (.bool true)).drew (w.heap.size + 1 + 1 + 1) 4 (.bool true) := ((HC8.out.other (by omega) _).other (by omega) _).set _
        generalize (((W2.setCell ⟨w.heap.size + 1, 0, none⟩ (.int .i64 (d : Int))).setCell ⟨w.heap.size + 1 + 1, 0, none⟩ (.int .i64 (o : Int))).setCell ⟨w.heap.size + 1 + 1 + 1, 0, none⟩ (.bool true)).drew = W3 at *
        gi_wp2
        exact HFIN.out _ W3 (d : Int) (o : Int) true (some (d, o)) rfl rfl rfl b6 b7 b8 hb rfl (.inr ⟨r, M, rfl, hrl, hM1, .inl ⟨0, (d, o), Nat.zero_le _, Nat.zero_le _, hfr, rfl⟩⟩)
      | none =>
        obtain ⟨x, y, hlk⟩ := HPK.out.mp.look_none (r : Int) HIW.out hfr
        gi_wp2_with (first
          | (gi_at_call 13; refine (callsIn_wide.2 HLN.out).mono ?_; rintro e w2 ⟨rfl, rfl⟩)
          | (gi_at_call 43; refine (callsIn_wide.2 (bwalk_any _ bx (r : Int))).mono ?_; rintro e w4 ⟨rfl, rfl⟩; simp only [World.size_alloc]))
        have hsz1 : w.heap.size + 4 = W1.heap.size := HS.out.symm
        have BN := ((Boxed.new (W1.alloc (.cells #[.int .i64 x, .int .i64 y] 84)) 3 (.int .i64 0)).alloc (.cells #[.pointer (some ⟨bx, 0, none⟩)] 23)).alloc (.cells #[.int .i64 (r : Int)] 3)
        have BX := (Boxed.new ((W1.alloc (.cells #[.int .i64 x, .int .i64 y] 84)).alloc (.cells #[.int .i64 0] 3)) 23 (.pointer (some ⟨bx, 0, none⟩))).alloc (.cells #[.int .i64 (r : Int)] 3)
        have BI := Boxed.new (((W1.alloc (.cells #[.int .i64 x, .int .i64 y] 84)).alloc (.cells #[.int .i64 0] 3)).alloc (.cells #[.pointer (some ⟨bx, 0, none⟩)] 23)) 3 (.int .i64 (r : Int))
        have hB4 : Below W1.heap.size W1 ((((W1.alloc (.cells #[.int .i64 x, .int .i64 y] 84)).alloc (.cells #[.int .i64 0] 3)).alloc (.cells #[.pointer (some ⟨bx, 0, none⟩)] 23)).alloc (.cells #[.int .i64 (r : Int)] 3)) := ((((Below.refl _ W1).alloc (Nat.le_refl _) _).alloc (by simp) _).alloc (by simp; omega) _).alloc (by simp; omega) _
        have hs4 : ((((W1.alloc (.cells #[.int .i64 x, .int .i64 y] 84)).alloc (.cells #[.int .i64 0] 3)).alloc (.cells #[.pointer (some ⟨bx, 0, none⟩)] 23)).alloc (.cells #[.int .i64 (r : Int)] 3)).heap.size = W1.heap.size + 4 := by simp
        simp only [World.size_alloc] at BN BX BI
        generalize ((((W1.alloc (.cells #[.int .i64 x, .int .i64 y] 84)).alloc (.cells #[.int .i64 0] 3)).alloc (.cells #[.pointer (some ⟨bx, 0, none⟩)] 23)).alloc (.cells #[.int .i64 (r : Int)] 3)) = W4 at *
        have HB14 : Hid (Below w.heap.size w W4) := below_next HB.out hB4 (by omega)
        have C3 : Boxed W4 w.heap.size 26 (.pointer (some ⟨bp, 0, none⟩)) := (hB4.block _ HB3.out.lt).trans HB3.out
        have C6 : Boxed W4 (w.heap.size + 1) 3 (.int .i64 0) := (hB4.block _ HB6.out.lt).trans HB6.out
        have C7 : Boxed W4 (w.heap.size + 1 + 1) 3 (.int .i64 0) := (hB4.block _ HB7.out.lt).trans HB7.out
        have C8 : Boxed W4 (w.heap.size + 1 + 1 + 1) 4 (.bool false) := (hB4.block _ HB8.out.lt).trans HB8.out
        have HC3 := Lib.hid C3
        have HC6 := Lib.hid C6
        have HC7 := Lib.hid C7
        have HC8 := Lib.hid C8
        have HBN := Lib.hid BN
        have HBX := Lib.hid BX
        have HBI := Lib.hid BI
        have HWK : Hid (WkOf L (r : Int) (wkTo L r M)) := .inl ⟨r, M, rfl, hrl, hM1, hM2, rfl⟩
        have HM1 := Lib.hid hM1
        have HFR := Lib.hid hfr
        have hsy : ∀ c ∈ L, c ≤ 256 := by obtain ⟨_, _, _, _, _, hm⟩ := HI.out.mt; exact hm.sy
        have HIT := Lib.hid (fun k => itL_lt L hsy r hrl k)
        clear C3 C6 C7 C8 BN BX BI hB4 c2 c3 hlk hW1 hM1 hfr hsy t0 t1 t2
        refine wpIn_rangeFunc_G rfl (by omega) (gf := 64) (lb := #[.pointer (some ⟨W1.heap.size + 1 + 1 + 1, 0, none⟩), .pointer (some ⟨W1.heap.size + 1 + 1, 0, none⟩)]) rfl trivial (enters_of Try.func64 (by kernel_rfl) rfl)
          (walkX 4 (by omega) (fun b => b < W4.heap.size ∧ b ≠ w.heap.size + 1 ∧ b ≠ w.heap.size + 1 + 1 ∧ b ≠ w.heap.size + 1 + 1 + 1 ∧ b ≠ W1.heap.size + 1) w bx bm' al cap L HI.out (fun b h => ⟨by omega, by omega, by omega, by omega, by omega⟩) (W1.heap.size + 1 + 1 + 1) (W1.heap.size + 1 + 1) ⟨by omega, by omega, by omega, by omega, by omega⟩ (r : Int) _ HWK.out W4 (Keeps.of_below HB14.out) (by omega) HBI.out.cell HBX.out.cell)
          (fun b h => h.1) (Below.refl _ _) (fun _ => rfl)
          (fun X (pre : List (Nat × Fin 256)) W => (Boxed W (W1.heap.size + 1) 3 (.int .i64 (pre.length : Int)) ∧ ¬ X (W1.heap.size + 1)) ∧ (Boxed W (w.heap.size + 1) 3 (.int .i64 0) ∧ ¬ X (w.heap.size + 1)) ∧ (Boxed W (w.heap.size + 1 + 1) 3 (.int .i64 0) ∧ ¬ X (w.heap.size + 1 + 1)) ∧ (Boxed W (w.heap.size + 1 + 1 + 1) 4 (.bool false) ∧ ¬ X (w.heap.size + 1 + 1 + 1)) ∧ (Below (w.heap.size + 1) W4 W ∧ ∀ b, X b → w.heap.size + 1 ≤ b) ∧ (∀ b, X b → b < W.heap.size) ∧ ((∀ k, k ≤ pre.length → f ((itL L r k : Nat) : Int) = none) ∧ pre.length ≤ 30))
          (fun c X (pre : List (Nat × Fin 256)) W => (Boxed W (w.heap.size + 1) 3 (.int .i64 ((((hitF f L r pre.length).getD (0, 0)).1 : Nat) : Int)) ∧ ¬ X (w.heap.size + 1)) ∧ (Boxed W (w.heap.size + 1 + 1) 3 (.int .i64 ((((hitF f L r pre.length).getD (0, 0)).2 : Nat) : Int)) ∧ ¬ X (w.heap.size + 1 + 1)) ∧ (Boxed W (w.heap.size + 1 + 1 + 1) 4 (.bool (hitF f L r pre.length).isSome) ∧ ¬ X (w.heap.size + 1 + 1 + 1)) ∧ (Below (w.heap.size + 1) W4 W ∧ ∀ b, X b → w.heap.size + 1 ≤ b) ∧ ((∀ k, k < pre.length → f ((itL L r k : Nat) : Int) = none) ∧ pre.length ≤ 31 ∧ ((c = .ret ∧ (hitF f L r pre.length).isSome = true) ∨ (c = .exit 0 ∧ f ((itL L r pre.length : Nat) : Int) = none ∧ pre.length = 31))))
          (Fr.and (Fr.boxed (W1.heap.size + 1) 3 (fun pre : List (Nat × Fin 256) => .int .i64 (pre.length : Int))) (Fr.and (Fr.boxed (w.heap.size + 1) 3 (fun _ : List (Nat × Fin 256) => .int .i64 0)) (Fr.and (Fr.boxed (w.heap.size + 1 + 1) 3 (fun _ : List (Nat × Fin 256) => .int .i64 0)) (Fr.and (Fr.boxed (w.heap.size + 1 + 1 + 1) 4 (fun _ : List (Nat × Fin 256) => .bool false)) (Fr.and (Fr.below (by omega)) (Fr.and Fr.bd (Fr.pure _)))))))
          (fun c => Fr.and (Fr.boxed (w.heap.size + 1) 3 (fun pre : List (Nat × Fin 256) => .int .i64 ((((hitF f L r pre.length).getD (0, 0)).1 : Nat) : Int))) (Fr.and (Fr.boxed (w.heap.size + 1 + 1) 3 (fun pre : List (Nat × Fin 256) => .int .i64 ((((hitF f L r pre.length).getD (0, 0)).2 : Nat) : Int))) (Fr.and (Fr.boxed (w.heap.size + 1 + 1 + 1) 4 (fun pre : List (Nat × Fin 256) => .bool (hitF f L r pre.length).isSome)) (Fr.and (Fr.below (by omega)) (Fr.pure _)))))
          ⟨⟨HBN.out, fun h => h⟩, ⟨HC6.out, fun h => h⟩, ⟨HC7.out, fun h => h⟩, ⟨HC8.out, fun h => h⟩, ⟨Below.refl _ _, fun b h => h.elim⟩, fun b h => h.elim, ⟨fun k hk => (by obtain rfl : k = 0 := Nat.le_zero.1 hk; rw [itL_zero]; exact HFR.out), Nat.zero_le _⟩⟩
          (fun z => { tmps := #[.pointer (some ⟨bp, 0, none⟩), .pointer (some ⟨bx, 0, none⟩), .int .i64 (r : Int), .pointer (some ⟨w.heap.size, 0, none⟩), undef, undef, .pointer (some ⟨w.heap.size + 1, 0, none⟩), .pointer (some ⟨w.heap.size + 1 + 1, 0, none⟩), .pointer (some ⟨w.heap.size + 1 + 1 + 1, 0, none⟩), .pointer (some ⟨W1.heap.size, 0, none⟩), .bool false, .pointer (some ⟨W1.heap.size + 1, 0, none⟩), .int .i64 ((z.1 : Nat) : Int), undef, undef, .pointer (some ⟨bx, 0, none⟩), .bool false, .bool false, .int .i64 (r : Int), .bool false, .bool false, .bool false, .int .i64 (r : Int), .pointer (some ⟨bx, 0, none⟩), .int .i64 (L.length : Int), .bool false, .bool false, .tuple #[.agg #[.int .i64 x, .int .i64 y], .bool false], .pointer (some ⟨bp, 0, none⟩), .pointer (some ⟨bp, 0, none⟩), .pointer (some ⟨bp, 2, none⟩), .map (some bm), .int .i64 (r : Int), .tuple #[.agg #[.int .i64 x, .int .i64 y], .bool false], .agg #[.int .i64 x, .int .i64 y], .bool false, .bool false, undef, undef, undef, undef, .pointer (some ⟨bx, 0, none⟩), .int .i64 (r : Int), .func (.func 64) #[] #[.pointer (some ⟨W1.heap.size + 1 + 1 + 1, 0, none⟩), .pointer (some ⟨W1.heap.size + 1 + 1, 0, none⟩)], .int .i64 ((z.1 : Nat) : Int), .int .u8 ((z.2.val : Nat) : Int), undef, undef, undef, undef, undef, undef, undef, undef, undef, undef, undef, undef, undef, undef, undef, undef, undef, undef, undef, undef], defers := [] }) ?assign ?body ?done ?stop
        case assign =>
          intro l y W G hG
          unfold bwV
          gi_wp2
          exact hG
        case body =>
          rintro l X pre z W - hXl ⟨hN, h6, h7, h8, ⟨hB, hge⟩, hbd, hno, hle⟩ hok2
          obtain ⟨z1, z2⟩ := z
          have hltM : pre.length < M := by
            rcases Nat.lt_or_ge pre.length M with h | h
            · exact h
            · rw [List.getElem?_eq_none (by rw [wkTo_len]; exact h)] at hok2; cases hok2
          rw [wkTo_at L r hltM] at hok2
          obtain ⟨rfl, _⟩ := Prod.mk.inj (Option.some.inj hok2)
          have hzl := HIT.out (pre.length + 1)
          have HHF := Lib.hid (show hitF f L r (pre.length + 1) = (f ((itL L r (pre.length + 1) : Nat) : Int)).map fun p => (p.1, p.2 + (pre.length + 1)) from rfl)
          have HNO := Lib.hid hno
          have HZ := Lib.hid (show ∃ q, q = itL L r (pre.length + 1) from ⟨_, rfl⟩)
          obtain ⟨q, hq⟩ := HZ.out
          rw [← hq] at HHF hzl ⊢
          have HQ := Lib.hid hq
          have hqw : (Lit.int .i64 ((q : Nat) : Int)).wf = true := WalkArith.wf_i64 ⟨by omega, by omega⟩
          have cN := hN.1.cell
          have fN := hN.1.frozen
          have c3 : W.cell? ⟨w.heap.size, 0, none⟩ = some (.pointer (some ⟨bp, 0, none⟩)) := (show Boxed W _ _ _ from (hB.block _ (by omega)).trans HC3.out).cell
          have hbs := hB.size
          have hBW : Below w.heap.size w W := HB14.out.trans (hB.mono (by omega))
          have c2 := (HP.out.kept (KeepX.of_below hBW)).c0.2.2.1
          have hn1 : ¬ w.heap.size = W1.heap.size + 1 := by omega
          obtain ⟨m, hm⟩ : ∃ m : Int, m = (pre.length : Int) + 1 := ⟨_, rfl⟩
          have HM := Lib.hid hm
          have hw1 : IntKind.i64.wrap ((pre.length : Int) + 1) = m := (IntWalk.i64_in _ (by omega)).trans hm.symm
          have hBb : Below w.heap.size w (W.setCell ⟨W1.heap.size + 1, 0, none⟩ (.int .i64 m)) := hBW.setCell (p := ⟨W1.heap.size + 1, 0, none⟩) (by simp; omega) _
          have HPb := Lib.hid (HP.out.kept (KeepX.of_below hBb))
          have hs9 : (W.setCell ⟨W1.heap.size + 1, 0, none⟩ (.int .i64 m)).heap.size = W.heap.size := by simp [World.setCell]
          have hNb : Boxed (W.setCell ⟨W1.heap.size + 1, 0, none⟩ (.int .i64 m)) (W1.heap.size + 1) 3 (.int .i64 m) := hN.1.set _
          have h6b : Boxed (W.setCell ⟨W1.heap.size + 1, 0, none⟩ (.int .i64 m)) (w.heap.size + 1) 3 (.int .i64 0) := h6.1.other (by omega) _
          have h7b : Boxed (W.setCell ⟨W1.heap.size + 1, 0, none⟩ (.int .i64 m)) (w.heap.size + 1 + 1) 3 (.int .i64 0) := h7.1.other (by omega) _
          have h8b : Boxed (W.setCell ⟨W1.heap.size + 1, 0, none⟩ (.int .i64 m)) (w.heap.size + 1 + 1 + 1) 4 (.bool false) := h8.1.other (by omega) _
          have hoth : ∀ b, b ≠ W1.heap.size + 1 → (W.setCell ⟨W1.heap.size + 1, 0, none⟩ (.int .i64 m)).heap[b]? = W.heap[b]? := fun b hb => Below.heap_setCell W ⟨W1.heap.size + 1, 0, none⟩ _ b hb
          have hbel : Below (w.heap.size + 1) W4 (W.setCell ⟨W1.heap.size + 1, 0, none⟩ (.int .i64 m)) := hB.setCell (p := ⟨W1.heap.size + 1, 0, none⟩) (by simp; omega) _
          have HNb := Lib.hid hNb
          have H6b := Lib.hid h6b
          have H7b := Lib.hid h7b
          have H8b := Lib.hid h8b
          have HOT := Lib.hid hoth
          have HBL := Lib.hid hbel
          have HS9 := Lib.hid hs9
          have HX6 := Lib.hid h6.2
          have HX7 := Lib.hid h7.2
          have HX8 := Lib.hid h8.2
          have HXN := Lib.hid hN.2
          have HGE := Lib.hid hge
          have HBD := Lib.hid hbd
          clear hNb h6b h7b h8b hoth hbel hs9 hN h6 h7 h8 hB hge hbd hno hok2 hq hBW hBb HZ hm
          have HKP : Hid (∀ o b, b < W.heap.size → b ≠ W1.heap.size + 1 → ((W.setCell ⟨W1.heap.size + 1, 0, none⟩ (.int .i64 m)).alloc o).heap[b]? = W.heap[b]?) := fun o b hb hn => (Below.heap_alloc _ o b (by rw [HS9.out]; exact hb)).trans (HOT.out b hn)
          have HLE : Hid (∀ o, W.heap.size ≤ ((W.setCell ⟨W1.heap.size + 1, 0, none⟩ (.int .i64 m)).alloc o).heap.size) := fun o => by rw [World.size_alloc, HS9.out]; omega
          have HBA : Hid (∀ o, Below (w.heap.size + 1) W4 ((W.setCell ⟨W1.heap.size + 1, 0, none⟩ (.int .i64 m)).alloc o)) := fun o => HBL.out.alloc (by rw [HS9.out]; omega) o
          have HLN1 := Lib.hid (show (pre ++ [(q, z2)]).length = pre.length + 1 by simp)
          cases hfq : f (q : Int) with
          | none =>
            have HH0 : Hid (hitF f L r (pre.length + 1) = none) := by show _ = _; rw [HHF.out, hfq]; rfl
            obtain ⟨x2, y2, hlk⟩ := HPb.out.mp.look_none (q : Int) hqw hfq
            have HFQ := Lib.hid hfq
            have hcN : ((W.setCell ⟨W1.heap.size + 1, 0, none⟩ (.int .i64 m)).alloc (.cells #[.int .i64 x2, .int .i64 y2] 84)).cell? ⟨W1.heap.size + 1, 0, none⟩ = some (.int .i64 m) := (HNb.out.alloc _).cell
            clear hfq
            by_cases h31 : m = 31
            · have t1 : (m == 31) = true := by rw [h31]; rfl
              have t2 : decide (m = 31) = true := by rw [h31]; rfl
              have HM31 := Lib.hid h31
              clear h31
              gi_wp2
              refine ⟨⟨HLE.out _, fun b hb hx => HKP.out _ b hb (fun e => HXN.out (by rw [← e]; exact hx))⟩, ⟨HLE.out _, fun b hb hk => HKP.out _ b hb hk.2.2.2.2⟩, ?_⟩
              dsimp only
              rw [HLN1.out, HH0.out]
              refine ⟨⟨H6b.out.alloc _, HX6.out⟩, ⟨H7b.out.alloc _, HX7.out⟩, ⟨H8b.out.alloc _, HX8.out⟩, ⟨HBA.out _, HGE.out⟩, fun k hk => HNO.out k (by omega), by omega, .inr ⟨rfl, ?_, by have := HM.out; have := HM31.out; omega⟩⟩
              rw [← HQ.out]; exact HFQ.out
            · have t1 : (m == 31) = false := by simpa using h31
              have t2 : decide (m = 31) = false := by simpa using h31
              have HM31 := Lib.hid h31
              gi_wp2
              refine ⟨⟨HLE.out _, fun b hb hx => HKP.out _ b hb (fun e => HXN.out (by rw [← e]; exact hx))⟩, ⟨HLE.out _, fun b hb hk => HKP.out _ b hb hk.2.2.2.2⟩, ?_⟩
              dsimp only
              rw [HLN1.out]
              refine ⟨⟨?_, HXN.out⟩, ⟨H6b.out.alloc _, HX6.out⟩, ⟨H7b.out.alloc _, HX7.out⟩, ⟨H8b.out.alloc _, HX8.out⟩, ⟨HBA.out _, HGE.out⟩, fun b hb => Nat.lt_of_lt_of_le (HBD.out b hb) (HLE.out _), fun k hk => ?_, by have := HM.out; have := HM31.out; omega⟩
              · rw [show ((pre.length + 1 : Nat) : Int) = m by have := HM.out; omega]; exact HNb.out.alloc _
              · rcases Nat.lt_or_ge k (pre.length + 1) with h | h
                · exact HNO.out k (by omega)
                · obtain rfl : k = pre.length + 1 := by omega
                  rw [← HQ.out]; exact HFQ.out
          | some p =>
            obtain ⟨d, o⟩ := p
            obtain ⟨hd1, ho1⟩ := HF.out _ _ hfq
            have hlk := HPb.out.mp.look_some (q : Int) hqw d o hfq
            have HFQ := Lib.hid hfq
            simp only at hd1 ho1
            have hw2 : IntKind.i64.wrap ((o : Int) + m) = (o : Int) + m := IntWalk.i64_in _ (by have := HM.out; omega)
            clear hfq
            gi_wp2
            have hcN : ((W.setCell ⟨W1.heap.size + 1, 0, none⟩ (.int .i64 m)).alloc (.cells #[.int .i64 (d : Int), .int .i64 (o : Int)] 84)).cell? ⟨W1.heap.size + 1, 0, none⟩ = some (.int .i64 m) := (HNb.out.alloc _).cell
            have c60 : Boxed ((W.setCell ⟨W1.heap.size + 1, 0, none⟩ (.int .i64 m)).alloc (.cells #[.int .i64 (d : Int), .int .i64 (o : Int)] 84)) (w.heap.size + 1) 3 (.int .i64 0) := H6b.out.alloc _
            have c70 : Boxed ((W.setCell ⟨W1.heap.size + 1, 0, none⟩ (.int .i64 m)).alloc (.cells #[.int .i64 (d : Int), .int .i64 (o : Int)] 84)) (w.heap.size + 1 + 1) 3 (.int .i64 0) := H7b.out.alloc _
            have c80 : Boxed ((W.setCell ⟨W1.heap.size + 1, 0, none⟩ (.int .i64 m)).alloc (.cells #[.int .i64 (d : Int), .int .i64 (o : Int)] 84)) (w.heap.size + 1 + 1 + 1) 4 (.bool false) := H8b.out.alloc _
            have hnew : ((W.setCell ⟨W1.heap.size + 1, 0, none⟩ (.int .i64 m)).alloc (.cells #[.int .i64 (d : Int), .int .i64 (o : Int)] 84)).heap[W.heap.size]? = some (.cells #[.int .i64 (d : Int), .int .i64 (o : Int)] 84 (0, 0)) := by
              have := World.alloc_heap_new (W.setCell ⟨W1.heap.size + 1, 0, none⟩ (.int .i64 m)) (.cells #[.int .i64 (d : Int), .int .i64 (o : Int)] 84)
              rwa [HS9.out] at this
            have e0 : ((W.setCell ⟨W1.heap.size + 1, 0, none⟩ (.int .i64 m)).alloc (.cells #[.int .i64 (d : Int), .int .i64 (o : Int)] 84)).cell? ⟨W.heap.size, 0, none⟩ = some (.int .i64 (d : Int)) := by simp only [World.cell?, hnew]; rfl
            have e1 : ((W.setCell ⟨W1.heap.size + 1, 0, none⟩ (.int .i64 m)).alloc (.cells #[.int .i64 (d : Int), .int .i64 (o : Int)] 84)).cell? ⟨W.heap.size, 1, none⟩ = some (.int .i64 (o : Int)) := by simp only [World.cell?, hnew]; rfl
            have hkp := HKP.out (.cells #[.int .i64 (d : Int), .int .i64 (o : Int)] 84)
            have hle2 := HLE.out (.cells #[.int .i64 (d : Int), .int .i64 (o : Int)] 84)
            have hba := HBA.out (.cells #[.int .i64 (d : Int), .int .i64 (o : Int)] 84)
            clear hnew hlk cN fN c3 c2 HKP HLE HBA
            generalize ((W.setCell ⟨W1.heap.size + 1, 0, none⟩ (.int .i64 m)).alloc (.cells #[.int .i64 (d : Int), .int .i64 (o : Int)] 84)) = Wc at *
            have HC60 := Lib.hid c60
            have HC70 := Lib.hid c70
            have HC80 := Lib.hid c80
            have HKP := Lib.hid hkp
            have HLE := Lib.hid hle2
            have HBA := Lib.hid hba
            have g6 := c60.cell
            have g7 := c70.cell
            have g8 := c80.cell
            have k6 := c60.frozen
            have k7 := c70.frozen
            have k8 := c80.frozen
            clear c60 c70 c80 hkp hle2 hba
            refine wpIn_hide (fun K hK => ?_)
            have hend : ∀ a : Act, K .normal a (((Wc.setCell ⟨w.heap.size + 1, 0, none⟩ (.int .i64 (d : Int))).setCell ⟨w.heap.size + 1 + 1, 0, none⟩ (.int .i64 ((o : Int) + m))).setCell ⟨w.heap.size + 1 + 1 + 1, 0, none⟩ (.bool true)).drew := by
              have b6 : Boxed (((Wc.setCell ⟨w.heap.size + 1, 0, none⟩ (.int .i64 (d : Int))).setCell ⟨w.heap.size + 1 + 1, 0, none⟩ (.int .i64 ((o : Int) + m))).setCell ⟨w.heap.size + 1 + 1 + 1, 0, none⟩ (.bool true)).drew (w.heap.size + 1) 3 (.int .i64 (d : Int)) := ((HC60.out.set _).other (by omega) _).other (by omega) _
              have b7 : Boxed (((Wc.setCell ⟨w.heap.size + 1, 0, none⟩ (.int .i64 (d : Int))).setCell ⟨w.heap.size + 1 + 1, 0, none⟩ (.int .i64 ((o : Int) + m))).setCell ⟨w.heap.size + 1 + 1 + 1, 0, none⟩ (.bool true)).drew (w.heap.size + 1 + 1) 3 (.int .i64 ((o : Int) + m)) := ((HC70.out.other (by omega) _).set _).other (by omega) _
              have b8 : Boxed (((Wc.setCell ⟨w.heap.size + 1, 0, none⟩ (.int .i64 (d : Int))).setCell ⟨w.heap.size + 1 + 1, 0, none⟩ (.int .i64 ((o : Int) + m))).setCell ⟨w.heap.size + 1 + 1 + 1, 0, none⟩ (.bool true)).drew (w.heap.size + 1 + 1 + 1) 4 (.bool true) := ((HC80.out.other (by omega) _).other (by omega) _).set _
              have hoth : ∀ b, b < W.heap.size → b ≠ w.heap.size + 1 → b ≠ w.heap.size + 1 + 1 → b ≠ w.heap.size + 1 + 1 + 1 → b ≠ W1.heap.size + 1 → (((Wc.setCell ⟨w.heap.size + 1, 0, none⟩ (.int .i64 (d : Int))).setCell ⟨w.heap.size + 1 + 1, 0, none⟩ (.int .i64 ((o : Int) + m))).setCell ⟨w.heap.size + 1 + 1 + 1, 0, none⟩ (.bool true)).drew.heap[b]? = W.heap[b]? := fun b hb h1 h2 h3 h4 =>
                (Below.heap_setCell _ ⟨w.heap.size + 1 + 1 + 1, 0, none⟩ _ b h3).trans ((Below.heap_setCell _ ⟨w.heap.size + 1 + 1, 0, none⟩ _ b h2).trans ((Below.heap_setCell _ ⟨w.heap.size + 1, 0, none⟩ _ b h1).trans (HKP.out b hb h4)))
              have hsz5 : W.heap.size ≤ (((Wc.setCell ⟨w.heap.size + 1, 0, none⟩ (.int .i64 (d : Int))).setCell ⟨w.heap.size + 1 + 1, 0, none⟩ (.int .i64 ((o : Int) + m))).setCell ⟨w.heap.size + 1 + 1 + 1, 0, none⟩ (.bool true)).drew.heap.size := by simpa [World.setCell, World.drew] using HLE.out
              have hbl5 : Below (w.heap.size + 1) W4 (((Wc.setCell ⟨w.heap.size + 1, 0, none⟩ (.int .i64 (d : Int))).setCell ⟨w.heap.size + 1 + 1, 0, none⟩ (.int .i64 ((o : Int) + m))).setCell ⟨w.heap.size + 1 + 1 + 1, 0, none⟩ (.bool true)).drew := (((HBA.out.setCell (p := ⟨w.heap.size + 1, 0, none⟩) (by simp) _).setCell (p := ⟨w.heap.size + 1 + 1, 0, none⟩) (by simp) _).setCell (p := ⟨w.heap.size + 1 + 1 + 1, 0, none⟩) (by simp) _).drew
              generalize (((Wc.setCell ⟨w.heap.size + 1, 0, none⟩ (.int .i64 (d : Int))).setCell ⟨w.heap.size + 1 + 1, 0, none⟩ (.int .i64 ((o : Int) + m))).setCell ⟨w.heap.size + 1 + 1 + 1, 0, none⟩ (.bool true)).drew = W5 at *
              intro a
              refine hK _ _ _ ?_
              gi_wp2
              refine ⟨⟨hsz5, fun b hb hx => hoth b hb (fun e => HX6.out (by rw [← e]; exact hx)) (fun e => HX7.out (by rw [← e]; exact hx)) (fun e => HX8.out (by rw [← e]; exact hx)) (fun e => HXN.out (by rw [← e]; exact hx))⟩, ⟨hsz5, fun b hb hk => hoth b hb hk.2.1 hk.2.2.1 hk.2.2.2.1 hk.2.2.2.2⟩, ?_⟩
              have HH0 : hitF f L r (pre.length + 1) = some (d, o + (pre.length + 1)) := by rw [HHF.out, HFQ.out]; rfl
              dsimp only
              rw [HLN1.out, HH0]
              refine ⟨⟨b6, HX6.out⟩, ⟨?_, HX7.out⟩, ⟨b8, HX8.out⟩, ⟨hbl5, HGE.out⟩, fun k hk => HNO.out k (by omega), by omega, .inl ⟨rfl, rfl⟩⟩
              show Boxed W5 _ _ (.int .i64 (((o + (pre.length + 1) : Nat)) : Int))
              rw [show ((o + (pre.length + 1) : Nat) : Int) = (o : Int) + m by have := HM.out; omega]
              exact b7
            gi_region
            all_goals exact hend _
        case done =>
          rintro D X xs W2 hD hXD rfl ⟨hN, h6, h7, h8, ⟨hB, hge⟩, hbd, hno, hle⟩ hk
          rw [wkTo_len] at hno hle
          have hB2 : Below w.heap.size w W2 := HB14.out.trans (hB.mono (by omega))
          have hAt : AtP f L r M none := .inr ⟨fun k hk _ => hno k hk, rfl⟩
          have HAT := Lib.hid hAt
          have H6 := Lib.hid h6
          have H7 := Lib.hid h7
          have H8 := Lib.hid h8
          have HGE := Lib.hid hge
          have HK := Lib.hid hk
          have g6 := h6.1.cell
          have g7 := h7.1.cell
          have g8 := h8.1.cell
          have k6 := h6.1.frozen
          have k7 := h7.1.frozen
          have k8 := h8.1.frozen
          have b6 : Boxed (((W2.setCell ⟨w.heap.size + 1, 0, none⟩ (.int .i64 0)).setCell ⟨w.heap.size + 1 + 1, 0, none⟩ (.int .i64 0)).setCell ⟨w.heap.size + 1 + 1 + 1, 0, none⟩ (.bool false)) (w.heap.size + 1) 3 (.int .i64 0) := ((h6.1.set _).other (by omega) _).other (by omega) _
          have b7 : Boxed (((W2.setCell ⟨w.heap.size + 1, 0, none⟩ (.int .i64 0)).setCell ⟨w.heap.size + 1 + 1, 0, none⟩ (.int .i64 0)).setCell ⟨w.heap.size + 1 + 1 + 1, 0, none⟩ (.bool false)) (w.heap.size + 1 + 1) 3 (.int .i64 0) := ((h7.1.other (by omega) _).set _).other (by omega) _
          have b8 : Boxed (((W2.setCell ⟨w.heap.size + 1, 0, none⟩ (.int .i64 0)).setCell ⟨w.heap.size + 1 + 1, 0, none⟩ (.int .i64 0)).setCell ⟨w.heap.size + 1 + 1 + 1, 0, none⟩ (.bool false)) (w.heap.size + 1 + 1 + 1) 4 (.bool false) := ((h8.1.other (by omega) _).other (by omega) _).set _
          have bB : Below w.heap.size w (((W2.setCell ⟨w.heap.size + 1, 0, none⟩ (.int .i64 0)).setCell ⟨w.heap.size + 1 + 1, 0, none⟩ (.int .i64 0)).setCell ⟨w.heap.size + 1 + 1 + 1, 0, none⟩ (.bool false)) := ((hB2.setCell (p := ⟨w.heap.size + 1, 0, none⟩) (by simp) _).setCell (p := ⟨w.heap.size + 1 + 1, 0, none⟩) (by simp; omega) _).setCell (p := ⟨w.heap.size + 1 + 1 + 1, 0, none⟩) (by simp; omega) _
          have bD : (((W2.setCell ⟨w.heap.size + 1, 0, none⟩ (.int .i64 0)).setCell ⟨w.heap.size + 1 + 1, 0, none⟩ (.int .i64 0)).setCell ⟨w.heap.size + 1 + 1 + 1, 0, none⟩ (.bool false)).heap[D]? = some (.deferred (some [])) :=
            (Below.heap_setCell _ ⟨w.heap.size + 1 + 1 + 1, 0, none⟩ _ D (by show D ≠ w.heap.size + 1 + 1 + 1; omega)).trans ((Below.heap_setCell _ ⟨w.heap.size + 1 + 1, 0, none⟩ _ D (by show D ≠ w.heap.size + 1 + 1; omega)).trans ((Below.heap_setCell _ ⟨w.heap.size + 1, 0, none⟩ _ D (by show D ≠ w.heap.size + 1; omega)).trans hk))
          have HB6 := Lib.hid b6
          have HB7 := Lib.hid b7
          have HB8 := Lib.hid b8
          have HBB := Lib.hid bB
          have HBD := Lib.hid bD
          clear h6 h7 h8 hB2 hge hk hB hAt b6 b7 b8 bB bD
          gi_wp2
          generalize (((W2.setCell ⟨w.heap.size + 1, 0, none⟩ (.int .i64 0)).setCell ⟨w.heap.size + 1 + 1, 0, none⟩ (.int .i64 0)).setCell ⟨w.heap.size + 1 + 1 + 1, 0, none⟩ (.bool false)) = W5 at *
          refine leaves_marks X (fun A => Boxed A (w.heap.size + 1) 3 (.int .i64 0) ∧ Boxed A (w.heap.size + 1 + 1) 3 (.int .i64 0) ∧ Boxed A (w.heap.size + 1 + 1 + 1) 4 (.bool false) ∧ Below w.heap.size w A)
            (fun A B h st => ⟨(st.block _ h.1.lt H6.out.2).trans h.1, (st.block _ h.2.1.lt H7.out.2).trans h.2.1, (st.block _ h.2.2.1.lt H8.out.2).trans h.2.2.1, h.2.2.2.trans (st.below h.2.2.2.size (fun b hb => by have := HGE.out b hb; omega))⟩) (fun A h => ?_) [D] W5 (by simp) (fun E hE => by rw [List.mem_singleton.1 hE]; exact ⟨hXD, HBD.out⟩) ⟨HB6.out, HB7.out, HB8.out, HBB.out⟩
          exact HFIN.out _ A 0 0 false none rfl rfl rfl h.1 h.2.1 h.2.2.1 h.2.2.2 rfl (.inr ⟨r, M, rfl, hrl, HM1.out, HAT.out⟩)
        case stop =>
          rintro D X c pre W2 hD hXD hpre ⟨h6, h7, h8, ⟨hB, hge⟩, hno, hle, hor⟩ hk
          have hpl : pre.length ≤ M := by have := hpre.length_le; rwa [wkTo_len] at this
          have hB2 : Below w.heap.size w W2 := HB14.out.trans (hB.mono (by omega))
          rcases hor with ⟨rfl, hso⟩ | ⟨rfl, hn, h31⟩
          · obtain ⟨⟨d, o⟩, hdo⟩ := Option.isSome_iff_exists.1 hso
            rw [hdo] at h6 h7 h8
            have hAt : AtP f L r M (some (d, o)) := by
              unfold hitF at hdo
              obtain ⟨p, h1, h2⟩ := Option.map_eq_some_iff.1 hdo
              exact .inl ⟨pre.length, p, hpl, hle, h1, by rw [← h2]⟩
            have HAT := Lib.hid hAt
            have H6 := Lib.hid h6
            have H7 := Lib.hid h7
            have H8 := Lib.hid h8
            have HB2 := Lib.hid hB2
            have HGE := Lib.hid hge
            have HK := Lib.hid hk
            clear h6 h7 h8 hB2 hge hk hB hno hdo hAt hso
            gi_wp2
            refine leaves_marks X (fun A => Boxed A (w.heap.size + 1) 3 (.int .i64 (d : Int)) ∧ Boxed A (w.heap.size + 1 + 1) 3 (.int .i64 (o : Int)) ∧ Boxed A (w.heap.size + 1 + 1 + 1) 4 (.bool true) ∧ Below w.heap.size w A)
              (fun A B h st => ⟨(st.block _ h.1.lt H6.out.2).trans h.1, (st.block _ h.2.1.lt H7.out.2).trans h.2.1, (st.block _ h.2.2.1.lt H8.out.2).trans h.2.2.1, h.2.2.2.trans (st.below h.2.2.2.size (fun b hb => by have := HGE.out b hb; omega))⟩) (fun A h => ?_) [D] W2 (by simp) (fun E hE => by rw [List.mem_singleton.1 hE]; exact ⟨hXD, HK.out⟩) ⟨H6.out.1, H7.out.1, H8.out.1, HB2.out⟩
            exact HFIN.out _ A (d : Int) (o : Int) true (some (d, o)) rfl rfl rfl h.1 h.2.1 h.2.2.1 h.2.2.2 rfl (.inr ⟨r, M, rfl, hrl, HM1.out, HAT.out⟩)
          · have hh : hitF f L r pre.length = none := by unfold hitF; rw [hn]; rfl
            rw [hh] at h6 h7 h8
            have hAt : AtP f L r M none := .inr ⟨fun k hk hk31 => by
              rcases Nat.lt_or_ge k pre.length with h | h
              · exact hno k h
              · obtain rfl : k = pre.length := by omega
                exact hn, rfl⟩
            change (Boxed W2 (w.heap.size + 1) 3 (.int .i64 0)) ∧ _ at h6
            change (Boxed W2 (w.heap.size + 1 + 1) 3 (.int .i64 0)) ∧ _ at h7
            change (Boxed W2 (w.heap.size + 1 + 1 + 1) 4 (.bool false)) ∧ _ at h8
            clear hh hn hno h31 hle
            have HAT := Lib.hid hAt
            have H6 := Lib.hid h6
            have H7 := Lib.hid h7
            have H8 := Lib.hid h8
            have HGE := Lib.hid hge
            have HK := Lib.hid hk
            have g6 := h6.1.cell
            have g7 := h7.1.cell
            have g8 := h8.1.cell
            have k6 := h6.1.frozen
            have k7 := h7.1.frozen
            have k8 := h8.1.frozen
            have b6 : Boxed (((W2.setCell ⟨w.heap.size + 1, 0, none⟩ (.int .i64 0)).setCell ⟨w.heap.size + 1 + 1, 0, none⟩ (.int .i64 0)).setCell ⟨w.heap.size + 1 + 1 + 1, 0, none⟩ (.bool false)) (w.heap.size + 1) 3 (.int .i64 0) := ((h6.1.set _).other (by omega) _).other (by omega) _
            have b7 : Boxed (((W2.setCell ⟨w.heap.size + 1, 0, none⟩ (.int .i64 0)).setCell ⟨w.heap.size + 1 + 1, 0, none⟩ (.int .i64 0)).setCell ⟨w.heap.size + 1 + 1 + 1, 0, none⟩ (.bool false)) (w.heap.size + 1 + 1) 3 (.int .i64 0) := ((h7.1.other (by omega) _).set _).other (by omega) _
            have b8 : Boxed (((W2.setCell ⟨w.heap.size + 1, 0, none⟩ (.int .i64 0)).setCell ⟨w.heap.size + 1 + 1, 0, none⟩ (.int .i64 0)).setCell ⟨w.heap.size + 1 + 1 + 1, 0, none⟩ (.bool false)) (w.heap.size + 1 + 1 + 1) 4 (.bool false) := ((h8.1.other (by omega) _).other (by omega) _).set _
            have bB : Below w.heap.size w (((W2.setCell ⟨w.heap.size + 1, 0, none⟩ (.int .i64 0)).setCell ⟨w.heap.size + 1 + 1, 0, none⟩ (.int .i64 0)).setCell ⟨w.heap.size + 1 + 1 + 1, 0, none⟩ (.bool false)) := ((hB2.setCell (p := ⟨w.heap.size + 1, 0, none⟩) (by simp) _).setCell (p := ⟨w.heap.size + 1 + 1, 0, none⟩) (by simp; omega) _).setCell (p := ⟨w.heap.size + 1 + 1 + 1, 0, none⟩) (by simp; omega) _
            have bD : (((W2.setCell ⟨w.heap.size + 1, 0, none⟩ (.int .i64 0)).setCell ⟨w.heap.size + 1 + 1, 0, none⟩ (.int .i64 0)).setCell ⟨w.heap.size + 1 + 1 + 1, 0, none⟩ (.bool false)).heap[D]? = some (.deferred (some [])) :=
              (Below.heap_setCell _ ⟨w.heap.size + 1 + 1 + 1, 0, none⟩ _ D (by show D ≠ w.heap.size + 1 + 1 + 1; omega)).trans ((Below.heap_setCell _ ⟨w.heap.size + 1 + 1, 0, none⟩ _ D (by show D ≠ w.heap.size + 1 + 1; omega)).trans ((Below.heap_setCell _ ⟨w.heap.size + 1, 0, none⟩ _ D (by show D ≠ w.heap.size + 1; omega)).trans hk))
            have HB6 := Lib.hid b6
            have HB7 := Lib.hid b7
            have HB8 := Lib.hid b8
            have HBB := Lib.hid bB
            have HBD := Lib.hid bD
            clear h6 h7 h8 hB2 hge hk hB hAt b6 b7 b8 bB bD
            gi_wp2
            generalize (((W2.setCell ⟨w.heap.size + 1, 0, none⟩ (.int .i64 0)).setCell ⟨w.heap.size + 1 + 1, 0, none⟩ (.int .i64 0)).setCell ⟨w.heap.size + 1 + 1 + 1, 0, none⟩ (.bool false)) = W5 at *
            refine leaves_marks X (fun A => Boxed A (w.heap.size + 1) 3 (.int .i64 0) ∧ Boxed A (w.heap.size + 1 + 1) 3 (.int .i64 0) ∧ Boxed A (w.heap.size + 1 + 1 + 1) 4 (.bool false) ∧ Below w.heap.size w A)
              (fun A B h st => ⟨(st.block _ h.1.lt H6.out.2).trans h.1, (st.block _ h.2.1.lt H7.out.2).trans h.2.1, (st.block _ h.2.2.1.lt H8.out.2).trans h.2.2.1, h.2.2.2.trans (st.below h.2.2.2.size (fun b hb => by have := HGE.out b hb; omega))⟩) (fun A h => ?_) [D] W5 (by simp) (fun E hE => by rw [List.mem_singleton.1 hE]; exact ⟨hXD, HBD.out⟩) ⟨HB6.out, HB7.out, HB8.out, HBB.out⟩
            exact HFIN.out _ A 0 0 false none rfl rfl rfl h.1 h.2.1 h.2.2.1 h.2.2.2 rfl (.inr ⟨r, M, rfl, hrl, HM1.out, HAT.out⟩)
end Go.Proofs.Ytjpoebmjfedecaa

/-
  At, of an index of documents: its answers.
-/
namespace Go.Proofs.Ytjpoebmjfedecaa
open Go.RowKit

theorem bwt_ends (ds : List (List Nat)) (hok : NewOk ds) : ∀ q, q < (bwtOf ds).length → ∃ M, EndsL (bwtOf ds) q M ∧ M < (bwtOf ds).length := fun q hq => by
  have hq2 : q < (rowsR ds).length := by rw [rows_len, ← bwtOf_len]; exact hq
  refine ⟨((rowsR ds).getD q (0, 0)).2, way_ends ds hok.byte q ((rowsR ds).getD q (0, 0)).1 _ hq2 rfl, ?_⟩
  have hv := rows_at ds q hq2
  have := place_lt ds _ _ hv.1 hv.2
  rw [bwtOf_len]; omega
theorem putF_small (ds : List (List Nat)) (hok : NewOk ds) (q : Int) (p : Nat × Nat) (h : putF (putsTo ds ds.length) q = some p) : p.1 ≤ 1000000 ∧ p.2 ≤ 1000000 := by
  obtain ⟨q, _, h1, h2⟩ := putF_of ds hok.byte q p h
  have hv := rows_at ds q h1
  rw [h2] at hv
  have h3 := hok.many
  have h4 := hok.long _ (doc_mem hv.1)
  have h5 := hv.1
  have h6 := hv.2
  omega
theorem watr_any (w : World) (bx bm' : Nat) (al : Option Addr) (cap : Nat) (ds : List (List Nat)) (hok : NewOk ds) (hI : IdxAt w bx bm' al cap (bwtOf ds)) (Y : Nat → Prop) (bp bm : Nat) (vS vZ : Value) (S Z : List Nat) (n : Nat)
    (hP : PlIn Y w bp bm vS vZ S Z n (putF (putsTo ds ds.length))) (r d off : Nat) (hr : r < (rowsR ds).length) (he : (rowsR ds).getD r (0, 0) = (d, off)) :
    Calls Try.prog 14 #[.pointer (some ⟨bp, 0, none⟩), .pointer (some ⟨bx, 0, none⟩), .int .i64 (r : Int)] w fun e w' => e = .returned (.tuple #[.int .i64 (d : Int), .int .i64 (off : Int), .bool true]) ∧ Below w.heap.size w w' := by
  have hall := hok.all
  have hLl : (bwtOf ds).length ≤ 60000 := by rw [bwtOf_len]; exact hall
  have hrL : (rowsR ds).length = (bwtOf ds).length := by rw [rows_len, bwtOf_len]
  refine (wat_any w bx bm' al cap (bwtOf ds) hI (by omega) (bwt_ends ds hok) Y bp bm vS vZ S Z n _ hP (putF_small ds hok) (r : Int) (WalkArith.wf_i64 ⟨by omega, by omega⟩)).mono ?_
  rintro e w' ⟨res, rfl, hb, (⟨h, _⟩ | ⟨q, M, hq, hql, hM, hat⟩)⟩
  · exfalso; omega
  · obtain rfl : r = q := by omega
    have hm := (way_ends ds hok.byte r d off hr he)
    obtain rfl : M = off := hM.one hm
    have := at_samples ds hok.byte r d M hr he res hat
    subst this
    exact ⟨rfl, hb⟩
theorem watn_any (w : World) (bx bm' : Nat) (al : Option Addr) (cap : Nat) (ds : List (List Nat)) (hok : NewOk ds) (hI : IdxAt w bx bm' al cap (bwtOf ds)) (Y : Nat → Prop) (bp bm : Nat) (vS vZ : Value) (S Z : List Nat) (n : Nat)
    (hP : PlIn Y w bp bm vS vZ S Z n (putF (putsTo ds ds.length))) (i : Int) (hiw : (Lit.int .i64 i).wf = true) (hi : i < 0 ∨ ((rowsR ds).length : Int) ≤ i) :
    Calls Try.prog 14 #[.pointer (some ⟨bp, 0, none⟩), .pointer (some ⟨bx, 0, none⟩), .int .i64 i] w fun e w' => e = .returned (.tuple #[.int .i64 0, .int .i64 0, .bool false]) ∧ Below w.heap.size w w' := by
  have hall := hok.all
  have hLl : (bwtOf ds).length ≤ 60000 := by rw [bwtOf_len]; exact hall
  have hrL : (rowsR ds).length = (bwtOf ds).length := by rw [rows_len, bwtOf_len]
  refine (wat_any w bx bm' al cap (bwtOf ds) hI (by omega) (bwt_ends ds hok) Y bp bm vS vZ S Z n _ hP (putF_small ds hok) i hiw).mono ?_
  rintro e w' ⟨res, rfl, hb, (⟨_, rfl⟩ | ⟨q, M, hq, hql, hM, hat⟩)⟩
  · exact ⟨rfl, hb⟩
  · exfalso; omega
end Go.Proofs.Ytjpoebmjfedecaa
