/-
  BagSets: a set of numbers has each of them once, tells them in order, from any one on, by place and by rank.
-/
import Derived.Test.YtoifmfdaghmleaaBagAdd
import Derived.Test.YtoifmfdaghmleaaBagStep
import Derived.Test.YtoifmfdaghmleaaBagApp
import Derived.Test.YtoifmfdaghmleaaOpsOpen
import Derived.Test.YtoifmfdaghmleaaNoPanic
import Derived.Deep.CutBlock
import Derived.Deep.CutRange
set_option linter.unusedVariables false
namespace Go.Proofs.Ytoifmfdaghmleaa
open Go.RowKit Go.Lib Go.Sort Go.Shelf
theorem egPtrX (p : Nat) (W : World) : (binOp .eql 42 (.pointer (some ⟨p, 0, none⟩)) (.pointer none)).run Try.prog W = .ok (.bool false) W := by kernel_rfl
/-- the set and the list that stands for it -/
structure SSt (w W : World) (p : Nat) (v : Value) (a : Option Addr) (c : Nat) (l : List Int) : Prop where
  set : SetI W p v l
  row : SRow W a l.length c (intsF l)
  far : l.length = 0 ∨ ¬ SetB p v (bOf a)
  bel : Below w.heap.size w W
  hp : w.heap.size ≤ p
theorem SSt.rowp {w W : World} {p : Nat} {v : Value} {a : Option Addr} {c : Nat} {l : List Int} (h : SSt w W p v a c l) : ∀ g, v.ownBlock = some g → p + 1 ≤ g := fun g e => (h.set.row.lt g e).1
/-- new memory, and no more -/
theorem SSt.kept {w W W' : World} {p : Nat} {v : Value} {a : Option Addr} {c : Nat} {l : List Int} (h : SSt w W p v a c l) (hb : Below W.heap.size W W') : SSt w W' p v a c l :=
  ⟨h.set.kept hb, h.row.kept hb, h.far, below_next h.bel hb h.bel.size, h.hp⟩
theorem srow_step {W W' : World} {X : Nat → Prop} {a : Option Addr} {n c : Nat} {f : Nat → Value} (h : SRow W a n c f) (st : StepX X W W') (hx : n = 0 ∨ ¬ X (bOf a)) : SRow W' a n c f :=
  ⟨h.at_, h.le, ⟨h.row.at_, fun j hj => by
    have h1 := h.row.cell j hj
    have hlt1 := World.block_lt_of_cell? W _ h1
    exact (World.cell?_of_block (a := ⟨bOf a, oOf a + j, none⟩) (st.block _ hlt1 (hx.resolve_left (by omega)))).trans h1⟩⟩
/-- the set is turned: the list's row lies where it lay -/
theorem SSt.turned {w W W' : World} {p : Nat} {v v' : Value} {a : Option Addr} {c : Nat} {l l' : List Int} (h : SSt w W p v a c l) (hs : SetI W' p v' l') (st : StepX (SetB p v) W W') (hvo : ∀ g, v'.ownBlock = some g → SetB p v g ∨ W.heap.size ≤ g) :
    SRow W' a l.length c (intsF l) ∧ (l.length = 0 ∨ ¬ SetB p v' (bOf a)) ∧ Below w.heap.size w W' := by
  refine ⟨srow_step h.row st h.far, ?_, stepB h.bel h.hp h.rowp st⟩
  rcases Nat.eq_zero_or_pos l.length with h0 | h0
  · exact .inl h0
  · right
    have hn := h.far.resolve_left (by omega)
    have hlt := World.block_lt_of_cell? W _ (h.row.row.cell 0 h0)
    rintro (e | e)
    · exact hn (.inl e)
    · rcases hvo _ e with h2 | h2
      · exact hn h2
      · change bOf a < W.heap.size at hlt
        omega
/-- then the list has another row -/
theorem sst_put {w W W' : World} {p : Nat} {v : Value} {a a' : Option Addr} {c' : Nat} {l l' : List Int} (hs : SetI W p v l') (hfar : l.length = 0 ∨ ¬ SetB p v (bOf a)) (hb : Below w.heap.size w W) (hp : w.heap.size ≤ p) (hb2 : Below W.heap.size W W')
    (hr : SRow W' a' l'.length c' (intsF l')) (hn : (a' = a ∧ l'.length = l.length) ∨ W.heap.size ≤ bOf a' ∨ l'.length = 0) : SSt w W' p v a' c' l' := by
  refine ⟨hs.kept hb2, hr, ?_, below_next hb hb2 hb.size, hp⟩
  rcases hn with ⟨rfl, he⟩ | hn | h0
  · rcases hfar with h | h
    · exact .inl (by omega)
    · exact .inr h
  · right
    rintro (e | e)
    · have := hs.box.lt; omega
    · have := (hs.row.lt _ e).2; omega
  · exact .inl h0
/-- the round's own copy of a call -/
def Blk (W : World) (B : Nat) (kd x vv : Int) (sx : ByteArray) : Prop := W.heap[B]? = some (.cells #[.int .i64 kd, .int .i64 x, .int .i64 vv, .string sx] 67 (0, 0))
theorem Blk.new (W : World) (kd x vv : Int) (sx : ByteArray) : Blk (W.alloc (.cells #[.int .i64 kd, .int .i64 x, .int .i64 vv, .string sx] 67)) W.heap.size kd x vv sx := heap_alloc_new W _
theorem Blk.lt {W : World} {B : Nat} {kd x vv : Int} {sx : ByteArray} (h : Blk W B kd x vv sx) : B < W.heap.size := (Array.getElem?_eq_some_iff.1 h).1
theorem Blk.x {W : World} {B : Nat} {kd x vv : Int} {sx : ByteArray} (h : Blk W B kd x vv sx) : W.cell? ⟨B, 1, none⟩ = some (.int .i64 x) := by unfold Blk at h; simp [World.cell?, h]
theorem Blk.k {W : World} {B : Nat} {kd x vv : Int} {sx : ByteArray} (h : Blk W B kd x vv sx) : W.cell? ⟨B, 0, none⟩ = some (.int .i64 kd) := by unfold Blk at h; simp [World.cell?, h]
theorem Blk.kept {W W' : World} {B : Nat} {kd x vv : Int} {sx : ByteArray} (h : Blk W B kd x vv sx) (hb : Below W.heap.size W W') : Blk W' B kd x vv sx := (hb.block _ h.lt).trans h
theorem Blk.step {W W' : World} {X : Nat → Prop} {B : Nat} {kd x vv : Int} {sx : ByteArray} (h : Blk W B kd x vv sx) (st : StepX X W W') (hx : ¬ X B) : Blk W' B kd x vv sx := (st.block _ h.lt hx).trans h
theorem whereI_out5 {l : List Int} {x : Int} (h : x ∉ l) : whereI l x = -1 := by unfold whereI; rw [if_neg h]
theorem getD_delAt (l : List Int) (r : Nat) (hr : r < l.length) : (List.range r).map (intsF l) ++ (List.range (l.length - (r + 1))).map (fun j => intsF l (r + 1 + j)) = (delAt l r).map (Value.int .i64) := by
  unfold delAt
  rw [List.map_append]
  congr 1
  · apply List.ext_getElem?
    intro j
    rw [List.getElem?_map, List.getElem?_map]
    rcases Nat.lt_or_ge j r with h | h
    · rw [List.getElem?_range h, List.getElem?_take_of_lt h, List.getElem?_eq_getElem (by omega)]
      simp [intsF, List.getD_eq_getElem?_getD, List.getElem?_eq_getElem (show j < l.length by omega)]
    · rw [List.getElem?_eq_none (by simpa using h), List.getElem?_eq_none (by simp; omega)]; rfl
  · apply List.ext_getElem?
    intro j
    rw [List.getElem?_map, List.getElem?_map, List.getElem?_drop]
    rcases Nat.lt_or_ge j (l.length - (r + 1)) with h | h
    · rw [List.getElem?_range h, List.getElem?_eq_getElem (by omega)]
      simp [intsF, List.getD_eq_getElem?_getD, List.getElem?_eq_getElem (show r + 1 + j < l.length by omega)]
    · rw [List.getElem?_eq_none (by simpa using h), List.getElem?_eq_none (by omega)]; rfl
theorem where_neg (l : List Int) (x : Int) : (decide (whereI l x < 0)) = !memB l x := by
  by_cases h : x ∈ l
  · rw [memB_true h]; unfold whereI; rw [if_pos h]; exact decide_eq_false (by omega)
  · rw [memB_false h]; unfold whereI; rw [if_neg h]; rfl
theorem where_ge (l : List Int) (x : Int) : (decide (0 ≤ whereI l x)) = memB l x := by
  by_cases h : x ∈ l
  · rw [memB_true h]; unfold whereI; rw [if_pos h]; exact decide_eq_true (by omega)
  · rw [memB_false h]; unfold whereI; rw [if_neg h]; rfl
theorem stFrom {w0 W : World} {Ss : List (Nat × Value × List Int)} {Rs : List (Option Addr × List Int)} {Is : List (Value × (Nat → Prop) × List Int)} (h : LwI w0 W Ss Rs Is) (p : Nat) (v : Value) (l : List Int) (hs : (p, v, l) ∈ Ss) (hl : l.length ≤ 1000000) (x : Int) :
    Calls Try.prog 43 #[.pointer (some ⟨p, 0, none⟩), .int .i64 x] W fun e w' => ∃ fv, e = .returned fv ∧ LwI w0 w' Ss Rs ((fv, noB, l.drop (rk ltI l x)) :: Is) := by
  refine (fromI W p v l (h.sets _ hs) hl x).mono ?_
  rintro e w' ⟨fv, rfl, _, hi, hb⟩
  exact ⟨fv, rfl, (h.kept hb).addI hi⟩
theorem stSameN {w0 W : World} {Ss : List (Nat × Value × List Int)} {Rs : List (Option Addr × List Int)} {Is : List (Value × (Nat → Prop) × List Int)} (h : LwI w0 W Ss Rs Is) (a b : Option Addr) (ca cb n : Nat) (l : List Int) (hn : l.length = n) (ha : (a, l) ∈ Rs) (hb : (b, l) ∈ Rs) (hl : n ≤ 1000000) :
    Calls Try.prog 17 #[.slice a n ca, .slice b n cb] W fun e w' => e = .returned (.bool true) ∧ LwI w0 w' Ss Rs Is := by
  subst hn
  exact stSame h a b ca cb l ha hb hl
set_option maxRecDepth 100000 in
set_option maxHeartbeats 8000000 in
theorem bagSets_walk (w : World) (a0 : Option Addr) (n cap : Nat) (O : Nat → OpV) (hl : n ≤ maxLen) (h : OpsAt w a0 n O) (i : Int) (hi : (Lit.int .i64 i).wf = true) :
    Calls Try.prog 10 #[.slice a0 n cap, .int .i64 i] w fun e w' => e = .returned (.bool true) ∧ Below w.heap.size w w' := by
  have HAW := Lib.hid (fun W => awake5_any W)
  have HNS := Lib.hid (newSetI w none 0 0 [] rfl (by omega) (Row.nil _ _ _))
  have HO := Lib.hid h
  have HIX := Lib.hid (run_ixN (P := Try.prog) 65 4 (by kernel_rfl) (fun w => by kernel_rfl) a0 n cap h.at_)
  clear h
  go_enter Try.func10, Try.ntmps10
  go_wp2_with fail
  refine HNS.out.mono ?_
  rintro e w1 ⟨p, v, rfl, hs, hb1, hp1⟩
  have HS1 : Hid (SSt w w1 p v none 0 []) := ⟨hs, SRow.nil _ _, .inl rfl, hb1, hp1⟩
  have egP := fun W => egPtrX p W
  clear hs hb1 hp1 HNS
  go_wp2
  go_loopw [6, 7, 8, 9, 10, 11, 12, 13] (fun v6 v7 _ _ _ _ _ _ wr => ∃ (k c : Nat) (v' : Value) (a : Option Addr) (l : List Int), k ≤ n ∧ k ≤ 80 ∧ v7 = .int .i64 (k : Int) ∧ v6 = .slice a l.length c ∧ l.length ≤ k ∧ SSt w wr p v' a c l) (fun _ v7 _ _ _ _ _ _ _ => 80 - (intOf v7).toNat)
  case atStart => exact ⟨0, 0, v, none, [], Nat.zero_le _, Nat.zero_le _, rfl, rfl, Nat.zero_le _, HS1.out⟩
  case round =>
    obtain ⟨k, c, v', a, l, hk, hk8, rfl, rfl, hlk, hst⟩ := hrel
    by_cases hlt : k < n ∧ k < 80
    · obtain ⟨hlt, hlt8⟩ := hlt
      have tk : (k : Int) < (n : Int) := by omega
      have tk8 : (k : Int) < 80 := by omega
      have hxk := fun W => HIX.out W k hlt
      have ho := HO.out.kept hst.bel
      have d0 := ho.c0 k hlt
      have d1 := ho.c1 k hlt
      have d2 := ho.c2 k hlt
      have d3 := ho.c3 k hlt
      have HST := Lib.hid hst
      have HLK := Lib.hid hlk
      clear ho hst hlk
      obtain ⟨⟨kd, x, vv, sx⟩, hO⟩ : ∃ o, o = O k := ⟨_, rfl⟩
      rw [← hO] at d0 d1 d2 d3
      have HWF := Lib.hid (HO.out.wf k hlt)
      rw [← hO] at HWF
      clear hO
      simp only at d0 d1 d2 d3
      have HB1 := Lib.hid (Blk.new wr kd x vv sx)
      have HB0 : Hid (Below wr.heap.size wr (wr.alloc (.cells #[.int .i64 kd, .int .i64 x, .int .i64 vv, .string sx] 67))) := (Below.refl _ wr).alloc (Nat.le_refl _) _
      have HNB : Hid (¬ SetB p v' wr.heap.size) := fun h => h.elim (fun e => by have := HST.out.set.box.lt; omega) (fun e => by have := (HST.out.set.row.lt _ e).2; omega)
      go_wp2_with fail
      clear d0 d1 d2 d3 hxk
      have HS2 := Lib.hid (HST.out.kept HB0.out)
      generalize (wr.alloc (.cells #[.int .i64 kd, .int .i64 x, .int .i64 vv, .string sx] 67)) = w2 at *
      generalize wr.heap.size = B at *
      refine (at_any5 w2 a l.length c l rfl HS2.out.row.row (by have := HLK.out; omega) HS2.out.set.rise x).mono ?_
      rintro e w3 ⟨rfl, rfl⟩
      have e0 := HB1.out.k
      have e1 := HB1.out.x
      clear HST HB0
      generalize hj : whereI l x = j at *
      have HJ := Lib.hid hj
      clear hj
      go_upto_block 2 with fail
      go_cut [6] from 37 to 161 (fun s6 wx => ∃ (v2 : Value) (a2 : Option Addr) (c2 : Nat) (l2 : List Int), s6 = .slice a2 l2.length c2 ∧ l2.length ≤ k + 1 ∧ SSt w wx p v2 a2 c2 l2 ∧ Blk wx B kd x vv sx)
      case first =>
        have HPL := Lib.hid (putL_len (lt := ltI) l x)
        have HDL := Lib.hid (delL_len ordI HS2.out.set.rise x)
        by_cases hm : x ∈ l
        · have hj : j = (rk ltI l x : Int) := by rw [← HJ.out]; unfold whereI; rw [if_pos hm]
          have hj0 : 0 ≤ j := by omega
          have hj1 : ¬ j < 0 := by omega
          have hr := ((rk_mem ordI HS2.out.set.rise x).1 hm).1
          have HPE : Hid (putL ltI l x = l) := if_pos hm
          have HDE : Hid (delL ltI l x = delAt l (rk ltI l x)) := if_pos hm
          by_cases hk0 : kd = 0
          · have t0 : (kd == 0) = true := by simpa using hk0
            have HAD := Lib.hid (addI w3 p v' l HS2.out.set (by have := HLK.out; omega) x)
            rw [memB_true hm] at HAD
            clear hm hj hr hk0
            go_wp2_with fail
            refine HAD.out.mono ?_
            rintro e w4 ⟨v4, rfl, hs4, hst4, hvo4⟩
            obtain ⟨hr4, hf4, hb4⟩ := HS2.out.turned hs4 hst4 hvo4
            have HS4 := Lib.hid hs4
            have HR4 := Lib.hid hr4
            have HF4 := Lib.hid hf4
            have HB4 := Lib.hid hb4
            have hbk := HB1.out.step hst4 HNB.out
            have HBK := Lib.hid hbk
            have e9 := hbk.x
            clear hs4 hst4 hvo4 hr4 hf4 hb4 hbk e0 e1 HAD
            have HPP := Lib.hid (put_anyX w4 a l.length c l rfl HR4.out (by have := HLK.out; omega) HS2.out.set.rise x)
            go_wp2_with fail
            refine HPP.out.mono ?_
            rintro e w5 ⟨a5, c5, rfl, hr5, hb5, hn5⟩
            have HST5 := Lib.hid (sst_put HS4.out HF4.out HB4.out HS2.out.hp hb5 hr5 (hn5.imp id .inl))
            have HBK5 := Lib.hid (HBK.out.kept hb5)
            clear hr5 hb5 hn5 HPP e9
            go_wp2
            go_meet
            exact ⟨v4, a5, c5, _, rfl, by have := HPL.out; have := HLK.out; omega, HST5.out, HBK5.out⟩
          · have t0 : (kd == 0) = false := by simpa using hk0
            by_cases hk1 : kd = 1
            · have t1 : (kd == 1) = true := by simpa using hk1
              have HDR := Lib.hid (dropI w3 p v' l HS2.out.set (by have := HLK.out; omega) x)
              rw [memB_true hm] at HDR
              clear hm hk0 hk1
              generalize rk ltI l x = r at *
              have HJR := Lib.hid hj
              clear hj
              go_wp2_with fail
              refine HDR.out.mono ?_
              rintro e w4 ⟨v4, rfl, hs4, hst4, hvo4⟩
              obtain ⟨hr4, hf4, hb4⟩ := HS2.out.turned hs4 hst4 hvo4
              have HS4 := Lib.hid hs4
              have HR4 := Lib.hid hr4
              have HF4 := Lib.hid hf4
              have HB4 := Lib.hid hb4
              have HBK := Lib.hid (HB1.out.step hst4 HNB.out)
              clear hs4 hst4 hvo4 hr4 hf4 hb4 e0 e1 HDR
              obtain ⟨i0, hi0, hz0, hz1, hz2⟩ := info_parts info_rI
              have hbd : l.length ≤ 80 := by have := HLK.out; omega
              have hsh := fun W => run_cuth W 31 3 Try.underlying31 (fun w => by kernel_rfl) a l.length c r (by have := HR4.out.le; omega) HR4.out.at_
              have hsl := fun W => run_cutl W 31 3 Try.underlying31 (fun w => by kernel_rfl) a l.length c (r + 1) (by omega)
              rw [show ((r + 1 : Nat) : Int) = (r : Int) + 1 by omega, ← HJR.out] at hsl
              rw [← HJR.out] at hsh
              have hwr : IntKind.i64.wrap (j + 1) = j + 1 := IntWalk.i64_in _ (by have := HJR.out; omega)
              have HRK := Lib.hid (fun W (hW : Below w4.heap.size w4 W) => (HR4.out.row.take (show r ≤ l.length by omega)).kept hW)
              have HRD := Lib.hid (fun W (hW : Below w4.heap.size w4 W) => (HR4.out.cutl (show r + 1 ≤ l.length by omega)).kept hW)
              have HGD := Lib.hid (getD_delAt l r hr)
              have HDL2 := Lib.hid (delAt_len l r hr)
              generalize hlm : l.length = m at *
              have HLM := Lib.hid hlm
              clear hlm
              go_wp2
              go_region_law (first
                | (refine step_append_row rfl _ _ _ rfl w4 3 i0 _ 8 Try.underlying31 hi0 hz0 hz1 hz2 rfl _ 0 [] rfl (by exact ownC _ _) _ r _ (intsF l) rfl (HRK.out _ (by exact belC _ _)) (fun _ _ => rfl) (by simp only [maxLen]; omega) (by omega) (by exact belC _ _) ?_; rintro v1 w1 ho1 hg1 hb1; rw [Nat.zero_add, List.nil_append] at ho1; obtain ⟨a1, c1, rfl, -⟩ := Row.of_owns ho1; have HO1 := Lib.hid ho1; have HB1 := Lib.hid hb1; clear ho1 hg1 hb1)
                | (refine step_append_row rfl _ _ _ rfl w4 3 i0 _ 8 Try.underlying31 hi0 hz0 hz1 hz2 rfl (.slice a1 r c1) r _ rfl HO1.out _ (m - (r + 1)) _ (fun j => intsF l (r + 1 + j)) rfl (HRD.out _ HB1.out) (fun _ _ => rfl) (by simp only [maxLen]; omega) (by omega) HB1.out ?_; rintro v3 w3 ho3 hg3 hb3; obtain ⟨a3, c3, rfl, -⟩ := Row.of_owns ho3; have HO3 := Lib.hid ho3; have HB3 := Lib.hid hb3; clear ho3 hg3 hb3))
              all_goals
                have hO := HO3.out
                have hlen : r + (m - (r + 1)) = (delAt l r).length := by have := HDL2.out; omega
                rw [HGD.out, hlen] at hO
                obtain ⟨a9, c9, e9, hs9⟩ := srow_ints hO
                have hfar := (owns_row hO).2
                injection e9 with e9 e8 e7
                subst e9 e7
                rw [← HDE.out] at hs9 hfar hlen
                have HST5 := Lib.hid (sst_put (l := l) HS4.out (by rw [HLM.out]; exact HF4.out) HB4.out HS2.out.hp HB3.out hs9 (.inr hfar.symm))
                have HBK5 := Lib.hid (HBK.out.kept HB3.out)
                have HLN := Lib.hid hlen
                clear hO hlen hs9 hfar hsh hsl
                go_wp2
                go_meet
                exact ⟨v4, _, _, _, by rw [HLN.out], by have := HDL.out; have := HLK.out; omega, HST5.out, HBK5.out⟩
            · have t1 : (kd == 1) = false := by simpa using hk1
              have HHA := Lib.hid (hasI w3 p v' l HS2.out.set (by have := HLK.out; omega) x)
              rw [memB_true hm] at HHA
              clear hm hj hk0 hk1 hr
              go_wp2_with fail
              refine HHA.out.mono ?_
              rintro e w4 ⟨rfl, rfl⟩
              clear e0 e1 HHA
              go_wp2
              go_meet
              exact ⟨v', _, _, _, rfl, by have := HLK.out; omega, HS2.out, HB1.out⟩
        · have hj : j = -1 := by rw [← HJ.out]; exact whereI_out5 hm
          have hj0 : ¬ 0 ≤ j := by omega
          have hj1 : j < 0 := by omega
          have HDE : Hid (delL ltI l x = l) := if_neg hm
          by_cases hk0 : kd = 0
          · have t0 : (kd == 0) = true := by simpa using hk0
            have HAD := Lib.hid (addI w3 p v' l HS2.out.set (by have := HLK.out; omega) x)
            rw [memB_false hm] at HAD
            clear hm hj hk0
            go_wp2_with fail
            refine HAD.out.mono ?_
            rintro e w4 ⟨v4, rfl, hs4, hst4, hvo4⟩
            obtain ⟨hr4, hf4, hb4⟩ := HS2.out.turned hs4 hst4 hvo4
            have HS4 := Lib.hid hs4
            have HR4 := Lib.hid hr4
            have HF4 := Lib.hid hf4
            have HB4 := Lib.hid hb4
            have hbk := HB1.out.step hst4 HNB.out
            have HBK := Lib.hid hbk
            have e9 := hbk.x
            clear hs4 hst4 hvo4 hr4 hf4 hb4 hbk e0 e1 HAD
            have HPP := Lib.hid (put_anyX w4 a l.length c l rfl HR4.out (by have := HLK.out; omega) HS2.out.set.rise x)
            go_wp2_with fail
            refine HPP.out.mono ?_
            rintro e w5 ⟨a5, c5, rfl, hr5, hb5, hn5⟩
            have HST5 := Lib.hid (sst_put HS4.out HF4.out HB4.out HS2.out.hp hb5 hr5 (hn5.imp id .inl))
            have HBK5 := Lib.hid (HBK.out.kept hb5)
            clear hr5 hb5 hn5 HPP e9
            go_wp2
            go_meet
            exact ⟨v4, a5, c5, _, rfl, by have := HPL.out; have := HLK.out; omega, HST5.out, HBK5.out⟩
          · have t0 : (kd == 0) = false := by simpa using hk0
            by_cases hk1 : kd = 1
            · have t1 : (kd == 1) = true := by simpa using hk1
              have HDR := Lib.hid (dropI w3 p v' l HS2.out.set (by have := HLK.out; omega) x)
              rw [memB_false hm, HDE.out] at HDR
              clear hm hj hk0 hk1
              go_wp2_with fail
              refine HDR.out.mono ?_
              rintro e w4 ⟨v4, rfl, hs4, hst4, hvo4⟩
              obtain ⟨hr4, hf4, hb4⟩ := HS2.out.turned hs4 hst4 hvo4
              have HST5 : Hid (SSt w w4 p v4 a c l) := ⟨hs4, hr4, hf4, hb4, HS2.out.hp⟩
              have HBK5 := Lib.hid (HB1.out.step hst4 HNB.out)
              clear hs4 hst4 hvo4 hr4 hf4 hb4 e0 e1 HDR
              go_wp2
              go_meet
              exact ⟨v4, _, _, _, rfl, by have := HLK.out; omega, HST5.out, HBK5.out⟩
            · have t1 : (kd == 1) = false := by simpa using hk1
              have HHA := Lib.hid (hasI w3 p v' l HS2.out.set (by have := HLK.out; omega) x)
              rw [memB_false hm] at HHA
              clear hm hj hk0 hk1
              go_wp2_with fail
              refine HHA.out.mono ?_
              rintro e w4 ⟨rfl, rfl⟩
              clear e0 e1 HHA
              go_wp2
              go_meet
              exact ⟨v', _, _, _, rfl, by have := HLK.out; omega, HS2.out, HB1.out⟩
      case rest =>
        obtain ⟨v2, a2, c2, l2, rfl, hl2, hst2, hbk2⟩ := hcut
        clear HB1 HNB HS2 HJ HLK e0 e1
        have HST := Lib.hid hst2
        have HBK := Lib.hid hbk2
        have HL2 := Lib.hid hl2
        have HWC : Hid (∀ q, Below wc.heap.size wc (wc.drewN q)) := fun q => below_drewN (Below.refl _ _) q
        clear hst2 hbk2 hl2
        go_upto_block 3 with fail
        go_cut [10] from 78 to 161 (fun s10 wx => s10 = .int .i64 (rk ltI l2 x : Nat) ∧ ∃ q, wx = wc.drewN q)
        case first =>
          have HIXL := Lib.hid (run_ix (P := Try.prog) 31 (by kernel_rfl) size_int a2 l2.length c2 HST.out.row.row.at_ .i64)
          have HPB := Lib.hid (fun b (hb : b < l2.length) => show l2.getD b 0 < x ↔ b < rk ltI l2 x by
            rw [List.getD_eq_getElem?_getD, List.getElem?_eq_getElem hb, Option.getD_some, ← rk_at ordI HST.out.set.rise x b hb]
            simp [ltI])
          have HRL := Lib.hid (rk_le (lt := ltI) l2 x)
          have HRW := Lib.hid HST.out.row.row
          generalize rk ltI l2 x = r at *
          generalize hlm : l2.length = m at *
          have HLM := Lib.hid hlm
          clear hlm
          go_wp2
          go_loopw [10] (fun v10 wr => ∃ b : Nat, b ≤ r ∧ v10 = .int .i64 (b : Int) ∧ ∃ q, wr = wc.drewN q) (fun v10 _ => r + 1 - (intOf v10).toNat)
          case atStart => exact ⟨0, Nat.zero_le _, rfl, 0, rfl⟩
          case round =>
            obtain ⟨b, hb, rfl, q, hq⟩ := hrel
            have hr80 : (r : Int) ≤ 100 := by have := HRL.out; have := HL2.out; omega
            have e9 := (HBK.out.kept (HWC.out q)).x
            rw [← hq] at e9
            by_cases hbm : b < m
            · have tb : (b : Int) < (m : Int) := by omega
              have hx := fun W => HIXL.out W b hbm
              have d := (HRW.out.kept (HWC.out q)).cell b hbm
              rw [← hq] at d
              simp only [intsF] at d
              have hp := HPB.out b hbm
              have HQ := Lib.hid hq
              clear hq
              generalize l2.getD b 0 = y at *
              by_cases hbr : b < r
              · have ty : y < x := hp.2 hbr
                clear hp
                go_wp2
                go_quiet (fail)
                clear d hx e9
                go_wp2
                go_roundw
                case rel => exact ⟨b + 1, by omega, by go_num, q + nq, by rw [HQ.out, World.drewN_drewN]⟩
                case measure => simp [intOf]; omega
              · have ty : ¬ y < x := fun h => hbr (hp.1 h)
                obtain rfl : b = r := by omega
                clear hp
                go_wp2
                go_quiet (fail)
                clear d hx e9
                go_wp2
                go_meet
                exact ⟨rfl, q + nq, by rw [HQ.out, World.drewN_drewN]⟩
            · have tb : ¬ (b : Int) < (m : Int) := by omega
              have hbr : b = r := by have := HRL.out; omega
              have HQ := Lib.hid hq
              subst hbr
              clear hq
              go_wp2
              go_quiet (fail)
              go_wp2
              go_meet
              exact ⟨rfl, q + nq, by rw [HQ.out, World.drewN_drewN]⟩
        case rest =>
          obtain ⟨rfl, q, rfl⟩ := hcut
          generalize hwq : wc.drewN q = wx at *
          have HST3 : Hid (SSt w wx p v2 a2 c2 l2) := by rw [← hwq]; exact HST.out.kept (HWC.out q)
          have HBK3 : Hid (Blk wx B kd x vv sx) := by rw [← hwq]; exact HBK.out.kept (HWC.out q)
          clear hwq HST HBK HWC
          have HLEN := Lib.hid (lenI wx p v2 l2 HST3.out.set)
          have HRNK := Lib.hid (rankI wx p v2 l2 HST3.out.set (by have := HL2.out; omega) x)
          have hcr := fun W => run_cutl W 31 3 Try.underlying31 (fun w => by kernel_rfl) a2 l2.length c2 (rk ltI l2 x) (rk_le (lt := ltI) l2 x)
          have hdl : (l2.drop (rk ltI l2 x)).length = l2.length - rk ltI l2 x := List.length_drop
          have hcl := HST3.out.row.cutl (rk_le (lt := ltI) l2 x)
          have HRC : Hid (Row wx (cutA1 a2 c2 (rk ltI l2 x)) (l2.drop (rk ltI l2 x)).length (fun j => (Value.int .i64 ((l2.drop (rk ltI l2 x)).getD j 0) : Value))) := by
            rw [hdl]
            refine hcl.congr fun j hj => ?_
            show Value.int .i64 _ = Value.int .i64 _
            rw [getD_drop]
          have HS : Hid (LwI wx wx [(p, v2, l2)] [(a2, l2), (cutA1 a2 c2 (rk ltI l2 x), l2.drop (rk ltI l2 x))] []) := ⟨Below.refl _ _, fun s hs => by
            obtain rfl := List.mem_singleton.1 hs
            exact HST3.out.set, fun r hr' => by
            rcases List.mem_cons.1 hr' with rfl | h'
            · exact HST3.out.row.row
            · obtain rfl := List.mem_singleton.1 h'
              exact HRC.out, fun s hs => (List.not_mem_nil hs).elim⟩
          have HDL := Lib.hid hdl
          have e8 := HBK3.out.x
          clear hdl hcl HRC
          by_cases hin : 0 ≤ i ∧ i < (l2.length : Int)
          · obtain ⟨t, ht⟩ : ∃ t : Nat, i = (t : Int) := ⟨i.toNat, by omega⟩
            have htl : t < l2.length := by omega
            have HATC : Hid (Calls Try.prog 41 #[.pointer (some ⟨p, 0, none⟩), .int .i64 i] wx fun e w' => e = .returned (.tuple #[.int .i64 (l2.getD t 0), .bool true]) ∧ w' = wx) := by
              have := atI wx p v2 l2 HST3.out.set i
              unfold atLI at this
              rw [if_pos hin, decide_eq_true hin, ht, Int.toNat_natCast, ← ht] at this
              exact this
            have hxt := run_ix (P := Try.prog) 31 (by kernel_rfl) size_int a2 l2.length c2 HST3.out.row.row.at_ .i64
            have hx := fun W => hxt W t htl
            rw [← ht] at hx
            have d := HST3.out.row.row.cell t htl
            simp only [intsF] at d
            have hi0 : 0 ≤ i := hin.1
            have hi1 : i < (l2.length : Int) := hin.2
            clear ht htl hxt hin
            generalize l2.getD t 0 = y at *
            obtain ⟨r, hr⟩ : ∃ r, r = rk ltI l2 x := ⟨_, rfl⟩
            obtain ⟨LD, hLD⟩ : ∃ LD, LD = l2.drop (rk ltI l2 x) := ⟨_, rfl⟩
            rw [← hLD] at HS HDL
            have HRR : Hid (l2.drop (rk ltI l2 x) = LD) := hLD.symm
            clear hLD
            rw [← hr] at HS HDL HRNK hcr ⊢
            clear hr
            generalize hlm : l2.length = m at *
            have HLM := Lib.hid hlm
            clear hlm
            go_wp2_with fail
            refine HATC.out.mono ?_
            rintro e W1 ⟨rfl, rfl⟩
            go_wp2_with fail
            refine (HLEN.out).mono ?_
            rintro e W1 ⟨rfl, rfl⟩
            go_wp2_with fail
            refine (HRNK.out).mono ?_
            rintro e W1 ⟨rfl, rfl⟩
            clear HATC HLEN HRNK
            go_wp2
            refine wp_noPanic ?_
            refine wp_region_any (by kernel_rfl) ?_
            change wpAny _ _ _ _ _ #[false, false, false, false, false, false, false, false, false, false, false, false, false, false, false, false, false, false] _ (World.drew _)
            replace HS := Lib.hid (HS.out.kept (below_drewN (Below.refl _ _) 1))
            refine wpAny_take (i := 0) (v := ?_) rfl (by kernel_rfl) (by kernel_rfl) (by kernel_rfl) (fun _ _ _ h => h) (Or.inl ⟨by rfl, ?_⟩) ?_
            rotate_left
            · intro w
              go_simp
              with_reducible rfl
            change wpAny _ _ _ _ _ _ (Act.put _ (some 144) _) _
            go_frame
            refine wpAny_take (i := 3) (v := ?_) rfl (by kernel_rfl) (by kernel_rfl) (by kernel_rfl) (fun _ _ _ h => h) (Or.inl ⟨by rfl, ?_⟩) ?_
            rotate_left
            · intro w
              go_simp
              with_reducible rfl
            change wpAny _ _ _ _ _ _ (Act.put _ (some 147) _) _
            go_frame
            refine wpAny_ready (rs := [1]) (by kernel_rfl) (by simp) ?_
            refine AllReady.cons rfl (fun K hK => ?_) AllReady.nil
            go_simp
            refine (stAllI HS.out p v2 l2 (by simp only [List.mem_cons, eq_self, true_or, or_true]) (by have := HL2.out; have := HLM.out; omega)).mono ?_
            rintro e W9 ⟨f1, rfl, hs⟩
            replace HS := Lib.hid hs
            clear hs
            refine hK _ _ ?_
            clear hK K
            go_frame
            refine wpAny_ready (rs := [2]) (by kernel_rfl) (by simp) ?_
            refine AllReady.cons rfl (fun K hK => ?_) AllReady.nil
            go_simp
            refine (stFirstI HS.out f1 noB l2 l2 (by simp only [List.mem_cons, eq_self, true_or, or_true]) 1000 (List.take_of_length_le (by have := HL2.out; have := HLM.out; omega)) (by have := HL2.out; have := HLM.out; omega) (by omega)).mono ?_
            rintro e W9 ⟨af, cf, rfl, hs⟩
            replace HS := Lib.hid hs
            clear hs
            rw [HLM.out]
            refine hK _ _ ?_
            clear hK K
            go_frame
            refine wpAny_ready (rs := [4]) (by kernel_rfl) (by simp) ?_
            refine AllReady.cons rfl (fun K hK => ?_) AllReady.nil
            go_simp
            refine (stSameN HS.out af a2 _ _ _ l2 HLM.out (by simp only [List.mem_cons, eq_self, true_or, or_true]) (by simp only [List.mem_cons, eq_self, true_or, or_true]) (by have := HL2.out; omega)).mono ?_
            rintro e W9 ⟨rfl, hs⟩
            replace HS := Lib.hid hs
            clear hs
            have e9 := (HBK3.out.kept HS.out.bel).x
            refine hK _ _ ?_
            clear hK K
            go_frame
            refine wpAny_take (i := 5) (v := ?_) rfl (by kernel_rfl) (by kernel_rfl) (by kernel_rfl) (fun _ _ _ h => h) (Or.inl ⟨by rfl, ?_⟩) ?_
            rotate_left
            · intro w
              go_simp
              with_reducible rfl
            change wpAny _ _ _ _ _ _ (Act.put _ (some 149) _) _
            go_frame
            refine wpAny_take (i := 6) (v := ?_) rfl (by kernel_rfl) (by kernel_rfl) (by kernel_rfl) (fun _ _ _ h => h) (Or.inl ⟨by rfl, ?_⟩) ?_
            rotate_left
            · intro w
              go_simp
              with_reducible rfl
            change wpAny _ _ _ _ _ _ (Act.put _ (some 150) _) _
            go_frame
            refine wpAny_take (i := 7) (v := ?_) rfl (by kernel_rfl) (by kernel_rfl) (by kernel_rfl) (fun _ _ _ h => h) (Or.inl ⟨by rfl, ?_⟩) ?_
            rotate_left
            · intro w
              go_simp
              with_reducible rfl
            change wpAny _ _ _ _ _ _ (Act.put _ (some 151) _) _
            go_frame
            refine wpAny_take (i := 8) (v := ?_) rfl (by kernel_rfl) (by kernel_rfl) (by kernel_rfl) (fun _ _ _ h => h) (Or.inl ⟨by rfl, ?_⟩) ?_
            rotate_left
            · intro w
              go_simp
              with_reducible rfl
            change wpAny _ _ _ _ _ _ (Act.put _ (some 152) _) _
            go_frame
            refine wpAny_take (i := 12) (v := ?_) rfl (by kernel_rfl) (by kernel_rfl) (by kernel_rfl) (fun _ _ _ h => h) (Or.inl ⟨by rfl, ?_⟩) ?_
            rotate_left
            · intro w
              go_simp
              with_reducible rfl
            change wpAny _ _ _ _ _ _ (Act.put _ (some 156) _) _
            go_frame
            refine wpAny_take (i := 13) (v := ?_) rfl (by kernel_rfl) (by kernel_rfl) (by kernel_rfl) (fun _ _ _ h => h) (Or.inl ⟨by rfl, ?_⟩) ?_
            rotate_left
            · intro w
              go_simp
              with_reducible rfl
            change wpAny _ _ _ _ _ _ (Act.put _ (some 157) _) _
            go_frame
            refine wpAny_take (i := 14) (v := ?_) rfl (by kernel_rfl) (by kernel_rfl) (by kernel_rfl) (fun _ _ _ h => h) (Or.inl ⟨by rfl, ?_⟩) ?_
            rotate_left
            · intro w
              go_simp
              with_reducible rfl
            change wpAny _ _ _ _ _ _ (Act.put _ (some 158) _) _
            go_frame
            refine wpAny_ready (rs := [9]) (by kernel_rfl) (by simp) ?_
            refine AllReady.cons rfl (fun K hK => ?_) AllReady.nil
            go_simp
            refine hK _ _ ?_
            clear hK K
            go_frame
            clear e9
            refine wpAny_ready (rs := [10]) (by kernel_rfl) (by simp) ?_
            refine AllReady.cons rfl (fun K hK => ?_) AllReady.nil
            go_simp
            refine (stFrom HS.out p v2 l2 (by simp only [List.mem_cons, eq_self, true_or, or_true]) (by have := HL2.out; have := HLM.out; omega) x).mono ?_
            rintro e W9 ⟨f2, rfl, hs⟩
            replace HS := Lib.hid hs
            clear hs
            rw [HRR.out] at HS
            refine hK _ _ ?_
            clear hK K
            go_frame
            refine wpAny_ready (rs := [11]) (by kernel_rfl) (by simp) ?_
            refine AllReady.cons rfl (fun K hK => ?_) AllReady.nil
            go_simp
            refine (stFirstI HS.out f2 noB LD LD (by simp only [List.mem_cons, eq_self, true_or, or_true]) 1000 (List.take_of_length_le (by have := HL2.out; have := HDL.out; omega)) (by have := HL2.out; have := HDL.out; omega) (by omega)).mono ?_
            rintro e W9 ⟨ag, cg, rfl, hs⟩
            replace HS := Lib.hid hs
            clear hs
            rw [HDL.out]
            refine hK _ _ ?_
            clear hK K
            go_frame
            refine wpAny_ready (rs := [15]) (by kernel_rfl) (by simp) ?_
            refine AllReady.cons rfl (fun K hK => ?_) AllReady.nil
            go_simp
            refine (stSameN HS.out ag (cutA1 a2 c2 r) _ _ _ LD HDL.out (by simp only [List.mem_cons, eq_self, true_or, or_true]) (by simp only [List.mem_cons, eq_self, true_or, or_true]) (by have := HL2.out; omega)).mono ?_
            rintro e W9 ⟨rfl, hs⟩
            replace HS := Lib.hid hs
            clear hs
            refine hK _ _ ?_
            clear hK K
            go_frame
            refine wpAny_take (i := 16) (v := ?_) rfl (by kernel_rfl) (by kernel_rfl) (by kernel_rfl) (fun _ _ _ h => h) (Or.inl ⟨by rfl, ?_⟩) ?_
            rotate_left
            · intro w
              go_simp
              with_reducible rfl
            change wpAny _ _ _ _ _ _ (Act.put _ (some 160) _) _
            go_frame
            refine wpAny_take (i := 17) (v := ?_) rfl (by kernel_rfl) (by kernel_rfl) (by kernel_rfl) (fun _ _ _ h => h) (Or.inl ⟨by rfl, ?_⟩) ?_
            rotate_left
            · intro w
              go_simp
              with_reducible rfl
            change wpAny _ _ _ _ _ _ (Act.put _ (some 161) _) _
            go_frame
            refine wpAny_done (by kernel_rfl) ?_ _
            have HST9 := Lib.hid (HST3.out.kept HS.out.bel)
            refine noPanic_normal ?_
            clear HS hcr e8
            go_wp2
            go_roundw
            case rel => exact ⟨k + 1, c2, v2, a2, l2, by omega, by omega, by go_num, by rw [HLM.out], by rw [HLM.out]; exact HL2.out, HST9.out⟩
            case measure => simp [intOf]; omega
          · have HATC : Hid (Calls Try.prog 41 #[.pointer (some ⟨p, 0, none⟩), .int .i64 i] wx fun e w' => e = .returned (.tuple #[.int .i64 0, .bool false]) ∧ w' = wx) := by
              have := atI wx p v2 l2 HST3.out.set i
              unfold atLI at this
              rw [if_neg hin, decide_eq_false hin] at this
              exact this
            by_cases hi0 : 0 ≤ i
            · have hi1 : ¬ i < (l2.length : Int) := fun h => hin ⟨hi0, h⟩
              clear hin
              obtain ⟨r, hr⟩ : ∃ r, r = rk ltI l2 x := ⟨_, rfl⟩
              obtain ⟨LD, hLD⟩ : ∃ LD, LD = l2.drop (rk ltI l2 x) := ⟨_, rfl⟩
              rw [← hLD] at HS HDL
              have HRR : Hid (l2.drop (rk ltI l2 x) = LD) := hLD.symm
              clear hLD
              rw [← hr] at HS HDL HRNK hcr ⊢
              clear hr
              generalize hlm : l2.length = m at *
              have HLM := Lib.hid hlm
              clear hlm
              go_wp2_with fail
              refine HATC.out.mono ?_
              rintro e W1 ⟨rfl, rfl⟩
              go_wp2_with fail
              refine (HLEN.out).mono ?_
              rintro e W1 ⟨rfl, rfl⟩
              go_wp2_with fail
              refine (HRNK.out).mono ?_
              rintro e W1 ⟨rfl, rfl⟩
              clear HATC HLEN HRNK
              go_wp2
              refine wp_noPanic ?_
              refine wp_region_any (by kernel_rfl) ?_
              change wpAny _ _ _ _ _ #[false, false, false, false, false, false, false, false, false, false, false, false, false, false, false, false, false, false] _ (World.drew _)
              replace HS := Lib.hid (HS.out.kept (below_drewN (Below.refl _ _) 1))
              refine wpAny_take (i := 0) (v := ?_) rfl (by kernel_rfl) (by kernel_rfl) (by kernel_rfl) (fun _ _ _ h => h) (Or.inl ⟨by rfl, ?_⟩) ?_
              rotate_left
              · intro w
                go_simp
                with_reducible rfl
              change wpAny _ _ _ _ _ _ (Act.put _ (some 144) _) _
              go_frame
              refine wpAny_take (i := 3) (v := ?_) rfl (by kernel_rfl) (by kernel_rfl) (by kernel_rfl) (fun _ _ _ h => h) (Or.inl ⟨by rfl, ?_⟩) ?_
              rotate_left
              · intro w
                go_simp
                with_reducible rfl
              change wpAny _ _ _ _ _ _ (Act.put _ (some 147) _) _
              go_frame
              refine wpAny_ready (rs := [1]) (by kernel_rfl) (by simp) ?_
              refine AllReady.cons rfl (fun K hK => ?_) AllReady.nil
              go_simp
              refine (stAllI HS.out p v2 l2 (by simp only [List.mem_cons, eq_self, true_or, or_true]) (by have := HL2.out; have := HLM.out; omega)).mono ?_
              rintro e W9 ⟨f1, rfl, hs⟩
              replace HS := Lib.hid hs
              clear hs
              refine hK _ _ ?_
              clear hK K
              go_frame
              refine wpAny_ready (rs := [2]) (by kernel_rfl) (by simp) ?_
              refine AllReady.cons rfl (fun K hK => ?_) AllReady.nil
              go_simp
              refine (stFirstI HS.out f1 noB l2 l2 (by simp only [List.mem_cons, eq_self, true_or, or_true]) 1000 (List.take_of_length_le (by have := HL2.out; have := HLM.out; omega)) (by have := HL2.out; have := HLM.out; omega) (by omega)).mono ?_
              rintro e W9 ⟨af, cf, rfl, hs⟩
              replace HS := Lib.hid hs
              clear hs
              rw [HLM.out]
              refine hK _ _ ?_
              clear hK K
              go_frame
              refine wpAny_ready (rs := [4]) (by kernel_rfl) (by simp) ?_
              refine AllReady.cons rfl (fun K hK => ?_) AllReady.nil
              go_simp
              refine (stSameN HS.out af a2 _ _ _ l2 HLM.out (by simp only [List.mem_cons, eq_self, true_or, or_true]) (by simp only [List.mem_cons, eq_self, true_or, or_true]) (by have := HL2.out; omega)).mono ?_
              rintro e W9 ⟨rfl, hs⟩
              replace HS := Lib.hid hs
              clear hs
              have e9 := (HBK3.out.kept HS.out.bel).x
              refine hK _ _ ?_
              clear hK K
              go_frame
              refine wpAny_take (i := 5) (v := ?_) rfl (by kernel_rfl) (by kernel_rfl) (by kernel_rfl) (fun _ _ _ h => h) (Or.inl ⟨by rfl, ?_⟩) ?_
              rotate_left
              · intro w
                go_simp
                with_reducible rfl
              change wpAny _ _ _ _ _ _ (Act.put _ (some 149) _) _
              go_frame
              refine wpAny_take (i := 6) (v := ?_) rfl (by kernel_rfl) (by kernel_rfl) (by kernel_rfl) (fun _ _ _ h => h) (Or.inl ⟨by rfl, ?_⟩) ?_
              rotate_left
              · intro w
                go_simp
                with_reducible rfl
              change wpAny _ _ _ _ _ _ (Act.put _ (some 150) _) _
              go_frame
              refine wpAny_take (i := 7) (v := ?_) rfl (by kernel_rfl) (by kernel_rfl) (by kernel_rfl) (fun _ _ _ h => h) (Or.inl ⟨by rfl, ?_⟩) ?_
              rotate_left
              · intro w
                go_simp
                with_reducible rfl
              change wpAny _ _ _ _ _ _ (Act.put _ (some 151) _) _
              go_frame
              refine wpAny_take (i := 8) (v := ?_) rfl (by kernel_rfl) (by kernel_rfl) (by kernel_rfl) (fun _ _ _ h => h) (Or.inl ⟨by rfl, ?_⟩) ?_
              rotate_left
              · intro w
                go_simp
                with_reducible rfl
              change wpAny _ _ _ _ _ _ (Act.put _ (some 152) _) _
              go_frame
              refine wpAny_take (i := 12) (v := ?_) rfl (by kernel_rfl) (by kernel_rfl) (by kernel_rfl) (fun _ _ _ h => h) (Or.inl ⟨by rfl, ?_⟩) ?_
              rotate_left
              · intro w
                go_simp
                with_reducible rfl
              change wpAny _ _ _ _ _ _ (Act.put _ (some 156) _) _
              go_frame
              refine wpAny_take (i := 13) (v := ?_) rfl (by kernel_rfl) (by kernel_rfl) (by kernel_rfl) (fun _ _ _ h => h) (Or.inl ⟨by rfl, ?_⟩) ?_
              rotate_left
              · intro w
                go_simp
                with_reducible rfl
              change wpAny _ _ _ _ _ _ (Act.put _ (some 157) _) _
              go_frame
              refine wpAny_take (i := 14) (v := ?_) rfl (by kernel_rfl) (by kernel_rfl) (by kernel_rfl) (fun _ _ _ h => h) (Or.inl ⟨by rfl, ?_⟩) ?_
              rotate_left
              · intro w
                go_simp
                with_reducible rfl
              change wpAny _ _ _ _ _ _ (Act.put _ (some 158) _) _
              go_frame
              refine wpAny_ready (rs := [9]) (by kernel_rfl) (by simp) ?_
              refine AllReady.cons rfl (fun K hK => ?_) AllReady.nil
              go_simp
              refine hK _ _ ?_
              clear hK K
              go_frame
              clear e9
              refine wpAny_ready (rs := [10]) (by kernel_rfl) (by simp) ?_
              refine AllReady.cons rfl (fun K hK => ?_) AllReady.nil
              go_simp
              refine (stFrom HS.out p v2 l2 (by simp only [List.mem_cons, eq_self, true_or, or_true]) (by have := HL2.out; have := HLM.out; omega) x).mono ?_
              rintro e W9 ⟨f2, rfl, hs⟩
              replace HS := Lib.hid hs
              clear hs
              rw [HRR.out] at HS
              refine hK _ _ ?_
              clear hK K
              go_frame
              refine wpAny_ready (rs := [11]) (by kernel_rfl) (by simp) ?_
              refine AllReady.cons rfl (fun K hK => ?_) AllReady.nil
              go_simp
              refine (stFirstI HS.out f2 noB LD LD (by simp only [List.mem_cons, eq_self, true_or, or_true]) 1000 (List.take_of_length_le (by have := HL2.out; have := HDL.out; omega)) (by have := HL2.out; have := HDL.out; omega) (by omega)).mono ?_
              rintro e W9 ⟨ag, cg, rfl, hs⟩
              replace HS := Lib.hid hs
              clear hs
              rw [HDL.out]
              refine hK _ _ ?_
              clear hK K
              go_frame
              refine wpAny_ready (rs := [15]) (by kernel_rfl) (by simp) ?_
              refine AllReady.cons rfl (fun K hK => ?_) AllReady.nil
              go_simp
              refine (stSameN HS.out ag (cutA1 a2 c2 r) _ _ _ LD HDL.out (by simp only [List.mem_cons, eq_self, true_or, or_true]) (by simp only [List.mem_cons, eq_self, true_or, or_true]) (by have := HL2.out; omega)).mono ?_
              rintro e W9 ⟨rfl, hs⟩
              replace HS := Lib.hid hs
              clear hs
              refine hK _ _ ?_
              clear hK K
              go_frame
              refine wpAny_take (i := 16) (v := ?_) rfl (by kernel_rfl) (by kernel_rfl) (by kernel_rfl) (fun _ _ _ h => h) (Or.inl ⟨by rfl, ?_⟩) ?_
              rotate_left
              · intro w
                go_simp
                with_reducible rfl
              change wpAny _ _ _ _ _ _ (Act.put _ (some 160) _) _
              go_frame
              refine wpAny_take (i := 17) (v := ?_) rfl (by kernel_rfl) (by kernel_rfl) (by kernel_rfl) (fun _ _ _ h => h) (Or.inl ⟨by rfl, ?_⟩) ?_
              rotate_left
              · intro w
                go_simp
                with_reducible rfl
              change wpAny _ _ _ _ _ _ (Act.put _ (some 161) _) _
              go_frame
              refine wpAny_done (by kernel_rfl) ?_ _
              have HST9 := Lib.hid (HST3.out.kept HS.out.bel)
              refine noPanic_normal ?_
              clear HS hcr e8
              go_wp2
              go_roundw
              case rel => exact ⟨k + 1, c2, v2, a2, l2, by omega, by omega, by go_num, by rw [HLM.out], by rw [HLM.out]; exact HL2.out, HST9.out⟩
              case measure => simp [intOf]; omega
            · clear hin
              obtain ⟨r, hr⟩ : ∃ r, r = rk ltI l2 x := ⟨_, rfl⟩
              obtain ⟨LD, hLD⟩ : ∃ LD, LD = l2.drop (rk ltI l2 x) := ⟨_, rfl⟩
              rw [← hLD] at HS HDL
              have HRR : Hid (l2.drop (rk ltI l2 x) = LD) := hLD.symm
              clear hLD
              rw [← hr] at HS HDL HRNK hcr ⊢
              clear hr
              generalize hlm : l2.length = m at *
              have HLM := Lib.hid hlm
              clear hlm
              go_wp2_with fail
              refine HATC.out.mono ?_
              rintro e W1 ⟨rfl, rfl⟩
              go_wp2_with fail
              refine (HLEN.out).mono ?_
              rintro e W1 ⟨rfl, rfl⟩
              go_wp2_with fail
              refine (HRNK.out).mono ?_
              rintro e W1 ⟨rfl, rfl⟩
              clear HATC HLEN HRNK
              go_wp2
              refine wp_noPanic ?_
              refine wp_region_any (by kernel_rfl) ?_
              change wpAny _ _ _ _ _ #[false, false, false, false, false, false, false, false, false, false, false, false, false, false, false, false, false, false] _ (World.drew _)
              replace HS := Lib.hid (HS.out.kept (below_drewN (Below.refl _ _) 1))
              refine wpAny_take (i := 0) (v := ?_) rfl (by kernel_rfl) (by kernel_rfl) (by kernel_rfl) (fun _ _ _ h => h) (Or.inl ⟨by rfl, ?_⟩) ?_
              rotate_left
              · intro w
                go_simp
                with_reducible rfl
              change wpAny _ _ _ _ _ _ (Act.put _ (some 144) _) _
              go_frame
              refine wpAny_take (i := 3) (v := ?_) rfl (by kernel_rfl) (by kernel_rfl) (by kernel_rfl) (fun _ _ _ h => h) (Or.inl ⟨by rfl, ?_⟩) ?_
              rotate_left
              · intro w
                go_simp
                with_reducible rfl
              change wpAny _ _ _ _ _ _ (Act.put _ (some 147) _) _
              go_frame
              refine wpAny_ready (rs := [1]) (by kernel_rfl) (by simp) ?_
              refine AllReady.cons rfl (fun K hK => ?_) AllReady.nil
              go_simp
              refine (stAllI HS.out p v2 l2 (by simp only [List.mem_cons, eq_self, true_or, or_true]) (by have := HL2.out; have := HLM.out; omega)).mono ?_
              rintro e W9 ⟨f1, rfl, hs⟩
              replace HS := Lib.hid hs
              clear hs
              refine hK _ _ ?_
              clear hK K
              go_frame
              refine wpAny_ready (rs := [2]) (by kernel_rfl) (by simp) ?_
              refine AllReady.cons rfl (fun K hK => ?_) AllReady.nil
              go_simp
              refine (stFirstI HS.out f1 noB l2 l2 (by simp only [List.mem_cons, eq_self, true_or, or_true]) 1000 (List.take_of_length_le (by have := HL2.out; have := HLM.out; omega)) (by have := HL2.out; have := HLM.out; omega) (by omega)).mono ?_
              rintro e W9 ⟨af, cf, rfl, hs⟩
              replace HS := Lib.hid hs
              clear hs
              rw [HLM.out]
              refine hK _ _ ?_
              clear hK K
              go_frame
              refine wpAny_ready (rs := [4]) (by kernel_rfl) (by simp) ?_
              refine AllReady.cons rfl (fun K hK => ?_) AllReady.nil
              go_simp
              refine (stSameN HS.out af a2 _ _ _ l2 HLM.out (by simp only [List.mem_cons, eq_self, true_or, or_true]) (by simp only [List.mem_cons, eq_self, true_or, or_true]) (by have := HL2.out; omega)).mono ?_
              rintro e W9 ⟨rfl, hs⟩
              replace HS := Lib.hid hs
              clear hs
              have e9 := (HBK3.out.kept HS.out.bel).x
              refine hK _ _ ?_
              clear hK K
              go_frame
              refine wpAny_take (i := 5) (v := ?_) rfl (by kernel_rfl) (by kernel_rfl) (by kernel_rfl) (fun _ _ _ h => h) (Or.inl ⟨by rfl, ?_⟩) ?_
              rotate_left
              · intro w
                go_simp
                with_reducible rfl
              change wpAny _ _ _ _ _ _ (Act.put _ (some 149) _) _
              go_frame
              refine wpAny_take (i := 6) (v := ?_) rfl (by kernel_rfl) (by kernel_rfl) (by kernel_rfl) (fun _ _ _ h => h) (Or.inl ⟨by rfl, ?_⟩) ?_
              rotate_left
              · intro w
                go_simp
                with_reducible rfl
              change wpAny _ _ _ _ _ _ (Act.put _ (some 150) _) _
              go_frame
              refine wpAny_take (i := 7) (v := ?_) rfl (by kernel_rfl) (by kernel_rfl) (by kernel_rfl) (fun _ _ _ h => h) (Or.inl ⟨by rfl, ?_⟩) ?_
              rotate_left
              · intro w
                go_simp
                with_reducible rfl
              change wpAny _ _ _ _ _ _ (Act.put _ (some 151) _) _
              go_frame
              refine wpAny_take (i := 8) (v := ?_) rfl (by kernel_rfl) (by kernel_rfl) (by kernel_rfl) (fun _ _ _ h => h) (Or.inl ⟨by rfl, ?_⟩) ?_
              rotate_left
              · intro w
                go_simp
                with_reducible rfl
              change wpAny _ _ _ _ _ _ (Act.put _ (some 152) _) _
              go_frame
              refine wpAny_take (i := 12) (v := ?_) rfl (by kernel_rfl) (by kernel_rfl) (by kernel_rfl) (fun _ _ _ h => h) (Or.inl ⟨by rfl, ?_⟩) ?_
              rotate_left
              · intro w
                go_simp
                with_reducible rfl
              change wpAny _ _ _ _ _ _ (Act.put _ (some 156) _) _
              go_frame
              refine wpAny_take (i := 13) (v := ?_) rfl (by kernel_rfl) (by kernel_rfl) (by kernel_rfl) (fun _ _ _ h => h) (Or.inl ⟨by rfl, ?_⟩) ?_
              rotate_left
              · intro w
                go_simp
                with_reducible rfl
              change wpAny _ _ _ _ _ _ (Act.put _ (some 157) _) _
              go_frame
              refine wpAny_take (i := 14) (v := ?_) rfl (by kernel_rfl) (by kernel_rfl) (by kernel_rfl) (fun _ _ _ h => h) (Or.inl ⟨by rfl, ?_⟩) ?_
              rotate_left
              · intro w
                go_simp
                with_reducible rfl
              change wpAny _ _ _ _ _ _ (Act.put _ (some 158) _) _
              go_frame
              refine wpAny_ready (rs := [9]) (by kernel_rfl) (by simp) ?_
              refine AllReady.cons rfl (fun K hK => ?_) AllReady.nil
              go_simp
              refine hK _ _ ?_
              clear hK K
              go_frame
              clear e9
              refine wpAny_ready (rs := [10]) (by kernel_rfl) (by simp) ?_
              refine AllReady.cons rfl (fun K hK => ?_) AllReady.nil
              go_simp
              refine (stFrom HS.out p v2 l2 (by simp only [List.mem_cons, eq_self, true_or, or_true]) (by have := HL2.out; have := HLM.out; omega) x).mono ?_
              rintro e W9 ⟨f2, rfl, hs⟩
              replace HS := Lib.hid hs
              clear hs
              rw [HRR.out] at HS
              refine hK _ _ ?_
              clear hK K
              go_frame
              refine wpAny_ready (rs := [11]) (by kernel_rfl) (by simp) ?_
              refine AllReady.cons rfl (fun K hK => ?_) AllReady.nil
              go_simp
              refine (stFirstI HS.out f2 noB LD LD (by simp only [List.mem_cons, eq_self, true_or, or_true]) 1000 (List.take_of_length_le (by have := HL2.out; have := HDL.out; omega)) (by have := HL2.out; have := HDL.out; omega) (by omega)).mono ?_
              rintro e W9 ⟨ag, cg, rfl, hs⟩
              replace HS := Lib.hid hs
              clear hs
              rw [HDL.out]
              refine hK _ _ ?_
              clear hK K
              go_frame
              refine wpAny_ready (rs := [15]) (by kernel_rfl) (by simp) ?_
              refine AllReady.cons rfl (fun K hK => ?_) AllReady.nil
              go_simp
              refine (stSameN HS.out ag (cutA1 a2 c2 r) _ _ _ LD HDL.out (by simp only [List.mem_cons, eq_self, true_or, or_true]) (by simp only [List.mem_cons, eq_self, true_or, or_true]) (by have := HL2.out; omega)).mono ?_
              rintro e W9 ⟨rfl, hs⟩
              replace HS := Lib.hid hs
              clear hs
              refine hK _ _ ?_
              clear hK K
              go_frame
              refine wpAny_take (i := 16) (v := ?_) rfl (by kernel_rfl) (by kernel_rfl) (by kernel_rfl) (fun _ _ _ h => h) (Or.inl ⟨by rfl, ?_⟩) ?_
              rotate_left
              · intro w
                go_simp
                with_reducible rfl
              change wpAny _ _ _ _ _ _ (Act.put _ (some 160) _) _
              go_frame
              refine wpAny_take (i := 17) (v := ?_) rfl (by kernel_rfl) (by kernel_rfl) (by kernel_rfl) (fun _ _ _ h => h) (Or.inl ⟨by rfl, ?_⟩) ?_
              rotate_left
              · intro w
                go_simp
                with_reducible rfl
              change wpAny _ _ _ _ _ _ (Act.put _ (some 161) _) _
              go_frame
              refine wpAny_done (by kernel_rfl) ?_ _
              have HST9 := Lib.hid (HST3.out.kept HS.out.bel)
              refine noPanic_normal ?_
              clear HS hcr e8
              go_wp2
              go_roundw
              case rel => exact ⟨k + 1, c2, v2, a2, l2, by omega, by omega, by go_num, by rw [HLM.out], by rw [HLM.out]; exact HL2.out, HST9.out⟩
              case measure => simp [intOf]; omega
    · have HB9 := Lib.hid hst.bel
      have tk : ¬ ((k : Int) < (n : Int) ∧ (k : Int) < 80) := by omega
      by_cases hk1 : (k : Int) < (n : Int)
      · have hk2 : ¬ (k : Int) < 80 := fun h => tk ⟨hk1, h⟩
        clear hst hlt tk
        go_wp2_with (go_at_call 23; refine (HAW.out _).mono ?_; rintro e w' ⟨rfl, hb⟩; have HB10 := Lib.hid (below_next HB9.out hb HB9.out.size); clear hb)
        go_ret
        exact ⟨rfl, HB10.out⟩
      · clear hst hlt tk
        go_wp2_with (go_at_call 23; refine (HAW.out _).mono ?_; rintro e w' ⟨rfl, hb⟩; have HB10 := Lib.hid (below_next HB9.out hb HB9.out.size); clear hb)
        go_ret
        exact ⟨rfl, HB10.out⟩
end Go.Proofs.Ytoifmfdaghmleaa
