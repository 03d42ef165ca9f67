/-
  Texts of this claim, one behind the other.
-/
import Derived.Test.YtjpoebmjfedecaaFmPiecePut
import Derived.Test.YtjpoebmjfedecaaPlainFmTells
import Derived.Test.YtjpoebmjfedecaaRefWalk
import Derived.Test.YtjpoebmjfedecaaFmHitsLPut
import Derived.Test.YtjpoebmjfedecaaBackSame

/-
  All's iterator: the documents, one by one; each is laid anew.
-/
namespace Go.Proofs.Ytjpoebmjfedecaa
open Go.RowKit Go.Shelf
attribute [local go_sem] Oper.semAt_some

def docE (ds : List (List Nat)) (y : Nat × Option Addr) : Array Value := #[.int .i64 (y.1 : Int), .slice y.2 (ds.getD y.1 []).length (ds.getD y.1 []).length]
def docOk (ds : List (List Nat)) (pre : List (Nat × Option Addr)) (y : Nat × Option Addr) (W : World) : Prop :=
  y.1 = pre.length ∧ pre.length < ds.length ∧ Row W y.2 (ds.getD y.1 []).length (byteV (ds.getD y.1 []))
theorem docOk_put {ds : List (List Nat)} (pre : List (Nat × Option Addr)) (y : Nat × Option Addr) (W : World) (l : Nat) (r : Loop) (o : Obj) (h : docOk ds pre y W) (hl : W.heap[l]? = some (.loop r)) : docOk ds pre y (W.putObj l o) :=
  ⟨h.1, h.2.1, row_putLoop h.2.2 o hl⟩
theorem fallf_any (w : World) (bf : Nat) :
    Calls Try.prog 60 #[.pointer (some ⟨bf, 0, none⟩)] w fun e w' => e = .returned (.func (.func 75) #[] #[.pointer (some ⟨w.heap.size, 0, none⟩)]) ∧ w' = w.alloc (.cells #[.pointer (some ⟨bf, 0, none⟩)] 53) := by
  go_enter Try.func60, Try.ntmps60
  go_wp2
  go_ret
  exact ⟨rfl, rfl⟩
theorem nilfA (A : Array Value) (W : World) : (binOp .eql 108 (.func (.func 75) #[] A) .nilFunc).run Try.prog W = .ok (.bool false) W := by kernel_rfl
set_option maxRecDepth 100000 in
set_option maxHeartbeats 2000000 in
theorem fall_any (n : Nat) (hn : 1 ≤ n) (K : Nat → Prop) (w0 : World) (bf : Nat) (ds : List (List Nat)) (hok : NewOk ds) (hf : FmAt w0 bf ds) (hK : ∀ b, b < w0.heap.size → K b) (B1 : Nat) (hB : K B1) (w : World) (hk : Keeps w0 w) (hs : w0.heap.size ≤ w.heap.size) (hc1 : w.cell? ⟨B1, 0, none⟩ = some (.pointer (some ⟨bf, 0, none⟩))) :
    SeqW Fence.wide n Try.prog 75 #[.pointer (some ⟨B1, 0, none⟩)] (docE ds) K (fun xs => xs.length = ds.length) (fun pre => pre.length ≤ ds.length) (docOk ds) w := by
  intro l J Jx W hW hJ hJx hY h0
  have hwf : ∀ f, Fence.wide.fn f = True := fun _ => rfl
  have hkW : Keeps w0 W := fun b hb => (hW.block b (by omega)).trans (hk b hb)
  have hsW : w0.heap.size ≤ W.heap.size := by have := hW.size; omega
  have c1 : W.cell? ⟨B1, 0, none⟩ = some (.pointer (some ⟨bf, 0, none⟩)) := (hW.cell (p := ⟨B1, 0, none⟩) (World.block_lt_of_cell? w _ hc1)).trans hc1
  refine callsIn_of_wp Try.func75 rfl trivial ?_ rfl
  simp only [Try.ntmps75, List.size_toArray, List.length_cons, List.length_nil, Nat.reduceAdd, Nat.reduceSub, Array.replicate_succ, Array.replicate_zero, List.push_toArray, List.append_toArray, List.nil_append, List.cons_append]
  have HY := Lib.hid hY
  have HJ := Lib.hid hJ
  have HJX := Lib.hid hJx
  have H0 := Lib.hid h0
  have HF := Lib.hid hf
  have HKK := Lib.hid hK
  have HKW := Lib.hid hkW
  have HSW := Lib.hid hsW
  have HDN := Lib.hid (fdocs_any W bf ds (hf.keeps hkW hsW))
  have hmany := hok.many
  clear hY hJ hJx h0 hf hK hk hs hW hkW hsW hc1
  gi_wp2
  refine (callsIn_wide.2 HDN.out).mono ?_
  rintro e W1 ⟨rfl, rfl⟩
  clear HDN
  have HC1 := Lib.hid c1
  clear c1
  gi_wp2
  gi_loopw [3, 4, 5, 8] (fun _ _ _ v8 wr => ∃ (k : Nat) (X : Nat → Prop) (pre : List (Nat × Option Addr)), k ≤ ds.length ∧ v8 = .int .i64 (k : Int) ∧ pre.length = k ∧ J X pre wr ∧ Keeps w0 wr ∧ w0.heap.size ≤ wr.heap.size ∧ wr.cell? ⟨B1, 0, none⟩ = some (.pointer (some ⟨bf, 0, none⟩))) (fun _ _ _ v8 _ => ds.length - (intOf v8).toNat)
  case atStart => exact ⟨0, _, [], Nat.zero_le _, rfl, rfl, H0.out, HKW.out, HSW.out, HC1.out⟩
  case round =>
    obtain ⟨k, X, pre, hk, rfl, hpl, hj, hkp, hsz, hc⟩ := hrel
    have HJ0 := Lib.hid hj
    have HPL := Lib.hid hpl
    clear hj
    by_cases hlt : k < ds.length
    · have HG := Lib.hid (fget_any wr bf ds hok (HF.out.keeps hkp hsz) k hlt)
      have HKP := Lib.hid hkp
      have HSZ := Lib.hid hsz
      have HCC := Lib.hid hc
      clear hkp hsz hpl
      gi_wp2_with fail
      refine (callsIn_wide.2 HG.out).mono ?_
      rintro e W2 ⟨a, rfl, hr, hb, -⟩
      obtain ⟨X2, hX2⟩ : ∃ X2 : Nat → Prop, X2 = fun b => X b ∨ (wr.heap.size ≤ b ∧ b < W2.heap.size) := ⟨_, rfl⟩
      have hJ2 : J X2 pre W2 := HJ.out _ _ _ _ _ HJ0.out (StepX.of_below hb) (fun b hb => by rw [hX2] at hb; exact hb)
      obtain ⟨fn, tmps, assign, body, hy, hR⟩ := HY.out X2 pre (k, a) W2 hJ2 ⟨HPL.out.symm, by rw [HPL.out]; exact hlt, hr⟩
      have HYR := Lib.hid hR
      have HKP2 : Hid (Keeps w0 W2) := fun b hb2 => (hb.block b (by have := HSZ.out; omega)).trans (HKP.out b hb2)
      have HSZ2 : Hid (w0.heap.size ≤ W2.heap.size) := Nat.le_trans HSZ.out hb.size
      have HCC2 : Hid (W2.cell? ⟨B1, 0, none⟩ = some (.pointer (some ⟨bf, 0, none⟩))) := (hb.cell (p := ⟨B1, 0, none⟩) (World.block_lt_of_cell? wr _ HCC.out)).trans HCC.out
      unfold docE at hy
      simp only at hy
      generalize (ds.getD k []).length = dl at *
      clear hR hr hb hJ2 hX2 hc HG
      gi_wp2
      refine HYR.out.mono ?_
      rintro e0 W3 ⟨hkx, hkk, (⟨rfl, hJ3⟩ | ⟨rfl, hJx3⟩)⟩
      · have HJ3 := Lib.hid hJ3
        have HK3 : Hid (Keeps w0 W3) := fun b hb2 => (hkk.block b (by have := HSZ2.out; omega) (HKK.out b hb2)).trans (HKP2.out b hb2)
        have HS3 : Hid (w0.heap.size ≤ W3.heap.size) := Nat.le_trans HSZ2.out hkk.size
        have HC3 : Hid (W3.cell? ⟨B1, 0, none⟩ = some (.pointer (some ⟨bf, 0, none⟩))) := (World.cell?_of_block (a := ⟨B1, 0, none⟩) (hkk.block _ (World.block_lt_of_cell? W2 _ HCC2.out) hB)).trans HCC2.out
        clear hJ3 hkk hkx hy
        gi_wp2
        go_roundw
        case rel => exact ⟨k + 1, X2, pre ++ [(k, a)], by omega, by go_num, by rw [List.length_append, List.length_singleton, HPL.out], HJ3.out, HK3.out, HS3.out, HC3.out⟩
        case measure => simp [intOf]; omega
      · have HJ3 := Lib.hid hJx3
        clear hJx3 hkk hkx hy
        gi_wp2
        refine bodyPost_ret (results_none rfl _ _ _) rfl ?_
        exact ⟨⟨_, rfl⟩, .inr ⟨_, _, by rw [List.length_append, List.length_singleton, HPL.out]; omega, HJ3.out⟩⟩
    · obtain rfl : k = ds.length := by omega
      have hd : decide ((ds.length : Int) < (ds.length : Int)) = false := by simp
      clear hkp hsz hc hpl
      gi_wp2
      go_end0
      exact ⟨⟨_, rfl⟩, .inl ⟨_, _, HPL.out, HJ0.out⟩⟩
end Go.Proofs.Ytjpoebmjfedecaa

/-
  The statements' helper docs: what All tells, at most so much.
-/
namespace Go.Proofs.Ytjpoebmjfedecaa
open Go.RowKit Go.Shelf
attribute [local go_sem] Oper.semAt_some

theorem results_cell_cell {fn : Func} {p u : Tmp} {ty ty' : TypeId} (h : fn.results = #[.cell p ty, .cell u ty']) (tmps : Array Value) (P : Program) (w : World) :
    (results fn tmps).run P w =
      ((asAddr (tmps.getD p undef)).run P w).andThen fun a w₁ => ((loadVar ty a).run P w₁).andThen fun v w₂ => ((asAddr (tmps.getD u undef)).run P w₂).andThen fun a' w₃ => ((loadVar ty' a').run P w₃).andThen fun v' w₄ => .ok (.tuple #[v, v']) w₄ := by
  simp only [results, h]
  simp [Sem.run_bind, Result.andThen]
theorem row_kept' {Y : Nat → Prop} {W W' : World} {a : Option Addr} {n : Nat} {f : Nat → Value} (h : Row W a n f) (hk : KeepX Y W W') (hY : n = 0 ∨ Y (bOf a)) : Row W' a n f := by
  refine ⟨h.at_, fun k hkn => ?_⟩
  have h0 := h.cell k hkn
  exact (World.cell?_of_block (a := ⟨bOf a, oOf a + k, none⟩) (hk.block _ (World.block_lt_of_cell? W _ h0) (hY.resolve_left (by omega)))).trans h0
theorem row_not {W : World} {a : Option Addr} {n D : Nat} {f : Nat → Value} {x : Option (List Deferred)} (h : Row W a n f) (hD : W.heap[D]? = some (.deferred x)) : n = 0 ∨ bOf a ≠ D := by
  rcases Nat.eq_zero_or_pos n with h0 | h0
  · exact .inl h0
  · refine .inr fun e => ?_
    have h1 := h.cell 0 h0
    rw [e] at h1
    simp [World.cell?, hD] at h1
def FDocsPost (w : World) (ds : List (List Nat)) (most : Nat) (e : Ending) (w' : World) : Prop :=
  ∃ a cap, e = .returned (.tuple #[.slice a (min most ds.length) cap, .bool true]) ∧ Row w' a (min most ds.length) (strV ds) ∧ Below w.heap.size w w'
theorem row_strs {w : World} {base : Nat} {v : Value} {k : Nat} {ds : List (List Nat)} (h : w.ownsRow base 9 1 v k ((List.range k).map (strV ds))) :
    ∃ a cap, v = .slice a k cap ∧ Row w a k (strV ds) ∧ (k = 0 ∨ base ≤ bOf a) := by
  obtain ⟨a', cap', rfl, hj, hr, hl, _⟩ := Row.of_owns h
  exact ⟨a', cap', rfl, hr.congr fun k hk => by simp [List.getD_eq_getElem?_getD, hk], hl⟩
set_option maxRecDepth 100000 in
set_option maxHeartbeats 2000000 in
theorem fdocsL_any (w : World) (bf : Nat) (ds : List (List Nat)) (hf : FmAt w bf ds) (hok : NewOk ds) (most : Nat) (hmo : most ≤ 2000000) :
    Calls Try.prog 36 #[.pointer (some ⟨bf, 0, none⟩), .int .i64 most] w (FDocsPost w ds most) := by
  refine (callsIn_wide (n := 5)).1 ?_
  have hwf : ∀ f, Fence.wide.fn f = True := fun _ => rfl
  obtain ⟨i0, hi, hz0, hz1, hz2⟩ := info_parts info_str
  refine callsIn_of_wp_marks Try.func36 rfl trivial ?_ rfl
  simp only [Try.ntmps36, List.size_toArray, List.length_cons, List.length_nil, Nat.reduceAdd, Nat.reduceSub, Array.replicate_succ, Array.replicate_zero, List.push_toArray, List.append_toArray, List.nil_append, List.cons_append]
  have hmany := hok.many
  have HF := Lib.hid hf
  have HOK := Lib.hid hok
  clear hf hok
  have hnf := nilfA
  gi_wp2_with (gi_at_call 60; refine (callsIn_wide.2 (fallf_any _ _)).mono ?_; rintro e w' ⟨rfl, rfl⟩)
  have bM := Boxed.new w 3 (.int .i64 most)
  have bR := Boxed.new (w.alloc (.cells #[.int .i64 most] 3)) 40 (.slice none 0 0)
  have bK := Boxed.new ((w.alloc (.cells #[.int .i64 most] 3)).alloc (.cells #[.slice none 0 0] 40)) 4 (.bool false)
  have bO := Boxed.new (((w.alloc (.cells #[.int .i64 most] 3)).alloc (.cells #[.slice none 0 0] 40)).alloc (.cells #[.bool false] 4)) 40 (.slice none 0 0)
  have bN := Boxed.new ((((w.alloc (.cells #[.int .i64 most] 3)).alloc (.cells #[.slice none 0 0] 40)).alloc (.cells #[.bool false] 4)).alloc (.cells #[.slice none 0 0] 40)) 53 (.pointer (some ⟨bf, 0, none⟩))
  simp only [World.size_alloc] at bR bK bO bN
  have bM2 := (((bM.alloc (.cells #[.slice none 0 0] 40)).alloc (.cells #[.bool false] 4)).alloc (.cells #[.slice none 0 0] 40)).alloc (.cells #[.pointer (some ⟨bf, 0, none⟩)] 53)
  have bR2 := ((bR.alloc (.cells #[.bool false] 4)).alloc (.cells #[.slice none 0 0] 40)).alloc (.cells #[.pointer (some ⟨bf, 0, none⟩)] 53)
  have bK2 := (bK.alloc (.cells #[.slice none 0 0] 40)).alloc (.cells #[.pointer (some ⟨bf, 0, none⟩)] 53)
  have bO2 := bO.alloc (.cells #[.pointer (some ⟨bf, 0, none⟩)] 53)
  have hB0 : Below w.heap.size w (((((w.alloc (.cells #[.int .i64 most] 3)).alloc (.cells #[.slice none 0 0] 40)).alloc (.cells #[.bool false] 4)).alloc (.cells #[.slice none 0 0] 40)).alloc (.cells #[.pointer (some ⟨bf, 0, none⟩)] 53)) :=
    (((((Below.refl _ w).alloc (Nat.le_refl _) _).alloc (by simp) _).alloc (by simp; omega) _).alloc (by simp; omega) _).alloc (by simp; omega) _
  have hs3 : (((((w.alloc (.cells #[.int .i64 most] 3)).alloc (.cells #[.slice none 0 0] 40)).alloc (.cells #[.bool false] 4)).alloc (.cells #[.slice none 0 0] 40)).alloc (.cells #[.pointer (some ⟨bf, 0, none⟩)] 53)).heap.size = w.heap.size + 5 := by simp
  clear bM bR bK bO
  generalize (((((w.alloc (.cells #[.int .i64 most] 3)).alloc (.cells #[.slice none 0 0] 40)).alloc (.cells #[.bool false] 4)).alloc (.cells #[.slice none 0 0] 40)).alloc (.cells #[.pointer (some ⟨bf, 0, none⟩)] 53)) = w4 at *
  have HB4 := Lib.hid hB0
  refine wpIn_rangeFunc_W rfl (by omega) (gf := 75) (lb := #[.pointer (some ⟨w.heap.size + 1 + 1 + 1 + 1, 0, none⟩)]) rfl trivial (enters_of Try.func75 (by kernel_rfl) rfl)
    (fall_any 4 (by omega) (fun b => b < w4.heap.size ∧ b ≠ w.heap.size + 1 + 1 + 1) w bf ds HOK.out HF.out (fun b h => ⟨by omega, by omega⟩) (w.heap.size + 1 + 1 + 1 + 1) ⟨by omega, by omega⟩ w4 (Keeps.of_below hB0) (by omega) bN.cell)
    (fun b h => h.1) (Below.refl _ _) (fun _ => rfl)
    (fun X (pre : List (Nat × Option Addr)) W => (∃ v, (Boxed W (w.heap.size + 1 + 1 + 1) 40 v ∧ ¬ X (w.heap.size + 1 + 1 + 1)) ∧ W.ownsRow (w.heap.size + 5) 9 1 v pre.length ((List.range pre.length).map (strV ds)) ∧ (∀ g, v.ownBlock = some g → ¬ X g) ∧ pre.length ≤ most) ∧ (Boxed W w.heap.size 3 (.int .i64 (most : Int)) ∧ ¬ X w.heap.size) ∧ (Boxed W (w.heap.size + 1) 40 (.slice none 0 0) ∧ ¬ X (w.heap.size + 1)) ∧ (Boxed W (w.heap.size + 1 + 1) 4 (.bool false) ∧ ¬ X (w.heap.size + 1 + 1)) ∧ (Below w.heap.size w4 W ∧ ∀ b, X b → w.heap.size ≤ b) ∧ ∀ b, X b → b < W.heap.size)
    (fun c X (pre : List (Nat × Option Addr)) W => (∃ v, (Boxed W (w.heap.size + 1 + 1 + 1) 40 v ∧ ¬ X (w.heap.size + 1 + 1 + 1)) ∧ W.ownsRow (w.heap.size + 5) 9 1 v most ((List.range most).map (strV ds)) ∧ (∀ g, v.ownBlock = some g → ¬ X g) ∧ (c = .exit 0 ∧ most < pre.length)) ∧ (Boxed W (w.heap.size + 1) 40 (.slice none 0 0) ∧ ¬ X (w.heap.size + 1)) ∧ (Boxed W (w.heap.size + 1 + 1) 4 (.bool false) ∧ ¬ X (w.heap.size + 1 + 1)) ∧ (Below w.heap.size w4 W ∧ ∀ b, X b → w.heap.size ≤ b))
    (Fr.and (Fr.row (w.heap.size + 1 + 1 + 1) 40 (w.heap.size + 5) 9 1 (fun pre : List (Nat × Option Addr) => pre.length) (fun pre => (List.range pre.length).map (strV ds)) (fun pre => pre.length ≤ most)) (Fr.and (Fr.boxed w.heap.size 3 (fun _ => .int .i64 (most : Int))) (Fr.and (Fr.boxed (w.heap.size + 1) 40 (fun _ => .slice none 0 0)) (Fr.and (Fr.boxed (w.heap.size + 1 + 1) 4 (fun _ => .bool false)) (Fr.and (Fr.below (by omega)) Fr.bd)))))
    (fun c => Fr.and (Fr.row (w.heap.size + 1 + 1 + 1) 40 (w.heap.size + 5) 9 1 (fun _ : List (Nat × Option Addr) => most) (fun _ => (List.range most).map (strV ds)) (fun pre => c = .exit 0 ∧ most < pre.length)) (Fr.and (Fr.boxed (w.heap.size + 1) 40 (fun _ => .slice none 0 0)) (Fr.and (Fr.boxed (w.heap.size + 1 + 1) 4 (fun _ => .bool false)) (Fr.below (by omega)))))
    ⟨⟨_, ⟨bO2, fun h => h⟩, World.ownsRow_nil _ _ _ _, fun g h => by simp [Value.ownBlock] at h, Nat.zero_le _⟩, ⟨bM2, fun h => h⟩, ⟨bR2, fun h => h⟩, ⟨bK2, fun h => h⟩, ⟨Below.refl _ _, fun b h => h.elim⟩, fun b h => h.elim⟩
    (fun x => { tmps := #[.pointer (some ⟨bf, 0, none⟩), .int .i64 most, undef, .pointer (some ⟨w.heap.size, 0, none⟩), .pointer (some ⟨w.heap.size + 1, 0, none⟩), .pointer (some ⟨w.heap.size + 1 + 1, 0, none⟩), .pointer (some ⟨w.heap.size + 1 + 1 + 1, 0, none⟩), .func (.func 75) #[] #[.pointer (some ⟨w.heap.size + 1 + 1 + 1 + 1, 0, none⟩)], .int .i64 (x.1 : Int), .slice x.2 (ds.getD x.1 []).length (ds.getD x.1 []).length, .pointer (some ⟨bf, 0, none⟩), .func (.func 75) #[] #[.pointer (some ⟨w.heap.size + 1 + 1 + 1 + 1, 0, none⟩)], .func (.func 75) #[] #[.pointer (some ⟨w.heap.size + 1 + 1 + 1 + 1, 0, none⟩)], .bool false, .func (.func 75) #[] #[.pointer (some ⟨w.heap.size + 1 + 1 + 1 + 1, 0, none⟩)], .int .i64 (x.1 : Int), .slice x.2 (ds.getD x.1 []).length (ds.getD x.1 []).length, undef, undef, undef, undef, undef, undef, undef, undef, undef, undef, undef, undef, undef, undef], defers := [] }) docOk_put ?assign ?body ?done ?stop
  case assign =>
    intro l y W G hG
    unfold docE
    gi_wp2
    exact hG
  case body =>
    rintro l X pre y W - hXl ⟨⟨v, hv, hrow, hg, hle⟩, hM, hRb, hKb, ⟨hB, hge⟩, hbd⟩ ⟨hy1, hy2, hy3⟩
    obtain ⟨y1, y2⟩ := y
    simp only at hy1 hy3
    subst hy1
    have hc := hv.1.cell
    have hcM := hM.1.cell
    have hs := hB.size
    have hcv := conv_str W y2 (ds.getD pre.length []) (ds.getD pre.length []).length hy3
    obtain ⟨a', cap', rfl⟩ : ∃ a' cap', v = .slice a' pre.length cap' := by
      rcases hrow.2 with ⟨rfl, h⟩ | ⟨g, cap, cur, rfl, _⟩
      · exact ⟨none, 0, by rw [h]⟩
      · exact ⟨_, _, rfl⟩
    have HV := Lib.hid hv
    have HM2 := Lib.hid hM
    have HRB := Lib.hid hRb
    have HKB := Lib.hid hKb
    have HO := Lib.hid hrow
    have HG := Lib.hid hg
    have HBD := Lib.hid hbd
    have HB5 := Lib.hid hB
    have HGE := Lib.hid hge
    have HNX : Hid ((List.range (pre.length + 1)).map (strV ds) = (List.range pre.length).map (strV ds) ++ [.string (sB (ds.getD pre.length []))]) := by
      show _ = _
      rw [List.range_succ, List.map_append]; rfl
    clear hv hM hRb hKb hrow hg hbd hB hge hy3 bM2 bR2 bK2 bO2 bN
    generalize sB (ds.getD pre.length []) = sd at *
    generalize (ds.getD pre.length []).length = dl at *
    by_cases hge2 : (most : Int) ≤ (pre.length : Int)
    · obtain rfl : most = pre.length := by omega
      clear hge2
      gi_wp2
      exact ⟨KeepX.refl _ _, KeepX.refl _ _, ⟨_, HV.out, HO.out, HG.out, rfl, by simp⟩, HRB.out, HKB.out, HB5.out, HGE.out⟩
    · gi_wp2_with (gi_at_builtin; refine wpListIn_append_own_at _ rfl _ _ 40 rfl (w.heap.size + 5) 9 i0 (.string ByteArray.empty) 1 16 Try.underlying40 hi hz0 hz1 hz2 rfl (by decide) _ pre.length _ rfl (HO.out.alloc _) ⟨W.heap.size, 0, none⟩ 1 1 [.string sd] rfl rfl (cell_one_new _ _ _) (by simp [Value.oneCell']) (by simp only [maxLen]; omega) (by omega) (by simp; omega) ?_; intro v' w1 hown' hgrow _ hat; obtain ⟨g', cap2, rfl⟩ := ownsRow_succ hown'; obtain ⟨hv1, hv2, hr2, hg2, hk2, hb2, hb3, hs2⟩ := boxed_appX HV.out HO.out HG.out HBD.out (by omega) (by omega) hown' hgrow hat; have hc1 := hv1.cell; have hf1 := hv1.frozen; have HV2 := Lib.hid hv2; have HR2 := Lib.hid hr2; have HG2 := Lib.hid hg2; have HK2 := Lib.hid hk2; have HBB := Lib.hid hb2; have HBW := Lib.hid hb3; have HSS := Lib.hid hs2; clear hv1 hv2 hr2 hg2 hk2 hb2 hb3 hs2 hown' hgrow hat)
      gi_wp2
      refine ⟨HK2.out, ⟨HSS.out, fun b hb hk => HBB.out b (by omega) hk.2⟩, ⟨_, HV2.out, ?_, HG2.out, by simp; omega⟩, ⟨(HBB.out _ (by omega) (by omega)).trans HM2.out.1, HM2.out.2⟩, ⟨(HBB.out _ (by omega) (by omega)).trans HRB.out.1, HRB.out.2⟩, ⟨(HBB.out _ (by omega) (by omega)).trans HKB.out.1, HKB.out.2⟩, ⟨HB5.out.trans (HBW.out _ (by omega)), HGE.out⟩, fun b hb => Nat.lt_of_lt_of_le (HBD.out b hb) HSS.out⟩
      rw [List.length_append, List.length_singleton, HNX.out]
      exact HR2.out
  case done =>
    rintro D X xs W hD hXD hxs ⟨⟨v, hv, hrow, hg, hle⟩, hM, hRb, hKb, ⟨hB, hge⟩, hbd⟩ hK
    rw [hxs] at hrow hle
    have hmn : min most ds.length = ds.length := by omega
    obtain ⟨a', cap', rfl, hrw, hlw⟩ := row_strs hrow
    have HNO := Lib.hid (row_not hrw hK)
    have HRow := Lib.hid hrw
    have HLW := Lib.hid hlw
    have HB2 := Lib.hid hB
    have HK := Lib.hid hK
    have HRb := Lib.hid hRb
    have HKb := Lib.hid hKb
    have hc := hv.1.cell
    have hcR := hRb.1.cell
    have hcK := hKb.1.cell
    have hfR := hRb.1.frozen
    have hfK := hKb.1.frozen
    have HDR : Hid (D ≠ w.heap.size + 1) := fun e => hRb.2 (e ▸ hXD)
    have HDK : Hid (D ≠ w.heap.size + 1 + 1) := fun e => hKb.2 (e ▸ hXD)
    clear hrow hrw hlw hB hK hRb hKb hv hM hg hge hbd
    gi_wp2
    have hK2 : ((W.setCell ⟨w.heap.size + 1, 0, none⟩ (Value.slice a' ds.length cap')).setCell ⟨w.heap.size + 1 + 1, 0, none⟩ (Value.bool true)).heap[D]? = some (.deferred (some [])) :=
      (Below.heap_setCell _ _ _ D HDK.out).trans ((Below.heap_setCell _ _ _ D HDR.out).trans HK.out)
    refine ⟨by simp, .inl ⟨_, _, rfl, run_takeDeferred hK2, ?_⟩⟩
    have q1 : Boxed ((W.setCell ⟨w.heap.size + 1, 0, none⟩ (Value.slice a' ds.length cap')).setCell ⟨w.heap.size + 1 + 1, 0, none⟩ (Value.bool true)) (w.heap.size + 1) 40 (Value.slice a' ds.length cap') := (HRb.out.1.set _).other (by omega) _
    have q2 : Boxed ((W.setCell ⟨w.heap.size + 1, 0, none⟩ (Value.slice a' ds.length cap')).setCell ⟨w.heap.size + 1 + 1, 0, none⟩ (Value.bool true)) (w.heap.size + 1 + 1) 4 (Value.bool true) := (HKb.out.1.other (by omega) _).set _
    have q3 := (show Boxed (((W.setCell ⟨w.heap.size + 1, 0, none⟩ (Value.slice a' ds.length cap')).setCell ⟨w.heap.size + 1 + 1, 0, none⟩ (Value.bool true)).putObj D (.deferred none)) (w.heap.size + 1) 40 _ from (World.putObj_heap_other HDR.out.symm).trans q1).cell
    have q4 := (show Boxed (((W.setCell ⟨w.heap.size + 1, 0, none⟩ (Value.slice a' ds.length cap')).setCell ⟨w.heap.size + 1 + 1, 0, none⟩ (Value.bool true)).putObj D (.deferred none)) (w.heap.size + 1 + 1) 4 _ from (World.putObj_heap_other HDK.out.symm).trans q2).cell
    have hkx : KeepX (fun b => b ≠ w.heap.size + 1 ∧ b ≠ w.heap.size + 1 + 1 ∧ b ≠ D) W (((W.setCell ⟨w.heap.size + 1, 0, none⟩ (Value.slice a' ds.length cap')).setCell ⟨w.heap.size + 1 + 1, 0, none⟩ (Value.bool true)).putObj D (.deferred none)) :=
      ((KeepX.setCell W ⟨w.heap.size + 1, 0, none⟩ _ (fun h => h.1 rfl)).trans (KeepX.setCell _ ⟨w.heap.size + 1 + 1, 0, none⟩ _ (fun h => h.2.1 rfl))).trans (KeepX.putObj _ D _ (fun h => h.2.2 rfl))
    have hfr := row_kept' HRow.out hkx (by
      rcases HLW.out with h | h
      · exact .inl h
      · rcases HNO.out with h2 | h2
        · exact .inl h2
        · exact .inr ⟨by omega, by omega, h2⟩)
    have hfb : Below w.heap.size w (((W.setCell ⟨w.heap.size + 1, 0, none⟩ (Value.slice a' ds.length cap')).setCell ⟨w.heap.size + 1 + 1, 0, none⟩ (Value.bool true)).putObj D (.deferred none)) :=
      (((HB4.out.trans HB2.out).setCell (p := ⟨w.heap.size + 1, 0, none⟩) (by show w.heap.size ≤ w.heap.size + 1; omega) _).setCell (p := ⟨w.heap.size + 1 + 1, 0, none⟩) (by show w.heap.size ≤ w.heap.size + 1 + 1; omega) _).trans (belowK_b (w := w) (Nat.le_refl _) _ D _ _ (by omega) hK2 rfl rfl)
    refine ⟨.tuple #[.slice a' ds.length cap', .bool true], ?_, a', cap', by rw [hmn], by rw [hmn]; exact hfr, hfb⟩
    rw [results_cell_cell rfl]
    go_simp
  case stop =>
    rintro D X c pre W hD hXD hpre ⟨⟨v, hv, hrow, hg, rfl, hlt⟩, hRb, hKb, hB, hge⟩ hK
    have hmn : min most ds.length = most := by omega
    have hM := hK
    have hbd := hK
    obtain ⟨a', cap', rfl, hrw, hlw⟩ := row_strs hrow
    have HNO := Lib.hid (row_not hrw hK)
    have HRow := Lib.hid hrw
    have HLW := Lib.hid hlw
    have HB2 := Lib.hid hB
    have HK := Lib.hid hK
    have HRb := Lib.hid hRb
    have HKb := Lib.hid hKb
    have hc := hv.1.cell
    have hcR := hRb.1.cell
    have hcK := hKb.1.cell
    have hfR := hRb.1.frozen
    have hfK := hKb.1.frozen
    have HDR : Hid (D ≠ w.heap.size + 1) := fun e => hRb.2 (e ▸ hXD)
    have HDK : Hid (D ≠ w.heap.size + 1 + 1) := fun e => hKb.2 (e ▸ hXD)
    clear hrow hrw hlw hB hK hRb hKb hv hM hg hge hbd
    gi_wp2
    have hK2 : ((W.setCell ⟨w.heap.size + 1, 0, none⟩ (Value.slice a' most cap')).setCell ⟨w.heap.size + 1 + 1, 0, none⟩ (Value.bool true)).heap[D]? = some (.deferred (some [])) :=
      (Below.heap_setCell _ _ _ D HDK.out).trans ((Below.heap_setCell _ _ _ D HDR.out).trans HK.out)
    refine ⟨by simp, .inl ⟨_, _, rfl, run_takeDeferred hK2, ?_⟩⟩
    have q1 : Boxed ((W.setCell ⟨w.heap.size + 1, 0, none⟩ (Value.slice a' most cap')).setCell ⟨w.heap.size + 1 + 1, 0, none⟩ (Value.bool true)) (w.heap.size + 1) 40 (Value.slice a' most cap') := (HRb.out.1.set _).other (by omega) _
    have q2 : Boxed ((W.setCell ⟨w.heap.size + 1, 0, none⟩ (Value.slice a' most cap')).setCell ⟨w.heap.size + 1 + 1, 0, none⟩ (Value.bool true)) (w.heap.size + 1 + 1) 4 (Value.bool true) := (HKb.out.1.other (by omega) _).set _
    have q3 := (show Boxed (((W.setCell ⟨w.heap.size + 1, 0, none⟩ (Value.slice a' most cap')).setCell ⟨w.heap.size + 1 + 1, 0, none⟩ (Value.bool true)).putObj D (.deferred none)) (w.heap.size + 1) 40 _ from (World.putObj_heap_other HDR.out.symm).trans q1).cell
    have q4 := (show Boxed (((W.setCell ⟨w.heap.size + 1, 0, none⟩ (Value.slice a' most cap')).setCell ⟨w.heap.size + 1 + 1, 0, none⟩ (Value.bool true)).putObj D (.deferred none)) (w.heap.size + 1 + 1) 4 _ from (World.putObj_heap_other HDK.out.symm).trans q2).cell
    have hkx : KeepX (fun b => b ≠ w.heap.size + 1 ∧ b ≠ w.heap.size + 1 + 1 ∧ b ≠ D) W (((W.setCell ⟨w.heap.size + 1, 0, none⟩ (Value.slice a' most cap')).setCell ⟨w.heap.size + 1 + 1, 0, none⟩ (Value.bool true)).putObj D (.deferred none)) :=
      ((KeepX.setCell W ⟨w.heap.size + 1, 0, none⟩ _ (fun h => h.1 rfl)).trans (KeepX.setCell _ ⟨w.heap.size + 1 + 1, 0, none⟩ _ (fun h => h.2.1 rfl))).trans (KeepX.putObj _ D _ (fun h => h.2.2 rfl))
    have hfr := row_kept' HRow.out hkx (by
      rcases HLW.out with h | h
      · exact .inl h
      · rcases HNO.out with h2 | h2
        · exact .inl h2
        · exact .inr ⟨by omega, by omega, h2⟩)
    have hfb : Below w.heap.size w (((W.setCell ⟨w.heap.size + 1, 0, none⟩ (Value.slice a' most cap')).setCell ⟨w.heap.size + 1 + 1, 0, none⟩ (Value.bool true)).putObj D (.deferred none)) :=
      (((HB4.out.trans HB2.out).setCell (p := ⟨w.heap.size + 1, 0, none⟩) (by show w.heap.size ≤ w.heap.size + 1; omega) _).setCell (p := ⟨w.heap.size + 1 + 1, 0, none⟩) (by show w.heap.size ≤ w.heap.size + 1 + 1; omega) _).trans (belowK_b (w := w) (Nat.le_refl _) _ D _ _ (by omega) hK2 rfl rfl)
    refine ⟨.tuple #[.slice a' most cap', .bool true], ?_, a', cap', by rw [hmn], by rw [hmn]; exact hfr, hfb⟩
    rw [results_cell_cell rfl]
    go_simp
end Go.Proofs.Ytjpoebmjfedecaa

/-
  What an index of documents tells, at any numbers: documents, pieces, counts, symbols; the reference's Find, at any text.
-/
namespace Go.Proofs.Ytjpoebmjfedecaa
open Go.RowKit

/-- what a document's number tells -/
def whL (ds : List (List Nat)) (doc : Int) : List Nat := if 0 ≤ doc ∧ doc < (ds.length : Int) then ds.getD doc.toNat [] else []
def FGetPost (w : World) (ds : List (List Nat)) (doc : Int) (e : Ending) (w' : World) : Prop :=
  ∃ a, e = .returned (.tuple #[.slice a (whL ds doc).length (whL ds doc).length, .bool (decide (0 ≤ doc ∧ doc < (ds.length : Int)))]) ∧ Row w' a (whL ds doc).length (byteV (whL ds doc)) ∧ Below w.heap.size w w'
theorem fget_all (w : World) (bf : Nat) (ds : List (List Nat)) (hok : NewOk ds) (h : FmAt w bf ds) (doc : Int) :
    Calls Try.prog 35 #[.pointer (some ⟨bf, 0, none⟩), .int .i64 doc] w (FGetPost w ds doc) := by
  by_cases hd : 0 ≤ doc ∧ doc < (ds.length : Int)
  · obtain ⟨j, rfl⟩ : ∃ j : Nat, doc = (j : Int) := ⟨doc.toNat, by omega⟩
    have e1 : whL ds (j : Int) = ds.getD j [] := by unfold whL; rw [if_pos hd, Int.toNat_natCast]
    refine (fget_any w bf ds hok h j (by omega)).mono ?_
    rintro e w' ⟨a, rfl, hr, hb, -⟩
    unfold FGetPost
    rw [e1, decide_eq_true hd]
    exact ⟨a, rfl, hr, hb⟩
  · have e1 : whL ds doc = [] := if_neg hd
    refine (fget_no w bf ds h doc (by omega)).mono ?_
    rintro e w' ⟨rfl, hb⟩
    unfold FGetPost
    rw [e1, decide_eq_false hd]
    exact ⟨none, rfl, Row.nil _ _ _, hb⟩
set_option maxRecDepth 100000 in
set_option maxHeartbeats 400000 in
theorem fpiece_no (w : World) (bf : Nat) (ds : List (List Nat)) (hok : NewOk ds) (h : FmAt w bf ds) (doc k m : Int) (hn : ¬ (0 ≤ doc ∧ doc < (ds.length : Int) ∧ 0 ≤ k ∧ 0 ≤ m)) :
    Calls Try.prog 29 #[.pointer (some ⟨bf, 0, none⟩), .int .i64 doc, .int .i64 k, .int .i64 m] w fun e w' => e = .returned (.tuple #[.slice none 0 0, .bool false]) ∧ Below w.heap.size w w' := by
  by_cases hd : 0 ≤ doc ∧ doc < (ds.length : Int)
  · obtain ⟨j, rfl⟩ : ∃ j : Nat, doc = (j : Int) := ⟨doc.toNat, by omega⟩
    have HG := Lib.hid (fget_any w bf ds hok h j (by omega))
    by_cases hk : k < 0
    · clear h hn hd
      go_enter Try.func29, Try.ntmps29
      go_wp2_with fail
      refine HG.out.mono ?_
      rintro e w2 ⟨a, rfl, hr, hb, -⟩
      go_wp2
      go_ret2
      exact ⟨rfl, hb⟩
    · have hk2 : decide (k < 0) = false := by simp; omega
      have hm : m < 0 := by omega
      clear h hn hd hk
      go_enter Try.func29, Try.ntmps29
      go_wp2_with fail
      refine HG.out.mono ?_
      rintro e w2 ⟨a, rfl, hr, hb, -⟩
      go_wp2
      go_ret2
      exact ⟨rfl, hb⟩
  · have HG := Lib.hid (fget_no w bf ds h doc (by omega))
    clear h hn hd
    go_enter Try.func29, Try.ntmps29
    go_wp2_with fail
    refine HG.out.mono ?_
    rintro e w2 ⟨rfl, hb⟩
    go_wp2
    go_ret2
    exact ⟨rfl, hb⟩
/-- what three numbers tell -/
def pcL (ds : List (List Nat)) (doc k m : Int) : List Nat := if 0 ≤ doc ∧ doc < (ds.length : Int) ∧ 0 ≤ k ∧ 0 ≤ m then pieceL (ds.getD doc.toNat []) k.toNat m.toNat else []
def FPiecePost (w : World) (ds : List (List Nat)) (doc k m : Int) (e : Ending) (w' : World) : Prop :=
  ∃ a, e = .returned (.tuple #[.slice a (pcL ds doc k m).length (pcL ds doc k m).length, .bool (decide (0 ≤ doc ∧ doc < (ds.length : Int) ∧ 0 ≤ k ∧ 0 ≤ m))]) ∧ Row w' a (pcL ds doc k m).length (byteV (pcL ds doc k m)) ∧ Below w.heap.size w w'
theorem fpiece_all (w : World) (bf : Nat) (ds : List (List Nat)) (hok : NewOk ds) (h : FmAt w bf ds) (doc k m : Int) (hk : (Lit.int .i64 k).wf = true) (hm : (Lit.int .i64 m).wf = true) :
    Calls Try.prog 29 #[.pointer (some ⟨bf, 0, none⟩), .int .i64 doc, .int .i64 k, .int .i64 m] w (FPiecePost w ds doc k m) := by
  by_cases hd : 0 ≤ doc ∧ doc < (ds.length : Int) ∧ 0 ≤ k ∧ 0 ≤ m
  · obtain ⟨j, rfl⟩ : ∃ j : Nat, doc = (j : Int) := ⟨doc.toNat, by omega⟩
    obtain ⟨k', rfl⟩ : ∃ j : Nat, k = (j : Int) := ⟨k.toNat, by omega⟩
    obtain ⟨m', rfl⟩ : ∃ j : Nat, m = (j : Int) := ⟨m.toNat, by omega⟩
    have e1 : pcL ds (j : Int) (k' : Int) (m' : Int) = pieceL (ds.getD j []) k' m' := by unfold pcL; rw [if_pos hd, Int.toNat_natCast, Int.toNat_natCast, Int.toNat_natCast]
    refine (fpiece_any w bf ds hok h j (by omega) k' m' hk hm).mono ?_
    rintro e w' ⟨a, rfl, hr, hb⟩
    unfold FPiecePost
    rw [e1, decide_eq_true hd]
    exact ⟨a, rfl, hr, hb⟩
  · have e1 : pcL ds doc k m = [] := if_neg hd
    refine (fpiece_no w bf ds hok h doc k m hd).mono ?_
    rintro e w' ⟨rfl, hb⟩
    unfold FPiecePost
    rw [e1, decide_eq_false hd]
    exact ⟨none, rfl, Row.nil _ _ _, hb⟩
theorem locL_len (ds : List (List Nat)) (hby : ∀ d ∈ ds, ∀ c ∈ d, c < 256) (P : List Nat) (hne : 0 < P.length) : (locL ds P).length = (bkR (bwtOf ds) P).2 - (bkR (bwtOf ds) P).1 := by
  have hn : P ≠ [] := fun e => by rw [e] at hne; exact absurd hne (by simp)
  rw [show locL ds P = hitL ds P from if_neg hn]
  exact hitL_len ds P _ _ (bkR_is ds hby P)
theorem fcount_all (w : World) (bf : Nat) (ds : List (List Nat)) (hok : NewOk ds) (h : FmAt w bf ds) (a : Option Addr) (cp : Nat) (P : List Nat) (hP : P.length ≤ 100000) (hPb : ∀ c ∈ P, c < 256) (hr : Row w a P.length (byteV P)) :
    Calls Try.prog 27 #[.pointer (some ⟨bf, 0, none⟩), .slice a P.length cp] w fun e w' => e = .returned (.int .i64 (((locL ds P).length : Nat) : Int)) ∧ Below w.heap.size w w' := by
  by_cases hne : 0 < P.length
  · rw [locL_len ds hok.byte P hne]
    exact fcount_any w bf ds h a cp P hP hPb hr hne
  · obtain rfl : P = [] := List.eq_nil_of_length_eq_zero (by omega)
    refine (fcount_nil w bf ds h a cp).mono ?_
    rintro e w' ⟨rfl, rfl⟩
    exact ⟨by rw [show locL ds [] = [] from if_pos rfl]; rfl, Below.refl _ _⟩
set_option maxRecDepth 100000 in
set_option maxHeartbeats 400000 in
theorem fsyms_any (w : World) (bf : Nat) (ds : List (List Nat)) (h : FmAt w bf ds) :
    Calls Try.prog 39 #[.pointer (some ⟨bf, 0, none⟩)] w (BSymsPost w (bwtOf ds)) := by
  obtain ⟨bx, bm, al, cap, Y, bp, bq, vS, vZ, h⟩ := h
  have c0 := h.c0
  have HL := Lib.hid (bsyms_any w bx bm al cap _ h.ix)
  clear h
  go_enter Try.func39, Try.ntmps39
  go_wp2_with fail
  refine HL.out.mono ?_
  rintro e w1 ⟨a, rfl, hr, hb⟩
  have HR := Lib.hid hr
  clear hr
  go_wp2
  go_ret
  exact ⟨a, rfl, HR.out, hb⟩
theorem reffind_nil (w : World) (a : Option Addr) (n cap : Nat) :
    Calls Try.prog 33 #[.slice a n cap, .string (sB [])] w fun e w' => e = .returned (.slice none 0 0) ∧ w = w' := by
  have hs2 : (sB []) = ByteArray.empty := by unfold sB; rfl
  rw [hs2]
  clear hs2
  go_enter Try.func33, Try.ntmps33
  go_wp2
  refine wp_loop_rounds 1 ?_
  rw [rounds_succ]
  go_wp2
  all_goals (go_ret; exact ⟨rfl, rfl⟩)
def RFindPost (w : World) (ds : List (List Nat)) (P : List Nat) (e : Ending) (w' : World) : Prop :=
  ∃ a cap, e = .returned (.slice a (locL ds P).length cap) ∧ HRow w' a (locL ds P) ∧ Below w.heap.size w w' ∧ (locL ds P).length ≤ cap ∧ (a = none → cap = 0)
theorem reffind_all (w : World) (a : Option Addr) (cap : Nat) (ds : List (List Nat)) (hr : Row w a ds.length (strV ds)) (hby : ∀ d ∈ ds, ∀ c ∈ d, c < 256) (hl : (rowOf ds).length ≤ 60000) (P : List Nat) (hpb : ∀ c ∈ P, c < 256) (hpl : P.length ≤ 100000) :
    Calls Try.prog 33 #[.slice a ds.length cap, .string (sB P)] w (RFindPost w ds P) := by
  cases P with
  | nil =>
    have e0 : locL ds [] = [] := if_pos rfl
    refine (reffind_nil w a _ cap).mono ?_
    rintro e w' ⟨rfl, rfl⟩
    unfold RFindPost
    rw [e0]
    exact ⟨none, 0, rfl, HRow.nil _ _, Below.refl _ _, Nat.le_refl _, fun _ => rfl⟩
  | cons c P =>
    have e0 : locL ds (c :: P) = hitL ds (c :: P) := if_neg (by simp)
    refine (reffind_full w a cap ds hr hby hl (c :: P) hpb hpl (by simp)).mono ?_
    rintro e w' ⟨a', cap', rfl, h1, h2, h3, h4⟩
    unfold RFindPost
    rw [e0]
    exact ⟨a', cap', rfl, h1, h2, h3, h4⟩
theorem cut_toH (a : Option Addr) (n cap k : Nat) (h : k ≤ n) (hc : n ≤ cap) (h0 : a = none → cap = 0) : ∀ W : World, (Instr.slice 44 (.slice a n cap) none (some (.int .i64 (k : Int))) none).run Try.prog W = .ok (.slice a k cap) W := by
  intro W
  cases a with
  | none =>
    obtain rfl : cap = 0 := h0 rfl
    obtain rfl : n = 0 := by omega
    obtain rfl : k = 0 := by omega
    simp [Instr.slice, run_underlying Try.underlying44, Instr.sliceBounds, run_sliceBound]
  | some ad =>
    simp [Instr.slice, run_underlying Try.underlying44, Instr.sliceBounds, run_sliceBound, show (0 : Int) ≤ k by omega, show (k : Int) ≤ cap by omega]
    intro _
    cases ad
    simp [Addr.add]
end Go.Proofs.Ytjpoebmjfedecaa
