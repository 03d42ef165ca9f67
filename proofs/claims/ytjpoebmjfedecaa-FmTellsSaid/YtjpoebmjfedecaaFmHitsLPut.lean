/-
  Texts of this claim, one behind the other.
-/
import Derived.Test.YtjpoebmjfedecaaFmHitsW
import Derived.Test.YtjpoebmjfedecaaPlainFmTells
import Derived.Lib.ConvBytes

/-
  Locate: its iterator, over the sorted hits.
-/
namespace Go.Proofs.Ytjpoebmjfedecaa
open Go.RowKit Go.Shelf
attribute [local go_sem] Oper.semAt_some

/-- what is located: of no text, nothing -/
def locL (ds : List (List Nat)) (P : List Nat) : List (Nat × Nat) := if P = [] then [] else hitL ds P
def LocPost (w : World) (ds : List (List Nat)) (P : List Nat) (e : Ending) (w' : World) : Prop :=
  ∃ a cap, e = .returned (.slice a (locL ds P).length cap) ∧ HRow w' a (locL ds P) ∧ Below w.heap.size w w' ∧ ((locL ds P).length = 0 ∨ w.heap.size ≤ bOf a)
set_option maxRecDepth 100000 in
set_option maxHeartbeats 400000 in
theorem hits_all (w : World) (bf : Nat) (ds : List (List Nat)) (hok : NewOk ds) (h : FmAt w bf ds) (a : Option Addr) (cp : Nat) (P : List Nat) (hP : P.length ≤ 100000) (hPb : ∀ c ∈ P, c < 256) (hr : Row w a P.length (byteV P)) :
    Calls Try.prog 73 #[.pointer (some ⟨bf, 0, none⟩), .slice a P.length cp] w (LocPost w ds P) := by
  by_cases hne : 0 < P.length
  · have hn : P ≠ [] := fun e => by rw [e] at hne; exact absurd hne (by simp)
    have he : locL ds P = hitL ds P := if_neg hn
    refine (hits_any w bf ds hok h a cp P hP hPb hr hne).mono ?_
    rintro e w' ⟨a', c', rfl, hr', hb, hl⟩
    refine ⟨a', c', ?_, ?_, hb, ?_⟩ <;> rw [he] <;> first | rfl | exact hr' | exact hl
  · obtain rfl : P = [] := List.eq_nil_of_length_eq_zero (by omega)
    have he : locL ds [] = [] := if_pos rfl
    have HE : Hid (LocPost w ds [] (.returned (.slice none 0 0)) w) := ⟨none, 0, by rw [he]; rfl, by rw [he]; exact HRow.nil _ _, Below.refl _ _, .inl (by rw [he]; rfl)⟩
    clear h hr hok he
    simp only [List.length_nil]
    go_enter Try.func73, Try.ntmps73
    go_wp2
    go_ret
    exact HE.out
def hitE (y : Nat × Nat) : Array Value := #[.int .i64 (y.1 : Int), .int .i64 (y.2 : Int)]
/-- what Locate's iterator reads -/
structure LcAt (W : World) (B1 B2 bf : Nat) (ap : Option Addr) (cp : Nat) (ds : List (List Nat)) (P : List Nat) : Prop where
  fm : FmAt W bf ds
  c1 : W.cell? ⟨B1, 0, none⟩ = some (.pointer (some ⟨bf, 0, none⟩))
  c2 : W.cell? ⟨B2, 0, none⟩ = some (.slice ap P.length cp)
  pr : Row W ap P.length (byteV P)
theorem LcAt.kept {W W' : World} {B1 B2 bf : Nat} {ap : Option Addr} {cp : Nat} {ds : List (List Nat)} {P : List Nat} (h : LcAt W B1 B2 bf ap cp ds P) (hb : Below W.heap.size W W') : LcAt W' B1 B2 bf ap cp ds P :=
  ⟨h.fm.kept hb, (hb.cell (p := ⟨B1, 0, none⟩) (World.block_lt_of_cell? W _ h.c1)).trans h.c1, (hb.cell (p := ⟨B2, 0, none⟩) (World.block_lt_of_cell? W _ h.c2)).trans h.c2, h.pr.kept hb⟩
theorem size_fhit (w : World) : (sizeOf (Try.prog.elem 127)).run Try.prog w = .ok 2 w := by kernel_rfl
set_option maxRecDepth 100000 in
set_option maxHeartbeats 2000000 in
theorem loc1_any (n : Nat) (hn : 1 ≤ n) (K : Nat → Prop) (w : World) (B1 B2 bf : Nat) (ap : Option Addr) (cp : Nat) (ds : List (List Nat)) (hok : NewOk ds) (P : List Nat) (hP : P.length ≤ 100000) (hPb : ∀ c ∈ P, c < 256) (h : LcAt w B1 B2 bf ap cp ds P) :
    SeqX Fence.wide n Try.prog 72 #[.pointer (some ⟨B1, 0, none⟩), .pointer (some ⟨B2, 0, none⟩)] hitE K (fun xs => xs = locL ds P) (fun pre => pre <+: locL ds P) (locL ds P).length w := by
  intro l J Jx W hW hJ hJx hY h0
  have hIn : LcAt W B1 B2 bf ap cp ds P := h.kept hW
  have hwf : ∀ f, Fence.wide.fn f = True := fun _ => rfl
  refine callsIn_of_wp Try.func72 rfl trivial ?_ rfl
  simp only [Try.ntmps72, List.size_toArray, List.length_cons, List.length_nil, Nat.reduceAdd, Nat.reduceSub, Array.replicate_succ, Array.replicate_zero, List.push_toArray, List.append_toArray, List.nil_append, List.cons_append]
  have HY := Lib.hid hY
  have HJ := Lib.hid hJ
  have HJX := Lib.hid hJx
  have H0 := Lib.hid h0
  have c1 := hIn.c1
  have c2 := hIn.c2
  have HHT := Lib.hid (hits_all W bf ds hok hIn.fm ap cp P hP hPb hIn.pr)
  clear hY hJ hJx h0 hIn h hW
  gi_wp2
  refine (callsIn_wide.2 HHT.out).mono ?_
  rintro e W1 ⟨a, cap, rfl, hr, hb, hl⟩
  have hLs : (locL ds P).length ≤ 60000 := by
    unfold locL
    split
    · exact Nat.zero_le _
    · rw [hitL_len ds P _ _ (bkR_is ds hok.byte P)]
      have h1 := (bkR_is ds hok.byte P).len
      have h2 := rows_len ds
      have h3 := hok.all
      omega
  obtain ⟨X1, hX1⟩ : ∃ X1 : Nat → Prop, X1 = fun b => W.heap.size ≤ b ∧ b < W1.heap.size := ⟨_, rfl⟩
  have HJ1 : Hid (J X1 [] W1) := HJ.out _ _ _ _ _ H0.out (StepX.of_below hb) (fun b hb => by rw [hX1] at hb; exact .inr hb)
  have HXK : Hid ((locL ds P).length = 0 ∨ X1 (bOf a)) := by
    rcases Nat.eq_zero_or_pos (locL ds P).length with h | h
    · exact .inl h
    · refine .inr ?_
      rw [hX1]
      exact ⟨hl.resolve_left (by omega), hr.row.lt (by omega)⟩
  have HR1 := Lib.hid hr
  have hix := run_ix2 (P := Try.prog) 127 (by kernel_rfl) size_fhit a (locL ds P).length cap hr.at_
  have HIX := Lib.hid hix
  clear hr hb hl hX1 HHT c1 c2 hok hPb H0 hix
  generalize hL : locL ds P = L at *
  have HL := Lib.hid hL
  clear hL
  gi_wp2
  gi_loopw [10] (fun v10 wr => ∃ k : Nat, k ≤ L.length ∧ v10 = .int .i64 (k : Int) ∧ J X1 (L.take k) wr ∧ HRow wr a L) (fun v10 _ => L.length - (intOf v10).toNat)
  case atStart => exact ⟨0, Nat.zero_le _, rfl, by rw [List.take_zero]; exact HJ1.out, HR1.out⟩
  case round =>
    obtain ⟨k, hk, rfl, hj, hrow⟩ := hrel
    have HJ0 := Lib.hid hj
    have HR0 := Lib.hid hrow
    clear hj hrow
    by_cases hlt : k < L.length
    · have d1 := HR0.out.c0 k hlt
      have d2 := HR0.out.c1 k hlt
      obtain ⟨p1, p2, hp⟩ : ∃ p1 p2, L.getD k (0, 0) = (p1, p2) := ⟨_, _, rfl⟩
      rw [hp] at d1 d2
      simp only at d1 d2
      have hx := fun W => HIX.out W k hlt
      have HT : Hid (L.take k ++ [(p1, p2)] = L.take (k + 1)) := by
        show _ = _
        rw [List.take_succ_eq_append_getElem hlt]
        rw [List.getD_eq_getElem?_getD, List.getElem?_eq_getElem hlt] at hp
        rw [← hp]; rfl
      clear hp
      have HJ2 : Hid (J X1 (L.take k) (wr.alloc (.cells #[.int .i64 (p1 : Int), .int .i64 (p2 : Int)] 130))) := HJ.out.step HJ0.out (StepX.alloc _ _ _)
      obtain ⟨fn, tmps, assign, body, hy, hR⟩ := HY.out X1 (L.take k) (p1, p2) _ HJ2.out (by rw [List.length_take]; omega)
      have HYR := Lib.hid hR
      unfold hitE at hy
      simp only at hy
      clear hR
      gi_wp2
      refine HYR.out.mono ?_
      rintro e0 W3 ⟨hkx, hkk, (⟨rfl, hJ3⟩ | ⟨rfl, hJx3⟩)⟩
      · rw [HT.out] at hJ3
        have HJ3 := Lib.hid hJ3
        have HR3 : Hid (HRow W3 a L) := ⟨⟨HR0.out.row.at_, fun j hj => by
          have h1 := HR0.out.row.cell j hj
          have hlt1 := World.block_lt_of_cell? wr _ h1
          have hb1 : Below wr.heap.size wr (wr.alloc (.cells #[.int .i64 (p1 : Int), .int .i64 (p2 : Int)] 130)) := (Below.refl _ _).alloc (Nat.le_refl _) _
          exact (World.cell?_of_block (a := ⟨bOf a, oOf a + j, none⟩) ((hkx.block _ (by rw [World.size_alloc]; exact Nat.lt_succ_of_lt hlt1) (HXK.out.resolve_left (by omega))).trans (hb1.block _ hlt1))).trans h1⟩⟩
        clear hJ3 hkk hkx hy d1 d2 hx
        gi_wp2
        go_roundw
        case rel => exact ⟨k + 1, by omega, by go_num, HJ3.out, HR3.out⟩
        case measure => simp [intOf]; omega
      · rw [HT.out] at hJx3
        have HJ3 := Lib.hid hJx3
        clear hJx3 hkk hkx hy d1 d2 hx
        gi_wp2
        refine bodyPost_ret (results_none rfl _ _ _) rfl ?_
        exact ⟨⟨_, rfl⟩, .inr ⟨_, _, by rw [HL.out]; exact List.take_prefix _ _, HJ3.out⟩⟩
    · obtain rfl : k = L.length := by omega
      have hd : decide ((L.length : Int) < (L.length : Int)) = false := by simp
      have HE : Hid (J X1 L wr) := by have := HJ0.out; rw [List.take_length] at this; exact this
      gi_wp2
      go_end0
      exact ⟨⟨_, rfl⟩, .inl ⟨_, _, HL.out.symm, HE.out⟩⟩
end Go.Proofs.Ytjpoebmjfedecaa

/-
  The statements' helper hits: what Locate tells, at most so much.
-/
namespace Go.Proofs.Ytjpoebmjfedecaa
open Go.RowKit Go.Shelf
attribute [local go_sem] Oper.semAt_some

theorem sBf_at (d : List Nat) (hb : ∀ c ∈ d, c < 256) (k : Nat) (hk : k < d.length) : ∃ h : k < (sB d).size, ((sB d)[k]'h).toNat = d.getD k 0 := by
  refine ⟨by rw [sB_size]; exact hk, ?_⟩
  have : d.getD k 0 < 256 := hb _ (getD_mem' hk)
  rw [List.getD_eq_getElem?_getD, List.getElem?_eq_getElem hk] at this ⊢
  unfold sB
  show (((d.map UInt8.ofNat).toArray)[k]'(by simpa using hk)).toNat = _
  simp at this ⊢
  omega
theorem str_bytes (w : World) (P : List Nat) (hb : ∀ c ∈ P, c < 256) : ∃ cap w', (convert 9 22 (.string (sB P))).run Try.prog w = .ok (.slice (some ⟨w.heap.size, 0, none⟩) P.length cap) w' ∧
    P.length ≤ cap ∧ Row w' (some ⟨w.heap.size, 0, none⟩) P.length (byteV P) ∧ Below w.heap.size w w' ∧ w'.heap.size = w.heap.size + 1 := by
  refine ⟨grownCap w (sB P).size 0 5, Lib.bytesWorld w 5 (sB P), ?_, ?_, ⟨.inr rfl, ?_⟩, ⟨rfl, rfl, rfl, ?_, ?_⟩, Lib.bytesWorld_size w 5 (sB P)⟩
  · exact (Lib.run_convert_string_bytes (P := Try.prog) w 9 22 5 (sB P) Try.underlying9 Try.underlying22 Try.underlying5).trans (by rw [sB_size])
  · exact Nat.le_trans (Nat.le_of_eq (sB_size P).symm) (grownCap_ge w _ _ _)
  · intro k hk
    have := Lib.bytesWorld_cell w 5 (sB P) k (by rw [sB_size]; exact hk)
    simp only [bOf, oOf, Option.map_some, Option.getD_some, Nat.zero_add]
    rw [this]
    obtain ⟨h1, h2⟩ := sBf_at P hb k hk
    have h3 : (sB P).data.toList.getD k 0 = (sB P)[k]'h1 := by
      rw [List.getD_eq_getElem?_getD, List.getElem?_eq_getElem (by simpa using h1)]; rfl
    rw [h3, h2]
  · rw [Lib.bytesWorld_size]; omega
  · exact fun b h => Lib.bytesWorld_at_old w _ _ b h
theorem flocate_any (w : World) (bf : Nat) (ds : List (List Nat)) (hf : FmAt w bf ds) (a : Option Addr) (cap : Nat) (P : List Nat) (hr : Row w a P.length (byteV P)) (hP : P.length ≤ 1000000) :
    Calls Try.prog 55 #[.pointer (some ⟨bf, 0, none⟩), .slice a P.length cap] w fun e w' => ∃ bo a' c', e = .returned (.func (.func 72) #[] #[.pointer (some ⟨w.heap.size, 0, none⟩), .pointer (some ⟨bo, 0, none⟩)]) ∧
      Below w.heap.size w w' ∧ LcAt w' w.heap.size bo bf a' c' ds P := by
  have hb2 : Below w.heap.size w (w.alloc (.cells #[.pointer (some ⟨bf, 0, none⟩)] 53)) := (Below.refl _ w).alloc (Nat.le_refl _) _
  have B1 := Boxed.new w 53 (.pointer (some ⟨bf, 0, none⟩))
  have HCL := Lib.hid (cloneB_any (w.alloc (.cells #[.pointer (some ⟨bf, 0, none⟩)] 53)) a P.length cap (byteV P) hP (fun _ _ => rfl) (hr.kept hb2))
  have HB2 := Lib.hid hb2
  have HX1 := Lib.hid B1
  have HF2 := Lib.hid (hf.kept hb2)
  clear hr hb2 B1 hf
  go_enter Try.func55, Try.ntmps55
  go_wp2_with fail
  refine HCL.out.mono ?_
  rintro e w3 ⟨a', c', rfl, hc', hn', hr', hb3, hl'⟩
  have HR3 := Lib.hid hr'
  have HB3 := Lib.hid hb3
  clear hc' hn' hr' hb3 hl' HCL
  go_wp2
  go_ret
  have hb4 : Below w3.heap.size w3 (w3.alloc (.cells #[.slice a' P.length c'] 22)) := (Below.refl _ _).alloc (Nat.le_refl _) _
  have h24 := below_next HB3.out hb4 HB3.out.size
  have hx := HX1.out.cell
  exact ⟨_, _, _, rfl, below_next HB2.out h24 HB2.out.size, (HF2.out.kept h24), (h24.cell (p := ⟨w.heap.size, 0, none⟩) (World.block_lt_of_cell? _ _ hx)).trans hx, cells_new _ _ _ 0, HR3.out.kept hb4⟩
theorem nilf9 (A : Array Value) (W : World) : (binOp .eql 101 (.func (.func 72) #[] A) .nilFunc).run Try.prog W = .ok (.bool false) W := by kernel_rfl
def FHitsPost (w : World) (ds : List (List Nat)) (P : List Nat) (most : Nat) (e : Ending) (w' : World) : Prop :=
  ∃ a cap, e = .returned (.slice a ((locL ds P).take most).length cap) ∧ HRow w' a ((locL ds P).take most) ∧ Below w.heap.size w w'
set_option maxRecDepth 100000 in
set_option maxHeartbeats 2000000 in
theorem fhits_any (w : World) (bt : Nat) (ds : List (List Nat)) (ht : FmAt w bt ds) (hok : NewOk ds) (P : List Nat) (hpb : ∀ c ∈ P, c < 256) (hPl : P.length ≤ 100000) (most : Nat) (hmo : most ≤ 2000000) :
    Calls Try.prog 26 #[.pointer (some ⟨bt, 0, none⟩), .string (sB P), .int .i64 most] w (FHitsPost w ds P most) := by
  refine (callsIn_wide (n := 5)).1 ?_
  have hwf : ∀ f, Fence.wide.fn f = True := fun _ => rfl
  obtain ⟨i0, hi0, hz0, hz1, hz2⟩ := info_parts info_hit
  refine callsIn_of_wp_marks Try.func26 rfl trivial ?_ rfl
  simp only [Try.ntmps26, List.size_toArray, List.length_cons, List.length_nil, Nat.reduceAdd, Nat.reduceSub, Array.replicate_succ, Array.replicate_zero, List.push_toArray, List.append_toArray, List.nil_append, List.cons_append]
  have hnf := nilf9
  have hlen : (locL ds P).length ≤ 60000 := by
    unfold locL
    split
    · exact Nat.zero_le _
    · rw [hitL_len ds P _ _ (bkR_is ds hok.byte P)]
      have h1 := (bkR_is ds hok.byte P).len
      have h2 := rows_len ds
      have h3 := hok.all
      omega
  have BM := (Boxed.new w 3 (.int .i64 (most : Int))).alloc (.cells #[.slice none 0 0] 44)
  have BO := Boxed.new (w.alloc (.cells #[.int .i64 (most : Int)] 3)) 44 (.slice none 0 0)
  rw [World.size_alloc] at BO
  have hb2 : Below w.heap.size w ((w.alloc (.cells #[.int .i64 (most : Int)] 3)).alloc (.cells #[.slice none 0 0] 44)) := ((Below.refl _ w).alloc (Nat.le_refl _) _).alloc (by simp) _
  have hs2 : ((w.alloc (.cells #[.int .i64 (most : Int)] 3)).alloc (.cells #[.slice none 0 0] 44)).heap.size = w.heap.size + 2 := by simp
  obtain ⟨cc, w3, hcv, hcap, hrow3, hb3, hs3⟩ := str_bytes ((w.alloc (.cells #[.int .i64 (most : Int)] 3)).alloc (.cells #[.slice none 0 0] 44)) P hpb
  simp only [World.size_alloc] at hcv hrow3 hs3 hb3 hs2
  have HTF := Lib.hid (flocate_any w3 bt ds (ht.kept (hb2.trans (hb3.mono (by omega)))) _ cc P hrow3 (by omega))
  have HOK := Lib.hid hok
  have HPB := Lib.hid hpb
  have HBM := Lib.hid BM
  have HBO := Lib.hid BO
  have HB2 := Lib.hid hb2
  have HS2 := Lib.hid hs2
  have HB3 := Lib.hid hb3
  have HS3 := Lib.hid hs3
  clear ht hok hpb BM BO hb2 hs2 hb3 hs3 hrow3 hcap
  generalize sB P = sP at *
  gi_wp2_with (gi_at_call 55; refine (callsIn_wide.2 HTF.out).mono ?_; rintro e w4 ⟨bo, ap, cp, rfl, hb4, hlc⟩; have HLC := Lib.hid hlc; clear hlc)
  obtain ⟨hw3, hw3'⟩ : w.heap.size + 3 ≤ w3.heap.size ∧ w3.heap.size ≤ w.heap.size + 3 := by have := HS3.out; omega
  have hs4 := hb4.size
  have hb24 : Below w.heap.size w w4 := ((HB2.out.trans (HB3.out.mono (by omega))).trans (hb4.mono (by omega)))
  have HB4 := Lib.hid hb24
  have X1 : Boxed w4 w.heap.size 3 (.int .i64 (most : Int)) := (hb4.block _ (by omega)).trans ((HB3.out.block _ (by omega)).trans HBM.out)
  have X2 : Boxed w4 (w.heap.size + 1) 44 (.slice none 0 0) := (hb4.block _ (by omega)).trans ((HB3.out.block _ (by omega)).trans HBO.out)
  have HX1 := Lib.hid X1
  have HX2 := Lib.hid X2
  clear hb24 X1 X2 hb4 HBM HBO HB2 HS2 HB3 HS3 HTF hcv
  refine wpIn_rangeFunc_X rfl (by omega) (gf := 72) (lb := #[.pointer (some ⟨w3.heap.size, 0, none⟩), .pointer (some ⟨bo, 0, none⟩)]) rfl trivial (enters_of Try.func72 (by kernel_rfl) rfl)
    (loc1_any 4 (by omega) (fun b => b < w4.heap.size ∧ b ≠ w.heap.size + 1) w4 w3.heap.size bo bt ap cp ds HOK.out P hPl HPB.out HLC.out)
    (fun b h => h.1) (Below.refl _ _) (fun _ => rfl)
    (fun X (pre : List (Nat × Nat)) W => (∃ v, (Boxed W (w.heap.size + 1) 44 v ∧ ¬ X (w.heap.size + 1)) ∧ W.ownsRow w4.heap.size 47 2 v pre.length (hitVs pre) ∧ (∀ g, v.ownBlock = some g → ¬ X g) ∧ pre.length ≤ most) ∧ (Boxed W w.heap.size 3 (.int .i64 (most : Int)) ∧ ¬ X w.heap.size) ∧ (Below w.heap.size w4 W ∧ ∀ b, X b → w.heap.size ≤ b) ∧ ∀ b, X b → b < W.heap.size)
    (fun c X (pre : List (Nat × Nat)) W => (∃ v, (Boxed W (w.heap.size + 1) 44 v ∧ ¬ X (w.heap.size + 1)) ∧ W.ownsRow w4.heap.size 47 2 v (pre.take most).length (hitVs (pre.take most)) ∧ (∀ g, v.ownBlock = some g → ¬ X g) ∧ (c = .exit 0 ∧ most < pre.length)) ∧ (Below w.heap.size w4 W ∧ ∀ b, X b → w.heap.size ≤ b))
    (Fr.and (Fr.row (w.heap.size + 1) 44 w4.heap.size 47 2 (fun pre : List (Nat × Nat) => pre.length) (fun pre => hitVs pre) (fun pre => pre.length ≤ most)) (Fr.and (Fr.boxed w.heap.size 3 (fun _ => .int .i64 (most : Int))) (Fr.and (Fr.below (by omega)) Fr.bd)))
    (fun c => Fr.and (Fr.row (w.heap.size + 1) 44 w4.heap.size 47 2 (fun pre : List (Nat × Nat) => (pre.take most).length) (fun pre => hitVs (pre.take most)) (fun pre => c = .exit 0 ∧ most < pre.length)) (Fr.below (by omega)))
    ⟨⟨_, ⟨HX2.out, fun h => h⟩, by rw [hitVs_nil]; exact World.ownsRow_nil _ _ _ _, fun g h => by simp [Value.ownBlock] at h, Nat.zero_le _⟩, ⟨HX1.out, fun h => h⟩, ⟨Below.refl _ _, fun b h => h.elim⟩, fun b h => h.elim⟩
    (fun y => { tmps := #[.pointer (some ⟨bt, 0, none⟩), .string sP, .int .i64 (most : Int), undef, undef, .pointer (some ⟨w.heap.size, 0, none⟩), .slice none 0 0, .pointer (some ⟨w.heap.size + 1, 0, none⟩), .func (.func 72) #[] #[.pointer (some ⟨w3.heap.size, 0, none⟩), .pointer (some ⟨bo, 0, none⟩)], .int .i64 ((y.1 : Nat) : Int), .int .i64 ((y.2 : Nat) : Int), .pointer (some ⟨bt, 0, none⟩), .string sP, .slice (some ⟨w.heap.size + 1 + 1, 0, none⟩) P.length cc, .func (.func 72) #[] #[.pointer (some ⟨w3.heap.size, 0, none⟩), .pointer (some ⟨bo, 0, none⟩)], .func (.func 72) #[] #[.pointer (some ⟨w3.heap.size, 0, none⟩), .pointer (some ⟨bo, 0, none⟩)], .bool false, .func (.func 72) #[] #[.pointer (some ⟨w3.heap.size, 0, none⟩), .pointer (some ⟨bo, 0, none⟩)], .int .i64 ((y.1 : Nat) : Int), .int .i64 ((y.2 : Nat) : Int), undef, undef, undef, undef, undef, undef, undef, undef, undef, undef, undef], defers := [] }) ?assign ?body ?done ?stop
  case assign =>
    intro l y W G hG
    unfold hitE
    gi_wp2
    exact hG
  case body =>
    rintro l X pre y W - hXl ⟨⟨v, hv, hrow, hg, hle⟩, hM, ⟨hB, hge⟩, hbd⟩ hlt
    obtain ⟨y1, y2⟩ := y
    have hc := hv.1.cell
    have hcM := hM.1.cell
    have hs := hB.size
    have hlt2 : pre.length < 100000 := by omega
    obtain ⟨a', cap', rfl⟩ : ∃ a' cap', v = .slice a' pre.length cap' := by
      rcases hrow.2 with ⟨rfl, h⟩ | ⟨g, cap, cur, rfl, _⟩
      · exact ⟨none, 0, by rw [h]⟩
      · exact ⟨_, _, rfl⟩
    have HV := Lib.hid hv
    have HM2 := Lib.hid hM
    have HO := Lib.hid hrow
    have HG := Lib.hid hg
    have HBD := Lib.hid hbd
    have HB5 := Lib.hid hB
    have HGE := Lib.hid hge
    clear hv hM hrow hg hbd hB hge
    by_cases hge2 : (most : Int) ≤ (pre.length : Int)
    · gi_wp2
      have e : (pre ++ [(y1, y2)]).take most = pre := by rw [List.take_append_of_le_length (by omega), List.take_of_length_le (by omega)]
      refine ⟨KeepX.refl _ _, KeepX.refl _ _, ⟨_, HV.out, ?_, HG.out, rfl, by simp; omega⟩, HB5.out, HGE.out⟩
      rw [e]; exact HO.out
    · gi_wp2_with (gi_at_builtin; refine wpListIn_append_own_at _ rfl _ _ 44 rfl w4.heap.size 47 i0 _ 2 16 Try.underlying44 hi0 hz0 hz1 hz2 rfl (by decide) _ pre.length _ rfl (HO.out.alloc _) ⟨W.heap.size, 0, none⟩ 1 1 [.int .i64 ((y1 : Nat) : Int), .int .i64 ((y2 : Nat) : Int)] rfl rfl (World.news_of_block (cs := #[.int .i64 ((y1 : Nat) : Int), .int .i64 ((y2 : Nat) : Int)]) (t := 47) (fr := (0, 0)) (heap_alloc_new W _)) (by simp [Value.oneCell']) (by simp only [maxLen]; omega) (by omega) (by simp; omega) ?_; intro v' w1 hown' hgrow _ hat; obtain ⟨g', cap2, rfl⟩ := ownsRow_succ hown'; obtain ⟨hv1, hv2, hr2, hg2, hk2, hb2, hb3, hs2⟩ := boxed_appX HV.out HO.out HG.out HBD.out (by omega) (by omega) hown' hgrow hat; have hc1 := hv1.cell; have hf1 := hv1.frozen; have HV2 := Lib.hid hv2; have HR2 := Lib.hid hr2; have HG2 := Lib.hid hg2; have HK2 := Lib.hid hk2; have HBB := Lib.hid hb2; have HBW := Lib.hid hb3; have HSS := Lib.hid hs2; clear hv1 hv2 hr2 hg2 hk2 hb2 hb3 hs2 hown' hgrow hat)
      gi_wp2
      refine ⟨HK2.out, ⟨HSS.out, fun b hb hk => HBB.out b hk.1 hk.2⟩, ⟨_, HV2.out, ?_, HG2.out, by simp; omega⟩, ⟨(HBB.out _ (by omega) (by omega)).trans HM2.out.1, HM2.out.2⟩, ⟨HB5.out.trans (HBW.out _ (by omega)), HGE.out⟩, fun b hb => Nat.lt_of_lt_of_le (HBD.out b hb) HSS.out⟩
      rw [hitVs_append, List.length_append, show hitVs [(y1, y2)] = [.int .i64 ((y1 : Nat) : Int), .int .i64 ((y2 : Nat) : Int)] by rw [hitVs_cons, hitVs_nil]]
      exact HR2.out
  case done =>
    rintro D X xs W hD hXD rfl ⟨⟨v, hv, hrow, hg, hle⟩, hM, ⟨hB, hge⟩, hbd⟩ hK
    have hc := hv.1.cell
    obtain ⟨a', cap', rfl, hcap, hr, hb⟩ := hrow_of_owns hrow rfl
    have hDl := (Array.getElem?_eq_some_iff.1 hK).1
    have HFIN : Hid (FHitsPost w ds P most (.returned (.slice a' (locL ds P).length cap')) (W.putObj D (.deferred none))) := by
      have e : (locL ds P).take most = locL ds P := List.take_of_length_le hle
      unfold FHitsPost
      rw [e]
      refine ⟨a', cap', rfl, ⟨hr.row.gb (grownBy_putObj' W D (.deferred none)) ?_⟩, (HB4.out.trans hB).trans (belowK_b (w := w) (Nat.le_refl _) W D _ _ (by omega) hK rfl rfl)⟩
      rcases Nat.eq_zero_or_pos (locL ds P).length with h | h
      · exact .inl (by omega)
      · refine .inr fun e => ?_
        have h0 := hr.row.cell 0 (by omega)
        have h1 : bOf a' = D := Option.some.inj e
        rw [h1] at h0
        simp [World.cell?, hK] at h0
    have HK := Lib.hid hK
    clear hv hM hrow hg hB hge hbd hr hb hK hle
    gi_wp2
    refine ⟨by simp, .inl ⟨_, _, rfl, run_takeDeferred HK.out, ?_⟩⟩
    refine ⟨_, results_tmp rfl _ _ _, ?_⟩
    exact HFIN.out
  case stop =>
    rintro D X c pre W hD hXD hpre ⟨⟨v, hv, hrow, hg, rfl, hlt⟩, hB, hge⟩ hK
    have hc := hv.1.cell
    have hDl := (Array.getElem?_eq_some_iff.1 hK).1
    have e : pre.take most = (locL ds P).take most := by
      obtain ⟨t, ht⟩ := hpre
      rw [← ht, List.take_append_of_le_length (by omega)]
    rw [e] at hrow
    obtain ⟨a', cap', rfl, hcap, hr, hb⟩ := hrow_of_owns hrow rfl
    have HFIN : Hid (FHitsPost w ds P most (.returned (.slice a' ((locL ds P).take most).length cap')) (W.putObj D (.deferred none))) := by
      refine ⟨a', cap', rfl, ⟨hr.row.gb (grownBy_putObj' W D (.deferred none)) ?_⟩, (HB4.out.trans hB).trans (belowK_b (w := w) (Nat.le_refl _) W D _ _ (by omega) hK rfl rfl)⟩
      rcases Nat.eq_zero_or_pos ((locL ds P).take most).length with h | h
      · exact .inl (by omega)
      · refine .inr fun e => ?_
        have h0 := hr.row.cell 0 (by omega)
        have h1 : bOf a' = D := Option.some.inj e
        rw [h1] at h0
        simp [World.cell?, hK] at h0
    have HK := Lib.hid hK
    clear hv hrow hg hB hge hr hb hK e
    rw [List.length_take] at HFIN
    gi_wp2
    refine ⟨by simp, .inl ⟨_, _, rfl, run_takeDeferred HK.out, ?_⟩⟩
    refine ⟨_, results_tmp rfl _ _ _, ?_⟩
    exact HFIN.out
end Go.Proofs.Ytjpoebmjfedecaa
