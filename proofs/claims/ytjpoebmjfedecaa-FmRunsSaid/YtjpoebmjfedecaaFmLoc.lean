/-
  Locate: its iterator, over the sorted hits.
-/
import Derived.Test.YtjpoebmjfedecaaFmHitsW
import Derived.Test.YtjpoebmjfedecaaPlainFmRuns
namespace Go.Proofs.Ytjpoebmjfedecaa
open Go.RowKit Go.Shelf
attribute [local go_sem] Oper.semAt_some

/-- what is located: of no text, nothing -/
def locL (ds : List (List Nat)) (P : List Nat) : List (Nat × Nat) := if P = [] then [] else hitL ds P
def LocPost (w : World) (ds : List (List Nat)) (P : List Nat) (e : Ending) (w' : World) : Prop :=
  ∃ a cap, e = .returned (.slice a (locL ds P).length cap) ∧ HRow w' a (locL ds P) ∧ Below w.heap.size w w' ∧ ((locL ds P).length = 0 ∨ w.heap.size ≤ bOf a)
set_option maxRecDepth 100000 in
set_option maxHeartbeats 400000 in
theorem hits_all (w : World) (bf : Nat) (ds : List (List Nat)) (hok : NewOk ds) (h : FmAt w bf ds) (a : Option Addr) (cp : Nat) (P : List Nat) (hP : P.length ≤ 100000) (hPb : ∀ c ∈ P, c < 256) (hr : Row w a P.length (byteV P)) :
    Calls Try.prog 73 #[.pointer (some ⟨bf, 0, none⟩), .slice a P.length cp] w (LocPost w ds P) := by
  by_cases hne : 0 < P.length
  · have hn : P ≠ [] := fun e => by rw [e] at hne; exact absurd hne (by simp)
    have he : locL ds P = hitL ds P := if_neg hn
    refine (hits_any w bf ds hok h a cp P hP hPb hr hne).mono ?_
    rintro e w' ⟨a', c', rfl, hr', hb, hl⟩
    refine ⟨a', c', ?_, ?_, hb, ?_⟩ <;> rw [he] <;> first | rfl | exact hr' | exact hl
  · obtain rfl : P = [] := List.eq_nil_of_length_eq_zero (by omega)
    have he : locL ds [] = [] := if_pos rfl
    have HE : Hid (LocPost w ds [] (.returned (.slice none 0 0)) w) := ⟨none, 0, by rw [he]; rfl, by rw [he]; exact HRow.nil _ _, Below.refl _ _, .inl (by rw [he]; rfl)⟩
    clear h hr hok he
    simp only [List.length_nil]
    go_enter Try.func73, Try.ntmps73
    go_wp2
    go_ret
    exact HE.out
def hitE (y : Nat × Nat) : Array Value := #[.int .i64 (y.1 : Int), .int .i64 (y.2 : Int)]
/-- what Locate's iterator reads -/
structure LcAt (W : World) (B1 B2 bf : Nat) (ap : Option Addr) (cp : Nat) (ds : List (List Nat)) (P : List Nat) : Prop where
  fm : FmAt W bf ds
  c1 : W.cell? ⟨B1, 0, none⟩ = some (.pointer (some ⟨bf, 0, none⟩))
  c2 : W.cell? ⟨B2, 0, none⟩ = some (.slice ap P.length cp)
  pr : Row W ap P.length (byteV P)
theorem LcAt.kept {W W' : World} {B1 B2 bf : Nat} {ap : Option Addr} {cp : Nat} {ds : List (List Nat)} {P : List Nat} (h : LcAt W B1 B2 bf ap cp ds P) (hb : Below W.heap.size W W') : LcAt W' B1 B2 bf ap cp ds P :=
  ⟨h.fm.kept hb, (hb.cell (p := ⟨B1, 0, none⟩) (World.block_lt_of_cell? W _ h.c1)).trans h.c1, (hb.cell (p := ⟨B2, 0, none⟩) (World.block_lt_of_cell? W _ h.c2)).trans h.c2, h.pr.kept hb⟩
theorem size_fhit (w : World) : (sizeOf (Try.prog.elem 127)).run Try.prog w = .ok 2 w := by kernel_rfl
set_option maxRecDepth 100000 in
set_option maxHeartbeats 2000000 in
theorem loc1_any (n : Nat) (hn : 1 ≤ n) (K : Nat → Prop) (w : World) (B1 B2 bf : Nat) (ap : Option Addr) (cp : Nat) (ds : List (List Nat)) (hok : NewOk ds) (P : List Nat) (hP : P.length ≤ 100000) (hPb : ∀ c ∈ P, c < 256) (h : LcAt w B1 B2 bf ap cp ds P) :
    SeqX Fence.wide n Try.prog 72 #[.pointer (some ⟨B1, 0, none⟩), .pointer (some ⟨B2, 0, none⟩)] hitE K (fun xs => xs = locL ds P) (fun pre => pre <+: locL ds P) (locL ds P).length w := by
  intro l J Jx W hW hJ hJx hY h0
  have hIn : LcAt W B1 B2 bf ap cp ds P := h.kept hW
  have hwf : ∀ f, Fence.wide.fn f = True := fun _ => rfl
  refine callsIn_of_wp Try.func72 rfl trivial ?_ rfl
  simp only [Try.ntmps72, List.size_toArray, List.length_cons, List.length_nil, Nat.reduceAdd, Nat.reduceSub, Array.replicate_succ, Array.replicate_zero, List.push_toArray, List.append_toArray, List.nil_append, List.cons_append]
  have HY := Lib.hid hY
  have HJ := Lib.hid hJ
  have HJX := Lib.hid hJx
  have H0 := Lib.hid h0
  have c1 := hIn.c1
  have c2 := hIn.c2
  have HHT := Lib.hid (hits_all W bf ds hok hIn.fm ap cp P hP hPb hIn.pr)
  clear hY hJ hJx h0 hIn h hW
  gi_wp2
  refine (callsIn_wide.2 HHT.out).mono ?_
  rintro e W1 ⟨a, cap, rfl, hr, hb, hl⟩
  have hLs : (locL ds P).length ≤ 60000 := by
    unfold locL
    split
    · exact Nat.zero_le _
    · rw [hitL_len ds P _ _ (bkR_is ds hok.byte P)]
      have h1 := (bkR_is ds hok.byte P).len
      have h2 := rows_len ds
      have h3 := hok.all
      omega
  obtain ⟨X1, hX1⟩ : ∃ X1 : Nat → Prop, X1 = fun b => W.heap.size ≤ b ∧ b < W1.heap.size := ⟨_, rfl⟩
  have HJ1 : Hid (J X1 [] W1) := HJ.out _ _ _ _ _ H0.out (StepX.of_below hb) (fun b hb => by rw [hX1] at hb; exact .inr hb)
  have HXK : Hid ((locL ds P).length = 0 ∨ X1 (bOf a)) := by
    rcases Nat.eq_zero_or_pos (locL ds P).length with h | h
    · exact .inl h
    · refine .inr ?_
      rw [hX1]
      exact ⟨hl.resolve_left (by omega), hr.row.lt (by omega)⟩
  have HR1 := Lib.hid hr
  have hix := run_ix2 (P := Try.prog) 127 (by kernel_rfl) size_fhit a (locL ds P).length cap hr.at_
  have HIX := Lib.hid hix
  clear hr hb hl hX1 HHT c1 c2 hok hPb H0 hix
  generalize hL : locL ds P = L at *
  have HL := Lib.hid hL
  clear hL
  gi_wp2
  gi_loopw [10] (fun v10 wr => ∃ k : Nat, k ≤ L.length ∧ v10 = .int .i64 (k : Int) ∧ J X1 (L.take k) wr ∧ HRow wr a L) (fun v10 _ => L.length - (intOf v10).toNat)
  case atStart => exact ⟨0, Nat.zero_le _, rfl, by rw [List.take_zero]; exact HJ1.out, HR1.out⟩
  case round =>
    obtain ⟨k, hk, rfl, hj, hrow⟩ := hrel
    have HJ0 := Lib.hid hj
    have HR0 := Lib.hid hrow
    clear hj hrow
    by_cases hlt : k < L.length
    · have d1 := HR0.out.c0 k hlt
      have d2 := HR0.out.c1 k hlt
      obtain ⟨p1, p2, hp⟩ : ∃ p1 p2, L.getD k (0, 0) = (p1, p2) := ⟨_, _, rfl⟩
      rw [hp] at d1 d2
      simp only at d1 d2
      have hx := fun W => HIX.out W k hlt
      have HT : Hid (L.take k ++ [(p1, p2)] = L.take (k + 1)) := by
        show _ = _
        rw [List.take_succ_eq_append_getElem hlt]
        rw [List.getD_eq_getElem?_getD, List.getElem?_eq_getElem hlt] at hp
        rw [← hp]; rfl
      clear hp
      have HJ2 : Hid (J X1 (L.take k) (wr.alloc (.cells #[.int .i64 (p1 : Int), .int .i64 (p2 : Int)] 130))) := HJ.out.step HJ0.out (StepX.alloc _ _ _)
      obtain ⟨fn, tmps, assign, body, hy, hR⟩ := HY.out X1 (L.take k) (p1, p2) _ HJ2.out (by rw [List.length_take]; omega)
      have HYR := Lib.hid hR
      unfold hitE at hy
      simp only at hy
      clear hR
      gi_wp2
      refine HYR.out.mono ?_
      rintro e0 W3 ⟨hkx, hkk, (⟨rfl, hJ3⟩ | ⟨rfl, hJx3⟩)⟩
      · rw [HT.out] at hJ3
        have HJ3 := Lib.hid hJ3
        have HR3 : Hid (HRow W3 a L) := ⟨⟨HR0.out.row.at_, fun j hj => by
          have h1 := HR0.out.row.cell j hj
          have hlt1 := World.block_lt_of_cell? wr _ h1
          have hb1 : Below wr.heap.size wr (wr.alloc (.cells #[.int .i64 (p1 : Int), .int .i64 (p2 : Int)] 130)) := (Below.refl _ _).alloc (Nat.le_refl _) _
          exact (World.cell?_of_block (a := ⟨bOf a, oOf a + j, none⟩) ((hkx.block _ (by rw [World.size_alloc]; exact Nat.lt_succ_of_lt hlt1) (HXK.out.resolve_left (by omega))).trans (hb1.block _ hlt1))).trans h1⟩⟩
        clear hJ3 hkk hkx hy d1 d2 hx
        gi_wp2
        go_roundw
        case rel => exact ⟨k + 1, by omega, by go_num, HJ3.out, HR3.out⟩
        case measure => simp [intOf]; omega
      · rw [HT.out] at hJx3
        have HJ3 := Lib.hid hJx3
        clear hJx3 hkk hkx hy d1 d2 hx
        gi_wp2
        refine bodyPost_ret (results_none rfl _ _ _) rfl ?_
        exact ⟨⟨_, rfl⟩, .inr ⟨_, _, by rw [HL.out]; exact List.take_prefix _ _, HJ3.out⟩⟩
    · obtain rfl : k = L.length := by omega
      have hd : decide ((L.length : Int) < (L.length : Int)) = false := by simp
      have HE : Hid (J X1 L wr) := by have := HJ0.out; rw [List.take_length] at this; exact this
      gi_wp2
      go_end0
      exact ⟨⟨_, rfl⟩, .inl ⟨_, _, HL.out.symm, HE.out⟩⟩
end Go.Proofs.Ytjpoebmjfedecaa
