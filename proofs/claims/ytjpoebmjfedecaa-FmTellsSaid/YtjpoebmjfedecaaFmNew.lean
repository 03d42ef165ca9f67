/-
  fm.New: an index of documents; its parts, and what leaves it as it is.
-/
import Derived.Test.YtjpoebmjfedecaaWalkAsk
import Derived.Test.YtjpoebmjfedecaaWalkAtRPut
namespace Go.Proofs.Ytjpoebmjfedecaa
open Go.RowKit

/-- block bf is an index of documents: its row, and its samples -/
structure FmIn (w : World) (bf bx bm : Nat) (al : Option Addr) (cap : Nat) (Y : Nat → Prop) (bp bq : Nat) (vS vZ : Value) (ds : List (List Nat)) : Prop where
  c0 : w.cell? ⟨bf, 0, none⟩ = some (.pointer (some ⟨bx, 0, none⟩))
  c1 : w.cell? ⟨bf, 1, none⟩ = some (.pointer (some ⟨bp, 0, none⟩))
  ix : IdxAt w bx bm al cap (bwtOf ds)
  pl : PlIn Y w bp bq vS vZ (putS (putsTo ds ds.length)) (sizesTo ds ds.length) (putS (putsTo ds ds.length)).length (putF (putsTo ds ds.length))
def FmAt (w : World) (bf : Nat) (ds : List (List Nat)) : Prop := ∃ bx bm al cap Y bp bq vS vZ, FmIn w bf bx bm al cap Y bp bq vS vZ ds
theorem IdxAt.lt {w : World} {bx bm : Nat} {al : Option Addr} {cap : Nat} {L : List Nat} (h : IdxAt w bx bm al cap L) : bx < w.heap.size := World.block_lt_of_cell? w _ h.c0
theorem FmIn.lt {w : World} {bf bx bm : Nat} {al : Option Addr} {cap : Nat} {Y : Nat → Prop} {bp bq : Nat} {vS vZ : Value} {ds : List (List Nat)} (h : FmIn w bf bx bm al cap Y bp bq vS vZ ds) : bf < w.heap.size := World.block_lt_of_cell? w _ h.c0
theorem FmIn.keeps {w W : World} {bf bx bm : Nat} {al : Option Addr} {cap : Nat} {Y : Nat → Prop} {bp bq : Nat} {vS vZ : Value} {ds : List (List Nat)} (h : FmIn w bf bx bm al cap Y bp bq vS vZ ds) (k : Keeps w W) (hs : w.heap.size ≤ W.heap.size) : FmIn W bf bx bm al cap Y bp bq vS vZ ds :=
  ⟨k.cell h.c0, k.cell h.c1, h.ix.keeps k, h.pl.kept ⟨hs, fun b hb _ => k b hb⟩⟩
theorem FmAt.keeps {w W : World} {bf : Nat} {ds : List (List Nat)} (h : FmAt w bf ds) (k : Keeps w W) (hs : w.heap.size ≤ W.heap.size) : FmAt W bf ds := by
  obtain ⟨bx, bm, al, cap, Y, bp, bq, vS, vZ, h⟩ := h
  exact ⟨bx, bm, al, cap, Y, bp, bq, vS, vZ, h.keeps k hs⟩
theorem FmAt.kept {w W : World} {bf : Nat} {ds : List (List Nat)} (h : FmAt w bf ds) (hb : Below w.heap.size w W) : FmAt W bf ds := h.keeps (Keeps.of_below hb) hb.size
theorem FmAt.drewN {w : World} {bf : Nat} {ds : List (List Nat)} (h : FmAt w bf ds) (k : Nat) : FmAt (w.drewN k) bf ds := h.kept (below_drewN (Below.refl _ _) k)
theorem FmAt.lt {w : World} {bf : Nat} {ds : List (List Nat)} (h : FmAt w bf ds) : bf < w.heap.size := by
  obtain ⟨bx, bm, al, cap, Y, bp, bq, vS, vZ, h⟩ := h
  exact h.lt
def FmPost (w : World) (ds : List (List Nat)) (e : Ending) (w' : World) : Prop :=
  ∃ bf, e = .returned (.tuple #[.pointer (some ⟨bf, 0, none⟩), .int .i64 0]) ∧ FmAt w' bf ds ∧ Below w.heap.size w w' ∧ w.heap.size ≤ bf
set_option maxRecDepth 100000 in
set_option maxHeartbeats 1000000 in
theorem fof_any (w : World) (a : Option Addr) (cap : Nat) (ds : List (List Nat)) (hok : NewOk ds) (hr : Row w a (bwtOf ds).length (symV (bwtOf ds))) :
    Calls Try.prog 53 #[.slice a (bwtOf ds).length cap] w (FmPost w ds) := by
  have hlen : (bwtOf ds).length ≤ 60000 := by rw [bwtOf_len]; exact hok.all
  have HT := Lib.hid (trust_any w a cap (bwtOf ds) (by omega) hr (bwtOf_le ds hok.byte))
  have HOK := Lib.hid hok
  clear hr hok
  go_enter Try.func53, Try.ntmps53
  go_wp2_with fail
  refine HT.out.mono ?_
  rintro e w1 ⟨bx, bm, al, cl, rfl, hi, hb1, -⟩
  have HI1 := Lib.hid hi
  have HB1 := Lib.hid hb1
  clear hi hb1 HT
  go_wp2_with fail
  refine (wnew_any w1 bx bm al cl ds HOK.out HI1.out).mono ?_
  rintro e w2 ⟨bp, bq, vS, vZ, Y, rfl, hp, hb2, -⟩
  have HP2 := Lib.hid hp
  have HI2 := Lib.hid (HI1.out.kept hb2)
  have HB2 : Hid (Below w.heap.size w w2) := below_next HB1.out hb2 HB1.out.size
  clear hp hb2 HI1 HB1
  go_wp2
  go_ret2
  have hb3 : Below w2.heap.size w2 (w2.alloc (.cells #[.pointer (some ⟨bx, 0, none⟩), .pointer (some ⟨bp, 0, none⟩)] 104)) := (Below.refl _ _).alloc (Nat.le_refl _) _
  exact ⟨_, rfl, ⟨bx, bm, al, cl, Y, bp, bq, vS, vZ, cells_new _ _ _ 0, cells_new _ _ _ 1, HI2.out.kept hb3, HP2.out.kept (KeepX.of_below hb3)⟩, below_next HB2.out hb3 HB2.out.size, HB2.out.size⟩
set_option maxRecDepth 100000 in
set_option maxHeartbeats 1000000 in
theorem fnew_any (w : World) (a : Option Addr) (cap : Nat) (A : Nat → Option Addr) (C : Nat → Nat) (ds : List (List Nat)) (h : DocsAt w a A C ds) (hok : NewOk ds) :
    Calls Try.prog 25 #[.slice a ds.length cap] w (FmPost w ds) := by
  have HT := Lib.hid (tnew_any w a cap A C ds h hok)
  have HOK := Lib.hid hok
  clear h hok
  go_enter Try.func25, Try.ntmps25
  go_wp2_with fail
  refine HT.out.mono ?_
  rintro e w1 ⟨bt, x, rfl, ht, hb1⟩
  have HX1 := Lib.hid ht
  have HB1 := Lib.hid hb1
  clear ht hb1 HT
  go_wp2_with fail
  refine (of_any w1 bt x ds HX1.out HOK.out).mono ?_
  rintro e w2 ⟨a2, rfl, hr2, hb2, -⟩
  have HR2 := Lib.hid hr2
  have HB2 : Hid (Below w.heap.size w w2) := below_next HB1.out hb2 HB1.out.size
  clear hr2 hb2 HX1 HB1
  go_wp2_with fail
  refine (fof_any w2 a2 _ ds HOK.out HR2.out).mono ?_
  rintro e w3 ⟨bf, rfl, hf, hb3, hlo⟩
  have HF3 := Lib.hid hf
  have HB3 : Hid (Below w.heap.size w w3) := below_next HB2.out hb3 HB2.out.size
  have hlo3 : w.heap.size ≤ bf := Nat.le_trans HB2.out.size hlo
  clear hf hb3 hlo
  go_wp2
  go_ret2
  exact ⟨bf, rfl, HF3.out, HB3.out, hlo3⟩
set_option maxRecDepth 100000 in
set_option maxHeartbeats 400000 in
theorem flen_any (w : World) (bf : Nat) (ds : List (List Nat)) (h : FmAt w bf ds) :
    Calls Try.prog 31 #[.pointer (some ⟨bf, 0, none⟩)] w fun e w' => e = .returned (.int .i64 ((bwtOf ds).length : Int)) ∧ w = w' := by
  obtain ⟨bx, bm, al, cap, Y, bp, bq, vS, vZ, h⟩ := h
  have c0 := h.c0
  have HL := Lib.hid (blen_any w bx bm al cap _ h.ix)
  clear h
  go_enter Try.func31, Try.ntmps31
  go_wp2_with (go_at_call 13; refine HL.out.mono ?_; rintro e w1 ⟨rfl, rfl⟩)
  go_ret
  exact ⟨rfl, rfl⟩
set_option maxRecDepth 100000 in
set_option maxHeartbeats 400000 in
theorem fdocs_any (w : World) (bf : Nat) (ds : List (List Nat)) (h : FmAt w bf ds) :
    Calls Try.prog 30 #[.pointer (some ⟨bf, 0, none⟩)] w fun e w' => e = .returned (.int .i64 (ds.length : Int)) ∧ w = w' := by
  obtain ⟨bx, bm, al, cap, Y, bp, bq, vS, vZ, h⟩ := h
  have c0 := h.c0
  have HL := bdocs_any w bx bm al cap _ h.ix
  rw [bwt_zeros] at HL
  have HL := Lib.hid HL
  clear h
  go_enter Try.func30, Try.ntmps30
  go_wp2_with (go_at_call 42; refine HL.out.mono ?_; rintro e w1 ⟨rfl, rfl⟩)
  go_ret
  exact ⟨rfl, rfl⟩
set_option maxRecDepth 100000 in
set_option maxHeartbeats 400000 in
theorem fcount_any (w : World) (bf : Nat) (ds : List (List Nat)) (h : FmAt w bf ds) (a : Option Addr) (cp : Nat) (P : List Nat) (hP : P.length ≤ 100000) (hPb : ∀ c ∈ P, c < 256) (hr : Row w a P.length (byteV P)) (hne : 0 < P.length) :
    Calls Try.prog 27 #[.pointer (some ⟨bf, 0, none⟩), .slice a P.length cp] w fun e w' => e = .returned (.int .i64 (((bkR (bwtOf ds) P).2 - (bkR (bwtOf ds) P).1 : Nat) : Int)) ∧ Below w.heap.size w w' := by
  obtain ⟨bx, bm, al, cap, Y, bp, bq, vS, vZ, h⟩ := h
  have c0 := h.c0
  have HL := Lib.hid (bcount_any w bx bm al cap _ h.ix a cp P hP hPb hr hne)
  clear h hr hPb
  generalize (bkR (bwtOf ds) P).2 - (bkR (bwtOf ds) P).1 = r at *
  go_enter Try.func27, Try.ntmps27
  go_wp2_with fail
  refine HL.out.mono ?_
  rintro e w1 ⟨rfl, hb⟩
  go_wp2
  go_ret
  exact ⟨rfl, hb⟩
set_option maxRecDepth 100000 in
set_option maxHeartbeats 400000 in
theorem fcount_nil (w : World) (bf : Nat) (ds : List (List Nat)) (h : FmAt w bf ds) (a : Option Addr) (cp : Nat) :
    Calls Try.prog 27 #[.pointer (some ⟨bf, 0, none⟩), .slice a 0 cp] w fun e w' => e = .returned (.int .i64 0) ∧ w = w' := by
  obtain ⟨bx, bm, al, cap, Y, bp, bq, vS, vZ, h⟩ := h
  have c0 := h.c0
  have HL := Lib.hid (bcount_nil w bx a cp)
  clear h
  go_enter Try.func27, Try.ntmps27
  go_wp2_with fail
  refine HL.out.mono ?_
  rintro e w1 ⟨rfl, rfl⟩
  go_wp2
  go_ret
  exact ⟨rfl, rfl⟩
end Go.Proofs.Ytjpoebmjfedecaa
