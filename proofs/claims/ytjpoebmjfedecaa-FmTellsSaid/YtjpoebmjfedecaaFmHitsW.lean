/-
  hits: the places of a text, in order.
-/
import Derived.Test.YtjpoebmjfedecaaFmSort
namespace Go.Proofs.Ytjpoebmjfedecaa
open Go.RowKit

def HitsPost (w : World) (ds : List (List Nat)) (P : List Nat) (e : Ending) (w' : World) : Prop :=
  ∃ a cap, e = .returned (.slice a (hitL ds P).length cap) ∧ HRow w' a (hitL ds P) ∧ Below w.heap.size w w' ∧ ((hitL ds P).length = 0 ∨ w.heap.size ≤ bOf a)
theorem info_fhit : (Try.prog.info? 130).map (fun i => (i.zero, i.size, i.bytes)) = some (some (.agg #[.int .i64 0, .int .i64 0]), 2, 16) := by kernel_rfl
theorem small_docs (ds : List (List Nat)) (hok : NewOk ds) : SmallD ds := fun p hv => by
  have h3 := hok.many
  have h4 := hok.long _ (doc_mem hv.1)
  have h5 := hv.1
  have h6 := hv.2
  omega
set_option maxRecDepth 100000 in
set_option maxHeartbeats 2000000 in
theorem hits_any (w : World) (bf : Nat) (ds : List (List Nat)) (hok : NewOk ds) (h : FmAt w bf ds) (a : Option Addr) (cp : Nat) (P : List Nat) (hP : P.length ≤ 100000) (hPb : ∀ c ∈ P, c < 256) (hr : Row w a P.length (byteV P)) (hne : 0 < P.length) :
    Calls Try.prog 73 #[.pointer (some ⟨bf, 0, none⟩), .slice a P.length cp] w (HitsPost w ds P) := by
  obtain ⟨bx, bm, al, cap, Y, bp, bq, vS, vZ, h⟩ := h
  have hI := bkR_is ds hok.byte P
  have c0 := h.c0
  have t0 : ((P.length : Int) == 0) = false := by rw [beq_eq_false_iff_ne]; omega
  have HRG := Lib.hid (brange_any w bx bm al cap _ h.ix a cp P hP hPb hr)
  have HF := Lib.hid h
  have HOK := Lib.hid hok
  have hlen := hI.len
  have hall := hok.all
  have hrl := rows_len ds
  have hle := hI.le
  obtain ⟨i0, hi0, hz0, hz1, hz2⟩ := info_parts info_fhit
  have HI := Lib.hid hI
  clear h hok hr hI hPb
  go_enter Try.func73, Try.ntmps73
  go_wp2_with fail
  refine HRG.out.mono ?_
  rintro e w1 ⟨rfl, hb1⟩
  generalize (bkR (bwtOf ds) P).1 = lo at *
  generalize (bkR (bwtOf ds) P).2 = hi at *
  have HF1 := Lib.hid (HF.out.keeps (Keeps.of_below hb1) hb1.size)
  have HB1 := Lib.hid hb1
  clear hb1 HRG HF c0
  go_wp2_with fail
  go_loopw [5, 8] (fun v5 v8 wr => ∃ i : Nat, lo ≤ i ∧ i ≤ hi ∧ v8 = .int .i64 (i : Int) ∧ wr.ownsRow w1.heap.size 130 2 v5 (gotR ds lo i).length (hitVs (gotR ds lo i)) ∧ Below w1.heap.size w1 wr) (fun _ v8 _ => hi - (intOf v8).toNat)
  case atStart => exact ⟨lo, Nat.le_refl _, hle, rfl, by rw [gotR_nil, hitVs_nil]; exact World.ownsRow_nil _ _ _ _, Below.refl _ _⟩
  case round =>
    obtain ⟨i, hlo, hi2, rfl, hown, hbel⟩ := hrel
    have HFr := Lib.hid (HF1.out.keeps (Keeps.of_below hbel) hbel.size)
    have HBr := Lib.hid hbel
    have HOr := Lib.hid hown
    have c0 := HFr.out.c0
    have c1 := HFr.out.c1
    clear hbel hown
    by_cases hlt : i < hi
    · obtain ⟨k, o, hko⟩ : ∃ k o, (rowsR ds).getD i (0, 0) = (k, o) := ⟨_, _, rfl⟩
      have hir : i < (rowsR ds).length := by omega
      have HFd : Hid (FmIn wr.drew bf bx bm al cap Y bp bq vS vZ ds) := HFr.out.keeps (W := wr.drew) (Keeps.of_below (below_drewN (Below.refl _ _) 1)) (Nat.le_refl _)
      have HAT := Lib.hid (watr_any wr.drew bx bm al cap ds HOK.out HFd.out.ix Y bp bq vS vZ _ _ _ HFd.out.pl i k o hir hko)
      have HG := Lib.hid (gotR_succ ds lo i hlo hir)
      rw [hko] at HG
      clear hko
      go_wp2_with fail
      go_region_with (go_at_call 14; refine HAT.out.mono ?_; rintro e w8 ⟨rfl, hb8⟩; have HB8 := Lib.hid hb8; clear hb8)
      all_goals
        have HB1r : Hid (Below w1.heap.size w1 w8) := below_next (below_drewN HBr.out 1) HB8.out HBr.out.size
        have hlen2 : (gotR ds lo i).length = i - lo := gotR_len ds lo i (by omega)
        have hO8 : w8.ownsRow w1.heap.size 130 2 u5 (gotR ds lo i).length (hitVs (gotR ds lo i)) := ownsRow_keepX (Y := fun _ => True) HOr.out (KeepX.of_below (below_next (below_drewN (Below.refl _ _) 1) HB8.out (Nat.le_refl _))) (fun _ _ => trivial)
        have HO := Lib.hid hO8
        have hs8 := HB1r.out.size
        generalize gotR ds lo i = L2 at *
        have HLK := Lib.hid hlen2
        have hl5 : L2.length ≤ 60000 := by omega
        clear hlen2 hO8
        go_wp2_with (at_builtin; refine wpList_append_own_at _ rfl _ _ 127 rfl w1.heap.size 130 i0 _ 2 16 Try.underlying127 hi0 hz0 hz1 hz2 rfl (by decide) _ L2.length _ rfl (HO.out.alloc _) ⟨w8.heap.size, 0, none⟩ 1 1 [.int .i64 (k : Int), .int .i64 (o : Int)] rfl rfl (World.news_of_block (cs := #[.int .i64 (k : Int), .int .i64 (o : Int)]) (t := 130) (fr := (0, 0)) (heap_alloc_new w8 _)) (by simp [Value.oneCell']) (by simp only [maxLen]; omega) (by omega) (by simp; omega) ?_; intro v' w4 hown' hgrow _ hat)
        have hlt' := HO.out.lt
        have ho1 : w4.ownsRow w1.heap.size 130 2 v' (gotR ds lo (i + 1)).length (hitVs (gotR ds lo (i + 1))) := by rw [HG.out, hitVs_append, hitVs_cons, hitVs_nil, List.length_append]; exact hown'
        have HO1 := Lib.hid ho1
        have HB4 : Hid (Below w1.heap.size w1 w4) := (HB1r.out.alloc hs8 _).grown hgrow (by simp; omega) (fun g hg => (hlt' g hg).1)
        clear hown' hgrow hlt' ho1 hat
        go_wp2
        go_roundw
        case rel => exact ⟨i + 1, by omega, by omega, by go_num, HO1.out, HB4.out⟩
        case measure => simp [intOf]; omega
    · obtain rfl : i = hi := by omega
      have hd : decide ((i : Int) < (i : Int)) = false := by simp
      have hSM := small_docs ds HOK.out
      have hgl := gotR_len ds lo i hlen
      have HSO := Lib.hid (fsort_any wr w1.heap.size u5 (gotR ds lo i) (hitL ds P) HOr.out (fun p hp => hSM p ((mem_gotR ds P lo i HI.out p).1 hp).1) (fun p hp => hSM p ((mem_hitL ds P p).1 hp).1) (by omega) ((got_perm ds P lo i HI.out).length_eq) (sorted_hits ds P lo i HI.out hSM))
      have HHL := Lib.hid ((got_perm ds P lo i HI.out).length_eq)
      clear hSM hgl HOr
      go_wp2_with fail
      refine HSO.out.mono ?_
      rintro e w9 ⟨rfl, a9, c9, rfl, hr9, hl9, hb9⟩
      have HR9 := Lib.hid hr9
      have HL9 : Hid ((gotR ds lo i).length = 0 ∨ w.heap.size ≤ bOf a9) := hl9.imp id (fun h => Nat.le_trans HB1.out.size h)
      have HB9 := Lib.hid (hb9 w (below_next HB1.out HBr.out HB1.out.size) HB1.out.size)
      rw [← HHL.out] at *
      clear hr9 hl9 hb9 HSO
      go_wp2
      go_ret
      exact ⟨a9, c9, rfl, HR9.out, HB9.out, HL9.out⟩
end Go.Proofs.Ytjpoebmjfedecaa
