/-
  What the statements on a Text lean on: Sym, Place, At behind the end; SameHits; awake.
-/
import Derived.Test.YtehgpggkicoddaaFindLaw
import Derived.Test.YtehgpggkicoddaaTextAsk
import Derived.Test.YtehgpggkicoddaaSufLaw
import Derived.Lib.SlBytesConst
import Derived.Lib.SmallJoins
namespace Go.Proofs.Ytehgpggkicoddaa
open Go.RowKit

theorem size_u16' (w : World) : (sizeOf (Try.prog.elem 47)).run Try.prog w = .ok 1 w := by kernel_rfl
theorem size_hit' (w : World) : (sizeOf (Try.prog.elem 32)).run Try.prog w = .ok 2 w := by kernel_rfl
theorem tsym_any (w : World) (bt : Nat) (x : TxP) (ds : List (List Nat)) (ht : TextAt w bt x ds) (hb : ∀ c ∈ rowOf ds, c ≤ 256) (p : Nat) (hp : p < (rowOf ds).length) (hl : (rowOf ds).length ≤ 100000) :
    Calls Try.prog 11 #[.pointer (some ⟨bt, 0, none⟩), .int .i64 (p : Int)] w fun e w' => e = .returned (.int .i64 (((rowOf ds).getD p 0 : Nat) : Int)) ∧ w = w' := by
  have hix := run_ix (P := Try.prog) 47 (by kernel_rfl) size_u16' x.ar (rowOf ds).length x.cr ht.row.at_ .i64
  have hx := fun W => hix W p hp
  have c2 := ht.c2
  have c3 := ht.row.cell p hp
  have hc := hb _ (getD_mem' hp)
  have t0 : decide ((p : Int) < 0) = false := by simp
  have t1 : decide (((rowOf ds).length : Int) ≤ (p : Int)) = false := by simp; omega
  have t2 : decide ((rowOf ds).length ≤ p) = false := by simp; omega
  clear hix ht hb
  generalize (rowOf ds).getD p 0 = c at *
  go_enter Try.func11, Try.ntmps11
  go_wp2
  go_ret
  exact ⟨rfl, rfl⟩
theorem tsym_no (w : World) (bt : Nat) (x : TxP) (ds : List (List Nat)) (ht : TextAt w bt x ds) (p : Int) (hp : p < 0 ∨ ((rowOf ds).length : Int) ≤ p) :
    Calls Try.prog 11 #[.pointer (some ⟨bt, 0, none⟩), .int .i64 p] w fun e w' => e = .returned (.int .i64 (-1)) ∧ w = w' := by
  have c2 := ht.c2
  clear ht
  by_cases h0 : p < 0
  · clear hp
    go_enter Try.func11, Try.ntmps11
    go_wp2
    go_ret
    exact ⟨rfl, rfl⟩
  · have t0 : decide (p < 0) = false := by simp; omega
    have t1 : ((rowOf ds).length : Int) ≤ p := by omega
    clear hp
    go_enter Try.func11, Try.ntmps11
    go_wp2
    go_ret
    exact ⟨rfl, rfl⟩
theorem tat_no (w : World) (bt : Nat) (x : TxP) (ds : List (List Nat)) (ht : TextAt w bt x ds) (p : Int) (hp : p < 0 ∨ ((rowOf ds).length : Int) ≤ p) :
    Calls Try.prog 19 #[.pointer (some ⟨bt, 0, none⟩), .int .i64 p] w fun e w' => e = .returned (.tuple #[.int .i64 0, .int .i64 0, .bool false]) ∧ w = w' := by
  have c2 := ht.c2
  clear ht
  by_cases h0 : p < 0
  · clear hp
    go_enter Try.func19, Try.ntmps19
    go_wp2
    go_ret3
    exact ⟨rfl, rfl⟩
  · have t0 : decide (p < 0) = false := by simp; omega
    have t1 : ((rowOf ds).length : Int) ≤ p := by omega
    clear hp
    go_enter Try.func19, Try.ntmps19
    go_wp2
    go_ret3
    exact ⟨rfl, rfl⟩
set_option maxHeartbeats 400000 in
theorem samehits_any (w : World) (a b : Option Addr) (ca cb : Nat) (l : List (Nat × Nat)) (hl : l.length ≤ 1000000) (ha : HRow w a l) (hb : HRow w b l) :
    Calls Try.prog 17 #[.slice a l.length ca, .slice b l.length cb] w fun e w' => e = .returned (.bool true) ∧ ∃ k, w' = w.drewN k := by
  have hix := run_ix2 (P := Try.prog) 32 (by kernel_rfl) size_hit' a l.length ca ha.at_
  have hiy := run_ix2 (P := Try.prog) 32 (by kernel_rfl) size_hit' b l.length cb hb.at_
  have HA := Lib.hid ha
  have HB := Lib.hid hb
  clear ha hb
  go_enter Try.func17, Try.ntmps17
  go_wp2
  go_loopw [5] (fun i wr => ∃ k : Nat, k ≤ l.length ∧ i = .int .i64 k ∧ ∃ j, wr = w.drewN j) (fun i _ => l.length - (intOf i).toNat)
  case atStart => exact ⟨0, Nat.zero_le _, rfl, 0, rfl⟩
  case round =>
    obtain ⟨k, hk, rfl, j, rfl⟩ := hrel
    by_cases hlt : k < l.length
    · have d1 := HA.out.c0 k hlt
      have d2 := HA.out.c1 k hlt
      have d3 := HB.out.c0 k hlt
      have d4 := HB.out.c1 k hlt
      have h1 := fun W => hix W k hlt
      have h2 := fun W => hiy W k hlt
      generalize (l.getD k (0, 0)).1 = x1 at *
      generalize (l.getD k (0, 0)).2 = x2 at *
      go_wp2
      go_quiet (fail)
      go_wp2
      go_roundw
      case rel => exact ⟨k + 1, by omega, by go_num, _, rfl⟩
      case measure => simp [intOf]; omega
    · obtain rfl : k = l.length := by omega
      go_wp2
      go_ret
      exact ⟨rfl, j, rfl⟩
/-- the documents that awake asks -/
def aaA : List (List Nat) := [[97, 97, 97], []]
theorem aaA_ok : NewOk aaA := ⟨by decide, by decide, by decide, by decide⟩
def aaW (w : World) : World := (w.alloc (.cells #[.int .u8 97, .int .u8 97, .int .u8 97] 5 (3, 4))).alloc (.cells #[.slice (some ⟨w.heap.size, 0, none⟩) 3 3, .slice none 0 0] 29)
theorem aaA_at (w : World) : DocsAt (aaW w) (some ⟨w.heap.size + 1, 0, none⟩) (fun r => if r = 0 then some ⟨w.heap.size, 0, none⟩ else none) (fun r => if r = 0 then 3 else 0) aaA := by
  have r1 := row_marked w #[.int .u8 97, .int .u8 97, .int .u8 97] 5 (3, 4) (byteV [97, 97, 97]) (by
    intro i hi
    match i, hi with
    | 0, _ => rfl
    | 1, _ => rfl
    | 2, _ => rfl)
  have r3 := row_marked (w.alloc (.cells #[.int .u8 97, .int .u8 97, .int .u8 97] 5 (3, 4))) #[.slice (some ⟨w.heap.size, 0, none⟩) 3 3, .slice none 0 0] 29 (0, 0)
    (fun r => .slice (if r = 0 then some ⟨w.heap.size, 0, none⟩ else none) (aaA.getD r []).length (if r = 0 then 3 else 0)) (by
    intro i hi
    match i, hi with
    | 0, _ => rfl
    | 1, _ => rfl)
  simp only [World.size_alloc] at r3
  refine ⟨r3, fun r hr => ?_⟩
  match r, hr with
  | 0, _ => exact row_alloc r1 _
  | 1, _ => exact Row.nil _ _ _
theorem aaW_below (w : World) : Below w.heap.size w (aaW w) := ((Below.refl _ w).alloc (Nat.le_refl _) _).alloc (by simp) _
theorem aaA_find : (fdTo aaA [97, 97] aaA.length).take 9 = [(0, 0), (0, 1)] := by decide +kernel
set_option maxRecDepth 100000 in
set_option maxHeartbeats 1000000 in
theorem awake9_any (w : World) (hm : MaxCell w) : Calls Try.prog 9 #[] w fun e w' => e = .returned (.bool true) ∧ Below w.heap.size w w' := by
  have hs := tnew_any _ _ 2 _ _ aaA (aaA_at w) aaA_ok
  have e2 : aaA.length = 2 := rfl
  rw [e2] at hs
  have HS := Lib.hid hs
  have HB0 := Lib.hid (aaW_below w)
  have HM := Lib.hid hm
  have hcv1 := Lib.run_convert_bytes_const (P := Try.prog) w 29 5 #[.int .u8 97, .int .u8 97, .int .u8 97] 3 3 Try.underlying29 Try.underlying5
  simp only [List.size_toArray, List.length_cons, List.length_nil, Nat.zero_add, Nat.reduceAdd] at hcv1
  clear hs e2 hm
  go_enter Try.func9, Try.ntmps9
  go_wp2_with fail
  clear hcv1
  refine (show Calls Try.prog _ _ (aaW w) _ from HS.out.mono ?_)
  rintro e w1 ⟨bt, x, rfl, ht, hb⟩
  have HT := Lib.hid ht
  have HB1 : Hid (Below w.heap.size w w1) := below_next HB0.out hb HB0.out.size
  have HM1 := Lib.hid (HM.out.kept HB1.out)
  have hat := tat_any w1 bt x aaA ht aaA_ok 1 0 (by decide) (by decide)
  rw [show startOf aaA 1 + 0 = 4 from rfl] at hat
  simp only [Int.cast_ofNat_Int, Int.natCast_zero, Int.natCast_one] at hat
  have HAT := Lib.hid hat
  clear ht hb hat HS HB0 HM
  go_wp2_with fail
  refine HAT.out.mono ?_
  rintro e w' ⟨rfl, j, rfl⟩
  have HT2 := Lib.hid (HT.out.drewN j)
  have HM2 := Lib.hid (HM1.out.drewN j)
  have HB2 : Hid (Below w.heap.size w (w1.drewN j)) := below_drewN HB1.out j
  clear HT HM1 HB1 HAT
  generalize w1.drewN j = w2 at *
  have hlen := tlen_any w2 bt x aaA HT2.out
  rw [show (rowOf aaA).length = 5 from rfl] at hlen
  have hdoc := tdocs_any w2 bt x aaA HT2.out
  rw [show aaA.length = 2 from rfl] at hdoc
  have hs3 := tsym_any w2 bt x aaA HT2.out (by decide) 3 (by decide) (by decide)
  rw [show (rowOf aaA).getD 3 0 = 0 from rfl] at hs3
  have hs0 := tsym_any w2 bt x aaA HT2.out (by decide) 0 (by decide) (by decide)
  rw [show (rowOf aaA).getD 0 0 = 98 from rfl] at hs0
  simp only [Int.cast_ofNat_Int, Int.natCast_zero] at hlen hdoc hs3 hs0
  have hfi := lfind_any w2 bt x aaA HT2.out aaA_ok HM2.out [97, 97] (by decide) (by decide) 9 (by decide)
  unfold FindLPost at hfi
  rw [aaA_find, show sB [97, 97] = ⟨#[97, 97]⟩ by unfold sB; rfl] at hfi
  have HFI := Lib.hid hfi
  have HL := Lib.hid hlen
  have HD := Lib.hid hdoc
  have HS3 := Lib.hid hs3
  have HS0 := Lib.hid hs0
  clear hlen hdoc hs3 hs0 hfi
  go_wp2_with (first
    | (go_at_call 12; refine HL.out.mono ?_; rintro e w' ⟨rfl, rfl⟩)
    | (go_at_call 20; refine HD.out.mono ?_; rintro e w' ⟨rfl, rfl⟩)
    | (go_at_call 11; with_reducible refine HS3.out.mono ?_; rintro e w' ⟨rfl, rfl⟩)
    | (go_at_call 11; with_reducible refine HS0.out.mono ?_; rintro e w' ⟨rfl, rfl⟩)
    | (go_at_call 13; refine HFI.out.mono ?_; rintro e w3 ⟨a, cap, rfl, hr3, hb3⟩))
  have hrl : HRow (w3.alloc (.cells #[.int .i64 0, .int .i64 0, .int .i64 0, .int .i64 1] 46)) (some ⟨w3.heap.size, 0, none⟩) [(0, 0), (0, 1)] :=
    ⟨row_marked w3 #[.int .i64 0, .int .i64 0, .int .i64 0, .int .i64 1] 46 (0, 0) (fun j => (hitVs [(0, 0), (0, 1)]).getD j undef) (by
      intro i hi
      simp only [hitVs_cons, hitVs_nil]
      match i, hi with
      | 0, _ => rfl
      | 1, _ => rfl
      | 2, _ => rfl
      | 3, _ => rfl)⟩
  have hb4 : Below w3.heap.size w3 (w3.alloc (.cells #[.int .i64 0, .int .i64 0, .int .i64 0, .int .i64 1] 46)) := (Below.refl _ _).alloc (Nat.le_refl _) _
  have HSA := Lib.hid (samehits_any _ a (some ⟨w3.heap.size, 0, none⟩) cap 2 [(0, 0), (0, 1)] (by decide) (hr3.kept hb4) hrl)
  have HB3 : Hid (Below w.heap.size w w3) := below_next HB2.out hb3 HB2.out.size
  have HB4 : Hid (Below w.heap.size w (w3.alloc (.cells #[.int .i64 0, .int .i64 0, .int .i64 0, .int .i64 1] 46))) := below_next HB3.out hb4 HB3.out.size
  clear hrl hb4 hr3 hb3 HB3
  refine HSA.out.mono ?_
  rintro e w4 ⟨rfl, j2, rfl⟩
  go_wp2
  go_ret
  exact ⟨rfl, below_drewN HB4.out j2⟩
end Go.Proofs.Ytehgpggkicoddaa
