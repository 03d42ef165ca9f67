/-
  What the document fixes of buffers is so.
-/
import Derived.Test.YtoifmfdaghmleaaBufCnt
import Derived.Lib.SlBytesConst
set_option linter.unusedVariables false
namespace Go.Proofs.Ytoifmfdaghmleaa
open Go.RowKit Go.Lib Go.Sort Go.Shelf Go.Proofs.Ytoifmfdaghmleaa.Tx

theorem row_bytesF (W : World) (vs : List Nat) (t : TypeId) (fr : Nat × Nat) : Row (W.alloc (.cells (vs.map fun c => (Value.int .u8 ((c : Nat) : Int) : Value)).toArray t fr)) (some ⟨W.heap.size, 0, none⟩) vs.length (byteV vs) :=
  ⟨.inr rfl, fun k hk => by
    simp only [bOf, oOf, Option.map_some, Option.getD_some, Nat.zero_add]
    have := World.alloc_heap_new W (.cells (vs.map fun c => (Value.int .u8 ((c : Nat) : Int) : Value)).toArray t fr)
    rw [World.cell?, this]
    simp [byteV, List.getD_eq_getElem?_getD, List.getElem?_eq_getElem hk]⟩
abbrev ddA : Int → List Nat := fun _ => [97, 97]
theorem inAA : inL [97] [97, 97] = [0, 1] := by unfold inL; decide
theorem hitsAA (z : DocA) : hitsL ddA [97] [(4, z)] = [(4, 0), (4, 1)] := by
  have := hitsL_snoc ddA [97] [] (4, z)
  rw [List.nil_append, hitsL_nil, List.nil_append] at this
  rw [this]
  show (inL [97] [97, 97]).map _ = _
  rw [inAA]; rfl
theorem egPtrB (p : Nat) (W : World) : (binOp .eql 22 (.pointer (some ⟨p, 0, none⟩)) (.pointer none)).run Try.prog W = .ok (.bool false) W := by kernel_rfl
theorem sB_a : sB [97] = (⟨#[97]⟩ : ByteArray) := rfl
set_option maxRecDepth 100000 in
set_option maxHeartbeats 2000000 in
theorem awakeB (w : World) (hmx : MaxCell w) : Calls Try.prog 15 #[] w fun e w' => e = .returned (.bool true) ∧ Below w.heap.size w w' := by
  have HN := Lib.hid (newBuf ddA w)
  have HMX := Lib.hid hmx
  clear hmx
  go_enter Try.func15, Try.ntmps15
  go_wp2_with fail
  refine HN.out.mono ?_
  rintro e w1 ⟨bp, mp, rfl, hb, hb1⟩
  have egP := fun W => egPtrB bp W
  have HB1 := Lib.hid hb1
  have hcv := Lib.run_convert_bytes_const (P := Try.prog) w1 26 5 #[.int .u8 97, .int .u8 97] 2 2 Try.underlying26 Try.underlying5
  have h2 : Below w1.heap.size w1 (w1.alloc (.cells #[.int .u8 97, .int .u8 97] 5 (2, 3))) := (Below.refl _ w1).alloc (Nat.le_refl _) _
  have HB2 := Lib.hid (below_next HB1.out h2 HB1.out.size)
  have HBS := Lib.hid (hb.kept h2)
  have HRW := Lib.hid (row_bytesF w1 [97, 97] 5 (2, 3))
  clear hb hb1 h2 HN
  go_wp2_with fail
  generalize hW2 : (w1.alloc (.cells #[.int .u8 97, .int .u8 97] 5 (2, 3))) = w2 at *
  refine (addB_ok HBS.out HB2.out.size 4 (by omega) (by simp [ksG]) (some ⟨w1.heap.size, 0, none⟩) 2 2 (by rw [← hW2]; exact HRW.out) rfl (by omega) (by simp) (by rw [totL_nil]; simp)).mono ?_
  rintro e w3 ⟨rfl, z, hz, mv3, hb3, st3, -⟩
  have hput : putE ltI ([] : List BEnt) 4 z = [(4, z)] := by unfold putE; rfl
  rw [hput] at hb3
  have HB3 : Hid (Below w.heap.size w w3) := HB2.out.trans (st3.below HB2.out.size HBS.out.setF_ge)
  have HMX3 := Lib.hid (MaxCell.kept HMX.out HB3.out)
  have HBS3 := Lib.hid hb3
  clear hcv hW2 HRW HBS hb3 st3 hput hz
  have hpos : ∀ e ∈ [((4 : Int), z)], 0 ≤ e.1 := fun e he => by obtain rfl := List.mem_singleton.1 he; show (0 : Int) ≤ 4; omega
  have hbyte : ∀ i, ∀ c ∈ ddA i, c < 256 := fun i c hc => by simp at hc; omega
  have hbyteP : ∀ c ∈ [97], c < 256 := fun c hc => by simp at hc; omega
  have hH := hitsAA z
  have HHT := Lib.hid (hitsB_any w.heap.size ddA w3 bp mp mv3 _ HBS3.out HMX3.out [97] hbyte hbyteP (by simp) (by simp) (fun _ => by simp) hpos (by rw [hH]; simp) 9 (by omega))
  rw [hH] at HHT
  go_wp2_with fail
  refine HHT.out.mono ?_
  rintro e w4 ⟨ah, ch, rfl, hr4, hb4⟩
  have HR4 := Lib.hid hr4
  have HB4 := Lib.hid (below_next HB3.out hb4 HB3.out.size)
  have HMX4 := Lib.hid (MaxCell.kept HMX3.out hb4)
  have HBS4 := Lib.hid (HBS3.out.kept hb4)
  clear hr4 hb4 HHT HBS3 HMX3
  have hcv := Lib.run_convert_bytes_const (P := Try.prog) w4 26 5 #[.int .u8 97] 1 1 Try.underlying26 Try.underlying5
  have h5 : Below w4.heap.size w4 (w4.alloc (.cells #[.int .u8 97] 5 (1, 2))) := (Below.refl _ w4).alloc (Nat.le_refl _) _
  have HRW := Lib.hid (row_bytesF w4 [97] 5 (1, 2))
  have HB5 := Lib.hid h5
  clear h5
  go_wp2_with fail
  generalize hW5 : (w4.alloc (.cells #[.int .u8 97] 5 (1, 2))) = w5 at *
  have HCT := Lib.hid (countB w.heap.size ddA w5 bp mp mv3 _ (HBS4.out.kept HB5.out) (MaxCell.kept HMX4.out HB5.out) [97] hbyte hbyteP (by simp) (by simp) (fun _ => by simp) hpos (by rw [hH]; simp) (some ⟨w4.heap.size, 0, none⟩) 1 (by rw [← hW5]; exact HRW.out))
  rw [hH] at HCT
  refine HCT.out.mono ?_
  rintro e w6 ⟨rfl, hb6⟩
  have HB6 := Lib.hid (below_next HB5.out hb6 HB5.out.size)
  clear hb6 hcv hW5 HRW HCT HBS4 HMX4
  have h7 : Below w6.heap.size w6 (w6.alloc (.cells #[.int .i64 4, .int .i64 0, .int .i64 4, .int .i64 1] 88)) := (Below.refl _ w6).alloc (Nat.le_refl _) _
  have HR7 : Hid (HRow (w6.alloc (.cells #[.int .i64 4, .int .i64 0, .int .i64 4, .int .i64 1] 88)) (some ⟨w6.heap.size, 0, none⟩) [(4, 0), (4, 1)]) := ⟨⟨.inr rfl, fun k hk => by
    simp only [bOf, oOf, Option.map_some, Option.getD_some, Nat.zero_add]
    have := heap_alloc_new w6 (.cells #[.int .i64 4, .int .i64 0, .int .i64 4, .int .i64 1] 88)
    rw [World.cell?, this]
    have hk' : k < 4 := hk
    have hv : hitVs [(4, 0), (4, 1)] = [Value.int .i64 4, Value.int .i64 0, Value.int .i64 4, Value.int .i64 1] := by rw [hitVs_cons, hitVs_cons, hitVs_nil]; rfl
    rw [hv]
    rcases k with _ | _ | _ | _ | k
    · rfl
    · rfl
    · rfl
    · rfl
    · omega⟩⟩
  have HB7 := Lib.hid h7
  clear h7
  go_wp2_with fail
  have HSH := Lib.hid (samehits_any _ ah (some ⟨w6.heap.size, 0, none⟩) ch 2 [(4, 0), (4, 1)] (by simp) ((HR4.out.kept HB6.out).kept HB7.out) HR7.out)
  generalize (w6.alloc (.cells #[.int .i64 4, .int .i64 0, .int .i64 4, .int .i64 1] 88)) = w7 at *
  refine HSH.out.mono ?_
  rintro e w8 ⟨rfl, q, rfl⟩
  have HB8 : Hid (Below w.heap.size w (w7.drewN q)) := below_drewN (below_next (below_next HB4.out HB6.out HB4.out.size) HB7.out (Nat.le_trans HB4.out.size HB6.out.size)) q
  clear HSH HB7 HR7
  go_wp2
  go_ret
  exact ⟨rfl, HB8.out⟩
end Go.Proofs.Ytoifmfdaghmleaa
