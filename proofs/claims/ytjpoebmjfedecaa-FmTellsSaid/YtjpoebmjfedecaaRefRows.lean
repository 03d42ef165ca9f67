/-
  The document's own order: Rows, Array.
-/
import Derived.Test.YtjpoebmjfedecaaRefSort
import Derived.Deep.RegionLaw
namespace Go.Proofs.Ytjpoebmjfedecaa
open Go.RowKit

def RowsPost (w : World) (ds : List (List Nat)) (e : Ending) (w' : World) : Prop :=
  ∃ a cap, e = .returned (.slice a (rowsR ds).length cap) ∧ (rowsR ds).length ≤ cap ∧ HRow w' a (rowsR ds) ∧ Below w.heap.size w w'
set_option maxRecDepth 100000 in
set_option maxHeartbeats 2000000 in
theorem rows_any (w : World) (a : Option Addr) (cap : Nat) (ds : List (List Nat)) (hr : Row w a ds.length (strV ds)) (hby : ∀ d ∈ ds, ∀ c ∈ d, c < 256) (hl : (rowOf ds).length ≤ 100000) :
    Calls Try.prog 21 #[.slice a ds.length cap] w (RowsPost w ds) := by
  have hix := run_ix (P := Try.prog) 40 (by kernel_rfl) size_str a ds.length cap hr.at_ .i64
  have HR := Lib.hid hr
  have HBY := Lib.hid hby
  have hll := len_le_row ds
  obtain ⟨i0, hi0, hz0, hz1, hz2⟩ := info_parts info_hit
  clear hr hby
  go_enter Try.func21, Try.ntmps21
  go_wp2
  go_loopw [3, 4] (fun v ii wr => ∃ i : Nat, i ≤ ds.length ∧ ii = .int .i64 i ∧ wr.ownsRow w.heap.size 47 2 v (allH ds i).length (hitVs (allH ds i)) ∧ Below w.heap.size w wr) (fun _ ii _ => ds.length - (intOf ii).toNat)
  case atStart => exact ⟨0, Nat.zero_le _, rfl, by rw [allH_zero, hitVs_nil]; exact World.ownsRow_nil _ _ _ _, Below.refl _ _⟩
  case round =>
    obtain ⟨i, hi, rfl, hown, hbel⟩ := hrel
    by_cases hlt : i < ds.length
    · have hal := allH_len ds i (by omega)
      have hst := startOf_succ ds i hlt
      have hm := Nat.le_trans (startOf_mono ds (show i + 1 ≤ ds.length by omega) (Nat.le_refl _)) (Nat.le_of_eq (startOf_all ds))
      have hnx := allH_succ ds i
      have hsz := sB_size (ds.getD i [])
      have HNX := Lib.hid hnx
      have HO0 := Lib.hid hown
      have HB0 := Lib.hid hbel
      have HSZ := Lib.hid hsz
      have hbig : (allH ds i).length + (ds.getD i []).length + 1 ≤ 100000 := by omega
      have HRi : Hid (∀ W, Below w.heap.size w W → W.cell? ⟨bOf a, oOf a + i, none⟩ = some (.string (sB (ds.getD i [])))) := fun W hW => (HR.out.kept hW).cell i hlt
      clear hown hbel hal hst hm hnx hsz
      generalize sB (ds.getD i []) = s at *
      generalize (ds.getD i []).length = n at *
      generalize allH ds i = L at *
      go_wp2_with fail
      go_loopw [3, 5] (fun v kk wr => ∃ k : Nat, k ≤ n + 1 ∧ kk = .int .i64 k ∧ wr.ownsRow w.heap.size 47 2 v (L ++ hitsD ds i k).length (hitVs (L ++ hitsD ds i k)) ∧ Below w.heap.size w wr) (fun _ kk _ => n + 1 - (intOf kk).toNat)
      case atStart => exact ⟨0, Nat.zero_le _, rfl, by rw [hitsD_zero, List.append_nil]; exact HO0.out, HB0.out⟩
      case round =>
        rename_i v9
        obtain ⟨k, hk, rfl, hown, hbel⟩ := hrel
        have d0 := HRi.out wr hbel
        have hs := hbel.size
        have hsz : s.size = n := HSZ.out
        have HO := Lib.hid hown
        have HB := Lib.hid hbel
        clear hown hbel
        by_cases hkn : (k : Int) ≤ (n : Int)
        · have hnk : L ++ hitsD ds i (k + 1) = (L ++ hitsD ds i k) ++ [(i, k)] := by rw [hitsD_succ, List.append_assoc]
          have HNK := Lib.hid hnk
          clear hnk
          have hlk : (L ++ hitsD ds i k).length = L.length + k := by rw [List.length_append, hitsD_len]
          have hlk2 : (L ++ hitsD ds i k).length ≤ 100000 := by omega
          generalize L ++ hitsD ds i k = L2 at *
          have HLK := Lib.hid hlk
          clear hlk
          go_wp2_with (at_builtin; refine wpList_append_own_at _ rfl _ _ 44 rfl w.heap.size 47 i0 _ 2 16 Try.underlying44 hi0 hz0 hz1 hz2 rfl (by decide) _ L2.length _ rfl (HO.out.alloc _) ⟨wr.heap.size, 0, none⟩ 1 1 [.int .i64 (i : Int), .int .i64 (k : Int)] rfl rfl (World.news_of_block (cs := #[.int .i64 (i : Int), .int .i64 (k : Int)]) (t := 47) (fr := (0, 0)) (heap_alloc_new wr _)) (by simp [Value.oneCell']) (by simp only [maxLen]; omega) (by omega) (by simp; omega) ?_; intro v' w4 hown' hgrow _ hat)
          have hlt' := HO.out.lt
          have ho1 : w4.ownsRow w.heap.size 47 2 v' (L ++ hitsD ds i (k + 1)).length (hitVs (L ++ hitsD ds i (k + 1))) := by rw [HNK.out, hitVs_append, hitVs_cons, hitVs_nil, List.length_append]; exact hown'
          have HO1 := Lib.hid ho1
          have HB1 : Hid (Below w.heap.size w w4) := (HB.out.alloc hs _).grown hgrow (by simp; omega) (fun g hg => (hlt' g hg).1)
          clear hown' hgrow hlt' ho1 hat d0
          go_wp2
          go_roundw
          case rel => exact ⟨k + 1, by omega, by go_num, HO1.out, HB1.out⟩
          case measure => simp [intOf]; omega
        · obtain rfl : k = n + 1 := by omega
          rw [← HNX.out] at HO
          go_wp2
          go_roundw
          case rel => exact ⟨i + 1, by omega, by go_num, HO.out, HB.out⟩
          case measure => simp [intOf]; omega
    · obtain rfl : i = ds.length := by omega
      have hd : decide ((ds.length : Int) < ds.length) = false := by simp
      obtain ⟨a9, c9, rfl, hc9, hr9, _⟩ := hrow_of_owns hown rfl
      have hall := allH_len ds ds.length (Nat.le_refl _)
      rw [startOf_all] at hall
      have hso := sorted_any ds a cap HBY.out hl (allH ds ds.length).length wr a9 c9 (allH ds ds.length) (Nat.le_refl _) (by omega) hc9 (HR.out.kept hbel) hr9 (fun p hp => (mem_allH ds _ p).1 hp)
      rw [← rowsR_def] at hso
      have HSO := Lib.hid hso
      have HB := Lib.hid hbel
      clear hown hbel hr9 hso hall
      go_wp2_with fail
      refine HSO.out.mono ?_
      rintro e w2 ⟨a8, c8, rfl, hc8, hr8, hb8⟩
      have HR8 := Lib.hid hr8
      have HB8 : Hid (Below w.heap.size w w2) := below_next HB.out hb8 HB.out.size
      have HC8 := Lib.hid hc8
      clear hr8 hb8 hc8
      go_wp2
      go_ret
      exact ⟨a8, c8, rfl, HC8.out, HR8.out, HB8.out⟩

def arrR (ds : List (List Nat)) (i : Nat) : List Nat := ((rowsR ds).take i).map (placeOf ds)
theorem arrR_zero (ds : List (List Nat)) : arrR ds 0 = [] := rfl
theorem arrR_succ (ds : List (List Nat)) (i : Nat) (hi : i < (rowsR ds).length) : arrR ds (i + 1) = arrR ds i ++ [placeOf ds ((rowsR ds).getD i (0, 0))] := by
  unfold arrR
  rw [List.take_add_one, List.map_append, List.getD_eq_getElem?_getD, List.getElem?_eq_getElem hi]; rfl
theorem arrR_len (ds : List (List Nat)) (i : Nat) (hi : i ≤ (rowsR ds).length) : (arrR ds i).length = i := by unfold arrR; rw [List.length_map, List.length_take]; omega
theorem arrR_all (ds : List (List Nat)) : arrR ds (rowsR ds).length = (rowsR ds).map (placeOf ds) := by unfold arrR; rw [List.take_length]
attribute [irreducible] arrR
theorem arrR_sa (ds : List (List Nat)) : IsSA (ordS ds) (rowOf ds).length ((rowsR ds).map (placeOf ds)) := by
  obtain ⟨h1, h2, h3⟩ := rowsR_spec ds
  refine ⟨by rw [List.length_map, h3], fun x => ?_, by rw [List.pairwise_map]; exact h1⟩
  rw [List.mem_map]
  constructor
  · rintro ⟨p, hp, rfl⟩; exact placeOf_lt ds p ((h2 p).1 hp)
  · intro hx
    rw [← startOf_all] at hx
    obtain ⟨r, k, g1, g2, g3⟩ := place_of ds ds.length (Nat.le_refl _) x hx
    exact ⟨(r, k), (h2 (r, k)).2 ⟨g1, g2⟩, g3.symm⟩
theorem rows_len (ds : List (List Nat)) : (rowsR ds).length = (rowOf ds).length := (rowsR_spec ds).2.2
theorem rows_at (ds : List (List Nat)) (i : Nat) (hi : i < (rowsR ds).length) : validH ds ((rowsR ds).getD i (0, 0)) := by
  refine ((rowsR_spec ds).2.1 _).1 ?_
  rw [List.getD_eq_getElem?_getD, List.getElem?_eq_getElem hi]; exact List.getElem_mem _
end Go.Proofs.Ytjpoebmjfedecaa
