/-
  The document's own Range and Find.
-/
import Derived.Test.YtjpoebmjfedecaaRangeMath
namespace Go.Proofs.Ytjpoebmjfedecaa
open Go.RowKit

theorem sB_take (d : List Nat) (k : Nat) : (sB d).extract 0 k = sB (d.take k) := by
  unfold sB
  apply ByteArray.ext
  rw [ByteArray.data_extract]
  apply Array.ext'
  simp [List.map_take]
theorem hle_eq {b : Bool} {u P : List Nat} (_ : b = lexB u P) (h : cmpL u P < 0 ↔ lexB u P = true) : lexB u P = decide (cmpL u P < 0) := by
  cases e : lexB u P
  · rw [e] at h; symm; rw [decide_eq_false_iff_not]; exact fun g => by have := h.1 g; cases this
  · rw [e] at h; symm; rw [decide_eq_true_eq]; exact h.2 rfl
theorem sB_cut (d : List Nat) (k m : Nat) : (sB d).extract k (k + m) = sB ((d.drop k).take m) := by
  unfold sB
  apply ByteArray.ext
  rw [ByteArray.data_extract]
  apply Array.ext'
  simp [List.map_take, List.map_drop]
def foundL (ds : List (List Nat)) (P : List Nat) (L : List (Nat × Nat)) : List (Nat × Nat) := L.filter (prefH ds P)
theorem foundL_nil (ds : List (List Nat)) (P : List Nat) : foundL ds P [] = [] := rfl
theorem foundL_yes (ds : List (List Nat)) (P : List Nat) (L : List (Nat × Nat)) (p : Nat × Nat) (h : prefH ds P p = true) : foundL ds P (L ++ [p]) = foundL ds P L ++ [p] := by unfold foundL; rw [List.filter_append, List.filter_cons_of_pos h]; rfl
theorem foundL_no (ds : List (List Nat)) (P : List Nat) (L : List (Nat × Nat)) (p : Nat × Nat) (h : prefH ds P p = false) : foundL ds P (L ++ [p]) = foundL ds P L := by unfold foundL; rw [List.filter_append, List.filter_cons_of_neg (by rw [h]; simp)]; simp
theorem foundL_len (ds : List (List Nat)) (P : List Nat) (L : List (Nat × Nat)) : (foundL ds P L).length ≤ L.length := List.length_filter_le _ _
theorem foundL_tail (ds : List (List Nat)) (P : List Nat) (L : List (Nat × Nat)) (i k m : Nat) (hk : k ≤ m) (h : ∀ j, k ≤ j → prefH ds P (i, j) = false) : foundL ds P (L ++ hitsD ds i m) = foundL ds P (L ++ hitsD ds i k) := by
  obtain ⟨t, rfl⟩ := Nat.le.dest hk
  induction t with
  | zero => rfl
  | succ t ih => rw [← Nat.add_assoc, hitsD_succ, ← List.append_assoc, foundL_no _ _ _ _ (h (k + t) (by omega))]; exact ih (by omega)
theorem pref_at (ds : List (List Nat)) (P : List Nat) (i k : Nat) : prefH ds P (i, k) = decide (((ds.getD i []).drop k).take P.length = P) := rfl
theorem pref_short (ds : List (List Nat)) (P : List Nat) (i k : Nat) (h : (ds.getD i []).length < k + P.length) (hk : k ≤ (ds.getD i []).length) : ∀ j, k ≤ j → prefH ds P (i, j) = false := fun j hj => by
  rw [pref_at, decide_eq_false_iff_not]
  intro e
  have := congrArg List.length e
  rw [List.length_take, List.length_drop] at this
  omega
attribute [irreducible] foundL
def FindPost (w : World) (ds : List (List Nat)) (P : List Nat) (e : Ending) (w' : World) : Prop :=
  ∃ a cap, e = .returned (.slice a (foundL ds P (allH ds ds.length)).length cap) ∧ HRow w' a (foundL ds P (allH ds ds.length)) ∧ Below w.heap.size w w'
def FindPostC (w : World) (ds : List (List Nat)) (P : List Nat) (e : Ending) (w' : World) : Prop :=
  ∃ a cap, e = .returned (.slice a (foundL ds P (allH ds ds.length)).length cap) ∧ HRow w' a (foundL ds P (allH ds ds.length)) ∧ Below w.heap.size w w' ∧ (foundL ds P (allH ds ds.length)).length ≤ cap ∧ (a = none → cap = 0)
theorem owns_nil_cap {w : World} {base n m cap : Nat} {e : TypeId} {size : Nat} {a : Option Addr} {xs : List Value} (h : w.ownsRow base e size (.slice a m cap) n xs) : a = none → cap = 0 := fun ha => by
  subst ha
  rcases h.2 with ⟨e, _⟩ | ⟨g, cap, cur, e, _⟩
  · injection e
  · cases e
set_option maxRecDepth 100000 in
set_option maxHeartbeats 2000000 in
theorem reffind_full (w : World) (a : Option Addr) (cap : Nat) (ds : List (List Nat)) (hr : Row w a ds.length (strV ds)) (hby : ∀ d ∈ ds, ∀ c ∈ d, c < 256) (hl : (rowOf ds).length ≤ 60000) (P : List Nat) (hpb : ∀ c ∈ P, c < 256) (hpl : P.length ≤ 100000) (hne : 0 < P.length) :
    Calls Try.prog 33 #[.slice a ds.length cap, .string (sB P)] w (FindPostC w ds P) := by
  have hix := run_ix (P := Try.prog) 40 (by kernel_rfl) size_str a ds.length cap hr.at_ .i64
  have HR := Lib.hid hr
  have HBY := Lib.hid hby
  have HPB := Lib.hid hpb
  have hll := len_le_row ds
  obtain ⟨i0, hi0, hz0, hz1, hz2⟩ := info_parts info_hit
  have hsp := sB_size P
  have hemp : ((sB P).toList == []) = false := by
    rw [sB_list]
    cases P with
    | nil => simp at hne
    | cons c P => rfl
  have HCUT := Lib.hid (fun (d : List Nat) (k : Nat) => sB_cut d k P.length)
  have HEQ := Lib.hid (fun (x : List Nat) (hx : ∀ c ∈ x, c < 256) => sB_eq x P hx hpb)
  clear hr hby hpb
  generalize sB P = sP at *
  go_enter Try.func33, Try.ntmps33
  go_wp2_with fail
  go_loopw [5, 6] (fun v ii wr => ∃ i : Nat, i ≤ ds.length ∧ ii = .int .i64 i ∧ wr.ownsRow w.heap.size 47 2 v (foundL ds P (allH ds i)).length (hitVs (foundL ds P (allH ds i))) ∧ Below w.heap.size w wr) (fun _ ii _ => ds.length - (intOf ii).toNat)
  case atStart => exact ⟨0, Nat.zero_le _, rfl, by rw [allH_zero, foundL_nil, hitVs_nil]; exact World.ownsRow_nil _ _ _ _, Below.refl _ _⟩
  case round =>
    obtain ⟨i, hi, rfl, hown, hbel⟩ := hrel
    have HO0 := Lib.hid hown
    have HB0 := Lib.hid hbel
    clear hown hbel
    by_cases hlt : (i : Int) < (ds.length : Int)
    · have hin : i < ds.length := by omega
      have hal := allH_len ds i (by omega)
      have hst := startOf_succ ds i (by omega)
      have hm := Nat.le_trans (startOf_mono ds (show i + 1 ≤ ds.length by omega) (Nat.le_refl _)) (Nat.le_of_eq (startOf_all ds))
      have HNX := Lib.hid (allH_succ ds i)
      have HSH := Lib.hid (pref_short ds P i)
      have HPA := Lib.hid (pref_at ds P i)
      have hbig : (allH ds i).length + (ds.getD i []).length + 1 ≤ 100000 := by omega
      have HRi : Hid (∀ W, Below w.heap.size w W → W.cell? ⟨bOf a, oOf a + i, none⟩ = some (.string (sB (ds.getD i [])))) := fun W hW => (HR.out.kept hW).cell i (by omega)
      have HSZ := Lib.hid (sB_size (ds.getD i []))
      have HBD := Lib.hid (HBY.out _ (doc_mem (show i < ds.length by omega)))
      clear hal hst hm
      generalize allH ds i = L at *
      go_wp2_with fail
      go_loopw [5, 7] (fun v kk wr => ∃ k : Nat, k ≤ (ds.getD i []).length ∧ kk = .int .i64 k ∧ wr.ownsRow w.heap.size 47 2 v (foundL ds P (L ++ hitsD ds i k)).length (hitVs (foundL ds P (L ++ hitsD ds i k))) ∧ Below w.heap.size w wr) (fun _ kk _ => (ds.getD i []).length - (intOf kk).toNat)
      case atStart => exact ⟨0, Nat.zero_le _, rfl, by rw [hitsD_zero, List.append_nil]; exact HO0.out, HB0.out⟩
      case round =>
        obtain ⟨k, hk, rfl, hown, hbel⟩ := hrel
        have d0 := HRi.out wr hbel
        have hs := hbel.size
        have hsz := HSZ.out
        have hcut := HCUT.out (ds.getD i []) k
        have heq := HEQ.out (((ds.getD i []).drop k).take P.length) (fun c hc => HBD.out c (List.mem_of_mem_drop (List.mem_of_mem_take hc)))
        have hpa := HPA.out k
        have hsh := HSH.out k
        have HO := Lib.hid hown
        have HB := Lib.hid hbel
        have hlk : (foundL ds P (L ++ hitsD ds i k)).length ≤ 100000 := by
          have := foundL_len ds P (L ++ hitsD ds i k)
          rw [List.length_append, hitsD_len] at this; omega
        rw [← hpa] at heq
        clear hown hbel hpa
        have HTL := Lib.hid (fun h => foundL_tail ds P L i k ((ds.getD i []).length + 1) (by omega) h)
        have HYES : Hid (prefH ds P (i, k) = true → foundL ds P (L ++ hitsD ds i (k + 1)) = foundL ds P (L ++ hitsD ds i k) ++ [(i, k)]) := fun h => by rw [hitsD_succ, ← List.append_assoc]; exact foundL_yes ds P _ _ h
        have HNO : Hid (prefH ds P (i, k) = false → foundL ds P (L ++ hitsD ds i (k + 1)) = foundL ds P (L ++ hitsD ds i k)) := fun h => by rw [hitsD_succ, ← List.append_assoc]; exact foundL_no ds P _ _ h
        generalize sB (((ds.getD i []).drop k).take P.length) = sc at *
        generalize sB (ds.getD i []) = sd at *
        generalize hn : (ds.getD i []).length = n at *
        clear hn
        generalize hF : foundL ds P (L ++ hitsD ds i k) = F at *
        clear hF
        by_cases hkn : (k : Int) + (P.length : Int) ≤ (n : Int)
        · have ec : ((k : Int) + (P.length : Int)).toNat = k + P.length := by omega
          clear hsh
          cases hpf : prefH ds P (i, k) with
          | true =>
            rw [hpf] at heq
            have HST := Lib.hid (HYES.out hpf)
            clear hpf
            go_wp2_with (at_builtin; refine wpList_append_own_at _ rfl _ _ 44 rfl w.heap.size 47 i0 _ 2 16 Try.underlying44 hi0 hz0 hz1 hz2 rfl (by decide) _ F.length _ rfl (HO.out.alloc _) ⟨wr.heap.size, 0, none⟩ 1 1 [.int .i64 (i : Int), .int .i64 (k : Int)] rfl rfl (World.news_of_block (cs := #[.int .i64 (i : Int), .int .i64 (k : Int)]) (t := 47) (fr := (0, 0)) (heap_alloc_new wr _)) (by simp [Value.oneCell']) (by simp only [maxLen]; omega) (by omega) (by simp; omega) ?_; intro v' w4 hown' hgrow _ hat)
            have hlt' := HO.out.lt
            have ho1 : w4.ownsRow w.heap.size 47 2 v' (foundL ds P (L ++ hitsD ds i (k + 1))).length (hitVs (foundL ds P (L ++ hitsD ds i (k + 1)))) := by rw [HST.out, hitVs_append, hitVs_cons, hitVs_nil, List.length_append]; exact hown'
            have HO1 := Lib.hid ho1
            have HB1 : Hid (Below w.heap.size w w4) := (HB.out.alloc hs _).grown hgrow (by simp; omega) (fun g hg => (hlt' g hg).1)
            clear hown' hgrow hlt' ho1 hat d0
            go_wp2
            go_roundw
            case rel => exact ⟨k + 1, by omega, by go_num, HO1.out, HB1.out⟩
            case measure => simp [intOf]; omega
          | false =>
            rw [hpf] at heq
            have HST := Lib.hid (HNO.out hpf)
            clear hpf
            go_wp2
            go_roundw
            case rel => exact ⟨k + 1, by omega, by go_num, by rw [HST.out]; exact HO.out, HB.out⟩
            case measure => simp [intOf]; omega
        · have hEND := HTL.out (hsh (by omega) hk)
          rw [← HNX.out] at hEND
          have HEND := Lib.hid hEND
          clear hsh hEND heq hcut
          go_wp2
          go_roundw
          case rel => exact ⟨i + 1, by omega, by go_num, by rw [HEND.out]; exact HO.out, HB.out⟩
          case measure => simp [intOf]; omega
    · obtain rfl : i = ds.length := by omega
      have hd : decide ((ds.length : Int) < ds.length) = false := by simp
      obtain ⟨a9, c9, rfl, hc9, hr9, hj9⟩ := hrow_of_owns HO0.out rfl
      have HR9 := Lib.hid hr9
      have HC9 := Lib.hid hc9
      have HN9 := Lib.hid (owns_nil_cap HO0.out)
      clear hc9 hr9 hj9
      go_wp2
      go_ret
      exact ⟨a9, c9, rfl, HR9.out, HB0.out, HC9.out, HN9.out⟩
theorem reffind_any (w : World) (a : Option Addr) (cap : Nat) (ds : List (List Nat)) (hr : Row w a ds.length (strV ds)) (hby : ∀ d ∈ ds, ∀ c ∈ d, c < 256) (hl : (rowOf ds).length ≤ 60000) (P : List Nat) (hpb : ∀ c ∈ P, c < 256) (hpl : P.length ≤ 100000) (hne : 0 < P.length) :
    Calls Try.prog 33 #[.slice a ds.length cap, .string (sB P)] w (FindPost w ds P) :=
  (reffind_full w a cap ds hr hby hl P hpb hpl hne).mono fun _ _ ⟨a, c, h1, h2, h3, _⟩ => ⟨a, c, h1, h2, h3⟩
end Go.Proofs.Ytjpoebmjfedecaa
