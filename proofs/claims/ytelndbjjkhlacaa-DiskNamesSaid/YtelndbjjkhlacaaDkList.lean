/-
  A disk's names, in order.
-/
import Derived.Test.YtelndbjjkhlacaaDkIter
import Derived.Test.YtelndbjjkhlacaaDkOne
import Derived.TacticsIn
namespace Go.Proofs
open Go.RowKit Go.Maps Go.Sort Go.Shelf

theorem Try.dkSorts (m : Nat) : AnyZ.SortsIn Try.prog Try.dkSorted_ren Fence.wide m :=
  ⟨fun blk off cap ss W hH hblk hsz => callsIn_wide.2 (AnyM.slices_Sort_string Try.dkSort blk off cap ss W hH hblk hsz),
   fun p cap W => callsIn_wide.2 (AnyM.slices_Sort_string_none Try.dkSort p cap W)⟩
theorem Try.dk_keys (mb : Option Nat) (W : World) : CallsIn Fence.wide 5 Try.prog 51 #[.map mb] W fun e w' => e = .returned (.func (.func 59) #[] #[.pointer (some ⟨W.heap.size, 0, none⟩)]) ∧ w' = W.alloc (.cells #[.map mb] 56) :=
  AnyZ.keys_in Try.dkKeys Fence.wide 5 trivial rfl mb W
set_option maxHeartbeats 1000000 in
theorem Try.dk_sorted {H : Type} (b nn : Nat) (D0 : DataW H) (R : Value → Option (DataW H × List MemPlace)) (w : World) (hown : w.ownsMap Try.prog 9 R b nn D0) (hmax : Maps.size D0 ≤ maxLen) (hbytes : Maps.size D0 * 16 ≤ 140737488355328) :
    CallsIn Fence.wide 5 Try.prog 50 #[.func (.func 59) #[] #[.pointer (some ⟨w.heap.size, 0, none⟩)]] (w.alloc (.cells #[.map (some b)] 56)) fun e w' => ∃ (v : Value) (ss : List (List UInt8)), e = .returned v ∧ ss.Perm (strKeys D0) ∧
      w'.ownsRow (w.alloc (.cells #[.map (some b)] 56)).heap.size 9 1 v ss.length ((ss.mergeSort (fun x y => decide (x ≤ y))).map encStr) ∧ (v = .slice none 0 0 ↔ ss = []) ∧ Below (w.alloc (.cells #[.map (some b)] 56)).heap.size (w.alloc (.cells #[.map (some b)] 56)) w' := by
  have hbl := hown.lt
  have hseq : SeqGives Fence.wide 2 Try.prog 59 #[.pointer (some ⟨w.heap.size, 0, none⟩)] encStr (fun ss => ss.Perm (strKeys D0)) (Maps.size D0) (w.alloc (.cells #[.map (some b)] 56)) :=
    AnyZ.keys_gives (ρ := Try.dkKeys_ren) { Try.dkKeys with } Fence.wide _ trivial rfl (by omega) w.heap.size b nn D0 _ (by simp) (by simp) (by
      obtain ⟨es, clock, hb, Ft, hs, hD⟩ := hown
      exact ⟨es, clock, (Below.heap_alloc _ _ b hbl).trans hb, Ft, hs, hD⟩)
  exact AnyZ.sorted_in Try.dkSorted Fence.wide 5 trivial trivial trivial trivial rfl (by omega) (Try.dkSorts _) (enters_of Try.func58 (by kernel_rfl) rfl) 59 #[.pointer (some ⟨w.heap.size, 0, none⟩)] trivial (enters_of Try.func59 (by kernel_rfl) rfl) _ _ hmax hbytes _ hseq
namespace Ytelndbjjkhlacaa
theorem clip_any (w : World) (a : Option Addr) (n cap : Nat) (h : n ≤ cap) :
    Calls Try.prog 49 #[.slice a n cap] w fun e w' => ∃ cap', e = .returned (.slice a n cap') ∧ w = w' := by
  go_enter Try.func49, Try.ntmps49
  go_wp2
  go_ret
  exact ⟨n, rfl, rfl⟩
theorem sort_pair (l : List (List UInt8)) : (l.mergeSort (fun x y => decide (x ≤ y))).Pairwise (fun x y => decide (x ≤ y) = true) := List.pairwise_mergeSort (fun a b c h1 h2 => by
    have h1 := of_decide_eq_true h1
    have h2 := of_decide_eq_true h2
    exact decide_eq_true (List.le_trans h1 h2)) (fun a b => by
    rcases List.le_total a b with h | h
    · simp [h]
    · simp [h]) l
theorem sorted_of_perm {l l' : List (List UInt8)} (hp : l.Perm l') (hs : l'.Pairwise (fun x y => decide (x ≤ y) = true)) : l.mergeSort (fun x y => decide (x ≤ y)) = l' := by
  have h1 : (l.mergeSort (fun x y => decide (x ≤ y))).Perm l' := (List.mergeSort_perm l _).trans hp
  have h2 := sort_pair l
  exact h1.eq_of_pairwise (fun a b _ _ h1 h2 => List.le_antisymm (of_decide_eq_true h1) (of_decide_eq_true h2)) h2 hs
abbrev txtV (L : List (List UInt8)) (k : Nat) : Value := encStr (L.getD k [])
set_option maxRecDepth 100000 in
set_option maxHeartbeats 1000000 in
/-- List -/
theorem list_new (B : Nat) (w : World) (bd : Nat) (S : DSt) (h : DiskAt B w bd S) (hok : DOk S) (hdd : S.dead = false) (L : List (List UInt8)) (hL : L.Perm (strKeys S.names)) (hs : L.Pairwise (fun x y => decide (x ≤ y) = true)) :
    Calls Try.prog 29 #[.pointer (some ⟨bd, 0, none⟩)] w fun e w' => ∃ a cap, e = .returned (.slice a L.length cap) ∧ Row w' a L.length (txtV L) ∧ Below w.heap.size w w' ∧ (L.length = 0 ∨ w.heap.size ≤ bOf a) := by
  obtain ⟨ρ, vf, vt, bn, bl, V, hd⟩ := h
  have c5 : w.cell? ⟨bd, 5, none⟩ = some (.bool false) := by rw [← hdd]; exact hd.head.cell (i := 5) (by omega)
  have c7 : w.cell? ⟨bd, 7, none⟩ = some (.map (some bn)) := hd.head.cell (i := 7) (by omega)
  have hsz := hok.small.1
  have HSO := Lib.hid (Try.dk_sorted bn (size S.names) S.names fileR w hd.names (by simp only [maxLen]; omega) (by omega))
  have HK := Lib.hid (Try.dk_keys (some bn) w)
  have HL := Lib.hid hL
  have HSS := Lib.hid hs
  clear hd hsz hL hs hdd
  refine (callsIn_wide (n := 6)).1 ?_
  have hfK : Fence.wide.fn 51 := trivial
  have hfS : Fence.wide.fn 50 := trivial
  have hfC : Fence.wide.fn 49 := trivial
  refine callsIn_of_wp Try.func29 rfl trivial ?_ rfl
  simp only [Try.ntmps29, List.size_toArray, List.length_cons, List.length_nil, Nat.reduceAdd, Nat.reduceSub, Array.replicate_succ, Array.replicate_zero, List.push_toArray, List.append_toArray, List.nil_append, List.cons_append]
  gi_wp2_with (first
    | (gi_at_call 51; refine HK.out.mono ?_; rintro e w' ⟨rfl, rfl⟩)
    | (gi_at_call 50; refine HSO.out.mono ?_; rintro e w' ⟨v, ss, rfl, hS, hrow, hnil, hb⟩))
  have hSL := hS.trans HL.out.symm
  rw [sorted_of_perm hSL HSS.out, hSL.length_eq] at hrow
  obtain ⟨a, cap, rfl, hcap, hr, hge, -⟩ := Row.of_owns hrow
  have hr2 : Row w' a L.length (txtV L) := hr.congr fun k hk => by
    unfold txtV
    simp [List.getD_eq_getElem?_getD, hk]
  have HR := Lib.hid hr2
  have HGE : Hid (L.length = 0 ∨ w.heap.size ≤ bOf a) := hge.imp id (fun h => by simp at h; omega)
  have HB := Lib.hid (((Below.refl _ w).alloc (Nat.le_refl _) (.cells #[.map (some bn)] 56)).trans (hb.mono (by simp)))
  clear hS hrow hnil hb hSL hr hr2 hge c5 c7 HSO HK HL HSS
  refine (callsIn_wide.2 (clip_any w' a L.length cap hcap)).mono ?_
  rintro e w5 ⟨cap', rfl, rfl⟩
  clear hcap
  gi_wp2_with fail
  go_ret
  exact ⟨a, cap', rfl, HR.out, HB.out, HGE.out⟩
theorem list_any (B : Nat) (w : World) (bd : Nat) (S : DSt) (h : DiskAt B w bd S) (hok : DOk S) (hdd : S.dead = false) (L : List (List UInt8)) (hL : L.Perm (strKeys S.names)) (hs : L.Pairwise (fun x y => decide (x ≤ y) = true)) :
    Calls Try.prog 29 #[.pointer (some ⟨bd, 0, none⟩)] w fun e w' => ∃ a cap, e = .returned (.slice a L.length cap) ∧ Row w' a L.length (txtV L) ∧ Below w.heap.size w w' :=
  (list_new B w bd S h hok hdd L hL hs).mono fun _ _ ⟨a, cap, h1, h2, h3, _⟩ => ⟨a, cap, h1, h2, h3⟩
end Ytelndbjjkhlacaa
end Go.Proofs
