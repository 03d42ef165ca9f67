/-
  Remove and Rename: the calls.
-/
import Derived.Test.YtelndbjjkhlacaaDkMove
namespace Go.Proofs.Ytelndbjjkhlacaa
open Go.RowKit Go.Maps

set_option maxRecDepth 100000 in
set_option maxHeartbeats 1000000 in
theorem rename1_same (B : Nat) (W : World) (bd : Nat) (S : DSt) (A : Nat → Prop) (h : DiskAv B W bd S A) (f : Nat) (s : ByteArray) (b0 b1 b2 : Nat) (c0 : W.cell? ⟨b0, 0, none⟩ = some (.string s)) (c2 : W.cell? ⟨b2, 0, none⟩ = some (.string s)) :
    Calls Try.prog 48 #[ptrB f, .pointer (some ⟨b0, 0, none⟩), .pointer (some ⟨b2, 0, none⟩), .pointer (some ⟨b1, 0, none⟩)] W (DPost B A W bd (fun z S' => z = 0 ∧ S' = S)) := by
  have H := Lib.hid h
  clear h
  go_enter Try.func48, Try.ntmps48
  go_wp2
  go_ret
  exact ⟨0, S, rfl, ⟨rfl, rfl⟩, H.out, Below.refl _ _, KeepX.refl _ _⟩
set_option maxRecDepth 100000 in
set_option maxHeartbeats 1000000 in
theorem remove_any (B : Nat) (w : World) (bd : Nat) (S : DSt) (A : Nat → Prop) (h : DiskAv B w bd S A) (hAl : ∀ b, A b → b < w.heap.size) (hok : DOk S) (h1 : S.dead = false) (h2 : S.stop ≤ 0) (h3 : S.fail ≤ 0) (hB : B ≤ w.heap.size) (hc : S.calls < 100000) (s : ByteArray) (hs : s.size ≤ maxLen) :
    Calls Try.prog 26 #[.pointer (some ⟨bd, 0, none⟩), .string s] w (DPost B A w bd (onR S s (fun _ => moveR (callS S) ⟨2, s, ⟨#[]⟩, none⟩))) := by
  have hbl : bd < w.heap.size := by obtain ⟨ρ, vf, vt, bn, bl, V, hd, _⟩ := h; exact hd.lt
  have B0 := Boxed.new w 22 (.pointer (some ⟨bd, 0, none⟩))
  have B1 := Boxed.new (w.alloc (.cells #[.pointer (some ⟨bd, 0, none⟩)] 22)) 9 (.string s)
  simp only [World.size_alloc] at B1
  have B0' := B0.alloc (.cells #[.string s] 9)
  have hb2 : Below w.heap.size w ((w.alloc (.cells #[.pointer (some ⟨bd, 0, none⟩)] 22)).alloc (.cells #[.string s] 9)) := ((Below.refl _ w).alloc (Nat.le_refl _) _).alloc (by simp) _
  have hsz : ((w.alloc (.cells #[.pointer (some ⟨bd, 0, none⟩)] 22)).alloc (.cells #[.string s] 9)).heap.size = w.heap.size + 2 := by simp
  have HON := Lib.hid (on_remove B _ bd S (fun b => A b ∨ (b = w.heap.size ∨ b = w.heap.size + 1)) (h.avoid hb2 (fun b => b = w.heap.size ∨ b = w.heap.size + 1) (fun b hb => by omega)) hok h1 h2 h3 (by rw [hsz]; omega) s hs #[.pointer (some ⟨w.heap.size + 1, 0, none⟩), .pointer (some ⟨w.heap.size, 0, none⟩)] (fun _ => moveR (callS S) ⟨2, s, ⟨#[]⟩, none⟩) (fun W f hW hu hf =>
    remove1_any B W bd (callS S) _ hW (fun b hb => by have := hu.keep.size; rw [hsz] at this; rcases hb with hb | hb; have := hAl b hb; omega; omega) (hok.call hc) (by have := hu.keep.size; rw [hsz] at this; omega) f s hs _ (hu.cell (p := ⟨w.heap.size + 1, 0, none⟩) B1.cell (by show w.heap.size + 1 ≠ bd; omega)) _ (.inr (.inl rfl)) (hu.cell (p := ⟨w.heap.size, 0, none⟩) B0'.cell (by show w.heap.size ≠ bd; omega))))
  have HB2 := Lib.hid hb2
  clear h hAl hok h1 h2 h3 hb2 B0 B1 B0' hsz
  go_enter Try.func26, Try.ntmps26
  go_wp2_with fail
  refine HON.out.mono ?_
  rintro e w4 ⟨z, S2, rfl, hR, hd2, hb4, hk4⟩
  have HK4 := Lib.hid (hk4.mono fun b _ (hb : A b) => .inl hb)
  have HR := Lib.hid hR
  have HD2 := Lib.hid (hd2.mono fun b (hb : A b) => .inl hb)
  have HB4 := Lib.hid hb4
  clear hR hd2 hb4 hk4 HON
  go_wp2
  go_ret
  exact ⟨z, S2, rfl, HR.out, HD2.out, (HB2.out.mono hB).trans HB4.out, (KeepX.of_below HB2.out).trans HK4.out⟩
def renIn (S : DSt) (sa sb : ByteArray) (_ : Nat) (z : Int) (S' : DSt) : Prop := if sa = sb then z = 0 ∧ S' = callS S else moveR (callS S) ⟨1, sa, sb, none⟩ z S'
def renR (S : DSt) (sa sb : ByteArray) (z : Int) (S' : DSt) : Prop := if okN sb = true then onR S sa (renIn S sa sb) z S' else z = 10 ∧ S' = S
set_option maxRecDepth 100000 in
set_option maxHeartbeats 1000000 in
theorem rename_any (B : Nat) (w : World) (bd : Nat) (S : DSt) (A : Nat → Prop) (h : DiskAv B w bd S A) (hAl : ∀ b, A b → b < w.heap.size) (hok : DOk S) (h1 : S.dead = false) (h2 : S.stop ≤ 0) (h3 : S.fail ≤ 0) (hB : B ≤ w.heap.size) (hc : S.calls < 100000) (sa sb : ByteArray) (hsa : sa.size ≤ maxLen) (hsb : sb.size ≤ maxLen) (hn : sa = sb ∨ (sa.toList == sb.toList) = false) :
    Calls Try.prog 27 #[.pointer (some ⟨bd, 0, none⟩), .string sa, .string sb] w (DPost B A w bd (renR S sa sb)) := by
  have hbl : bd < w.heap.size := by obtain ⟨ρ, vf, vt, bn, bl, V, hd, _⟩ := h; exact hd.lt
  have B0 := Boxed.new w 22 (.pointer (some ⟨bd, 0, none⟩))
  have B1 := Boxed.new (w.alloc (.cells #[.pointer (some ⟨bd, 0, none⟩)] 22)) 9 (.string sa)
  have B2 := Boxed.new ((w.alloc (.cells #[.pointer (some ⟨bd, 0, none⟩)] 22)).alloc (.cells #[.string sa] 9)) 9 (.string sb)
  simp only [World.size_alloc] at B1 B2
  have B0' := (B0.alloc (.cells #[.string sa] 9)).alloc (.cells #[.string sb] 9)
  have B1' := B1.alloc (.cells #[.string sb] 9)
  have hb2 : Below w.heap.size w (((w.alloc (.cells #[.pointer (some ⟨bd, 0, none⟩)] 22)).alloc (.cells #[.string sa] 9)).alloc (.cells #[.string sb] 9)) := (((Below.refl _ w).alloc (Nat.le_refl _) _).alloc (by simp) _).alloc (by simp; omega) _
  have hsz : (((w.alloc (.cells #[.pointer (some ⟨bd, 0, none⟩)] 22)).alloc (.cells #[.string sa] 9)).alloc (.cells #[.string sb] 9)).heap.size = w.heap.size + 3 := by simp
  have HNM := Lib.hid (name_any (((w.alloc (.cells #[.pointer (some ⟨bd, 0, none⟩)] 22)).alloc (.cells #[.string sa] 9)).alloc (.cells #[.string sb] 9)) sb hsb)
  have HAV := Lib.hid (h.below hb2)
  have HON := Lib.hid (fun q => on_rename B ((((w.alloc (.cells #[.pointer (some ⟨bd, 0, none⟩)] 22)).alloc (.cells #[.string sa] 9)).alloc (.cells #[.string sb] 9)).drewN q) bd S (fun b => A b ∨ (b = w.heap.size ∨ b = w.heap.size + 1 ∨ b = w.heap.size + 2)) ((h.avoid hb2 (fun b => b = w.heap.size ∨ b = w.heap.size + 1 ∨ b = w.heap.size + 2) (fun b hb => by omega)).drewN q) hok h1 h2 h3 (by have e : (((((w.alloc (.cells #[.pointer (some ⟨bd, 0, none⟩)] 22)).alloc (.cells #[.string sa] 9)).alloc (.cells #[.string sb] 9)).drewN q)).heap.size = w.heap.size + 3 := hsz; omega) sa hsa
    #[.pointer (some ⟨w.heap.size + 1, 0, none⟩), .pointer (some ⟨w.heap.size + 1 + 1, 0, none⟩), .pointer (some ⟨w.heap.size, 0, none⟩)] (renIn S sa sb) (fun W f hW hu hf => by
      have hsu : w.heap.size + 3 ≤ W.heap.size := by
        have h9 := hu.keep.size
        have e : (((((w.alloc (.cells #[.pointer (some ⟨bd, 0, none⟩)] 22)).alloc (.cells #[.string sa] 9)).alloc (.cells #[.string sb] 9)).drewN q)).heap.size = w.heap.size + 3 := hsz
        omega
      have k0 := hu.cell (p := ⟨w.heap.size, 0, none⟩) B0'.cell (by show w.heap.size ≠ bd; omega)
      have k1 := hu.cell (p := ⟨w.heap.size + 1, 0, none⟩) B1'.cell (by show w.heap.size + 1 ≠ bd; omega)
      have k2 := hu.cell (p := ⟨w.heap.size + 1 + 1, 0, none⟩) B2.cell (by show w.heap.size + 1 + 1 ≠ bd; omega)
      by_cases e : sa = sb
      · subst e
        have er : renIn S sa sa f = fun z S' => z = 0 ∧ S' = callS S := by funext z S'; unfold renIn; rw [if_pos rfl]
        rw [er]
        exact rename1_same B W bd (callS S) _ hW f sa _ _ _ k1 k2
      · have er : renIn S sa sb f = moveR (callS S) ⟨1, sa, sb, none⟩ := by funext z S'; unfold renIn; rw [if_neg e]
        rw [er]
        exact rename1_any B W bd (callS S) _ hW (fun b hb => by rcases hb with hb | hb; have := hAl b hb; omega; omega) (hok.call hc) (by omega) f sa sb hsa hsb (hn.resolve_left e) _ _ k1 k2 _ (.inr (.inl rfl)) k0))
  have HB2 := Lib.hid hb2
  have HNE := Lib.hid h.ne
  clear h hAl hok h1 h2 h3 hb2 B0 B1 B2 B0' B1' hsz hn
  unfold renR
  cases hk : okN sb with
  | false =>
    rw [hk] at HNM
    clear hk HON
    go_enter Try.func27, Try.ntmps27
    go_wp2_with fail
    refine HNM.out.mono ?_
    rintro e w' ⟨rfl, j, rfl⟩
    clear HNM
    go_wp2
    go_ret
    exact ⟨10, S, rfl, ⟨rfl, rfl⟩, HAV.out.drewN j, below_drewN (HB2.out.mono hB) j, (KeepX.of_below HB2.out).drewN j⟩
  | true =>
    rw [hk] at HNM
    clear hk
    go_enter Try.func27, Try.ntmps27
    go_wp2_with fail
    refine HNM.out.mono ?_
    rintro e w' ⟨rfl, j, rfl⟩
    clear HNM
    go_wp2_with fail
    refine (HON.out j).mono ?_
    rintro e w4 ⟨z, S2, rfl, hR, hd2, hb4, hk4⟩
    have HK4 := Lib.hid (hk4.mono fun b _ (hb : A b) => .inl hb)
    have HR := Lib.hid hR
    have HD2 := Lib.hid (hd2.mono fun b (hb : A b) => .inl hb)
    have HB4 := Lib.hid hb4
    clear hR hd2 hb4 hk4 HON
    go_wp2
    go_ret
    exact ⟨z, S2, rfl, HR.out, HD2.out, (below_drewN (HB2.out.mono hB) j).trans HB4.out, ((KeepX.of_below HB2.out).drewN j).trans HK4.out⟩
end Go.Proofs.Ytelndbjjkhlacaa
