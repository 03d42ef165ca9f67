/-
  Create: the call.
-/
import Derived.Test.YtelndbjjkhlacaaDkCreate
namespace Go.Proofs.Ytelndbjjkhlacaa
open Go.RowKit Go.Maps

def createRR (S : DSt) (s : ByteArray) (z : Int) (S' : DSt) : Prop := if okN s = true then createR { S with calls := S.calls + 1 } s z S' else z = 10 ∧ S' = S
set_option maxRecDepth 100000 in
set_option maxHeartbeats 1000000 in
theorem create_any (B : Nat) (w : World) (bd : Nat) (S : DSt) (A : Nat → Prop) (h : DiskAv B w bd S A) (hAl : ∀ b, A b → b < w.heap.size) (hok : DOk S) (h1 : S.dead = false) (h2 : S.stop ≤ 0) (h3 : S.fail ≤ 0) (hB : B ≤ w.heap.size) (hc : S.calls < 100000) (s : ByteArray) (hs : s.size ≤ maxLen) :
    Calls Try.prog 14 #[.pointer (some ⟨bd, 0, none⟩), .string s] w (DPost B A w bd (createRR S s)) := by
  have hbl : bd < w.heap.size := by obtain ⟨ρ, vf, vt, bn, bl, V, hd, _⟩ := h; exact hd.lt
  have B0 := Boxed.new w 22 (.pointer (some ⟨bd, 0, none⟩))
  have B1 := Boxed.new (w.alloc (.cells #[.pointer (some ⟨bd, 0, none⟩)] 22)) 9 (.string s)
  simp only [World.size_alloc] at B1
  have B0' := B0.alloc (.cells #[.string s] 9)
  have hb2 : Below w.heap.size w ((w.alloc (.cells #[.pointer (some ⟨bd, 0, none⟩)] 22)).alloc (.cells #[.string s] 9)) := ((Below.refl _ w).alloc (Nat.le_refl _) _).alloc (by simp) _
  have hsz : ((w.alloc (.cells #[.pointer (some ⟨bd, 0, none⟩)] 22)).alloc (.cells #[.string s] 9)).heap.size = w.heap.size + 2 := by simp
  have HNM := Lib.hid (name_any ((w.alloc (.cells #[.pointer (some ⟨bd, 0, none⟩)] 22)).alloc (.cells #[.string s] 9)) s hs)
  have HDB := Lib.hid (h.below hb2)
  have HC := Lib.hid (fun q => call_create B (((w.alloc (.cells #[.pointer (some ⟨bd, 0, none⟩)] 22)).alloc (.cells #[.string s] 9)).drewN q) bd S (fun b => A b ∨ (b = w.heap.size ∨ b = w.heap.size + 1)) ((h.avoid hb2 (fun b => b = w.heap.size ∨ b = w.heap.size + 1) (fun b hb => by omega)).drewN q) hok h1 h2 h3 (by have e : ((((w.alloc (.cells #[.pointer (some ⟨bd, 0, none⟩)] 22)).alloc (.cells #[.string s] 9)).drewN q)).heap.size = w.heap.size + 2 := hsz; omega) #[.pointer (some ⟨w.heap.size, 0, none⟩), .pointer (some ⟨w.heap.size + 1, 0, none⟩)] (createR { S with calls := S.calls + 1 } s) (fun W hW hu =>
    create1_any B W bd { S with calls := S.calls + 1 } _ hW (fun b hb => by have := hu.keep.size; change _ ≤ W.heap.size at this; have e : ((((w.alloc (.cells #[.pointer (some ⟨bd, 0, none⟩)] 22)).alloc (.cells #[.string s] 9)).drewN q)).heap.size = w.heap.size + 2 := hsz; rcases hb with hb | hb; have := hAl b hb; omega; omega) (hok.call hc) (by have := hu.keep.size; change _ ≤ W.heap.size at this; have e : ((((w.alloc (.cells #[.pointer (some ⟨bd, 0, none⟩)] 22)).alloc (.cells #[.string s] 9)).drewN q)).heap.size = w.heap.size + 2 := hsz; omega) s hs _ _ (.inr (.inl rfl)) (.inr (.inr rfl)) (hu.cell (p := ⟨w.heap.size, 0, none⟩) B0'.cell (by show w.heap.size ≠ bd; omega)) (hu.cell (p := ⟨w.heap.size + 1, 0, none⟩) B1.cell (by show w.heap.size + 1 ≠ bd; omega))))
  have HB2 := Lib.hid hb2
  clear h hAl hok h1 h2 h3 hb2 B0 B1 B0' hsz
  unfold createRR
  cases hk : okN s with
  | false =>
    rw [hk] at HNM
    clear hk HC
    go_enter Try.func14, Try.ntmps14
    go_wp2_with fail
    refine HNM.out.mono ?_
    rintro e w' ⟨rfl, j, rfl⟩
    clear HNM
    go_wp2
    go_ret
    exact ⟨10, S, rfl, ⟨rfl, rfl⟩, HDB.out.drewN j, below_drewN (HB2.out.mono hB) j, (KeepX.of_below HB2.out).drewN j⟩
  | true =>
    rw [hk] at HNM
    clear hk
    go_enter Try.func14, Try.ntmps14
    go_wp2_with fail
    refine HNM.out.mono ?_
    rintro e w' ⟨rfl, j, rfl⟩
    clear HNM
    go_wp2_with fail
    refine (HC.out j).mono ?_
    rintro e w4 ⟨z, S2, rfl, hR, hd2, hb4, hk4⟩
    have HK4 := Lib.hid (hk4.mono fun b _ (hb : A b) => .inl hb)
    have HR := Lib.hid hR
    have HD2 := Lib.hid (hd2.mono fun b (hb : A b) => .inl hb)
    have HB4 := Lib.hid hb4
    clear hR hd2 hb4 hk4 HC
    go_wp2
    go_ret
    exact ⟨z, S2, rfl, HR.out, HD2.out, (below_drewN (HB2.out.mono hB) j).trans HB4.out, ((KeepX.of_below HB2.out).drewN j).trans HK4.out⟩
end Go.Proofs.Ytelndbjjkhlacaa
