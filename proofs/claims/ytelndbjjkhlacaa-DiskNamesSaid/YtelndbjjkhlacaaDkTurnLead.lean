/-
  SyncDir: names that last.
  turn.lead: what is done to names, done.
-/
import Derived.Test.YtelndbjjkhlacaaDkCreated
import Derived.Test.YtelndbjjkhlacaaDkShelf
import Derived.Deep.RegionHeld3
namespace Go.Proofs.Ytelndbjjkhlacaa
open Go.RowKit Go.Maps

theorem clone_any (w : World) (b : Nat) (D : DT) (h : NmAt w b D) : Calls Try.prog 41 #[.map (some b)] w fun e w' => e = .returned (.map (some w.heap.size)) ∧ NmAt w' w.heap.size D ∧ Below w.heap.size w w' ∧ w.heap.size < w'.heap.size := by
  have hcon := AnyW.maps_Clone_owns Try.mapsClone 9 fileR b (size D) D w h
  change Calls Try.prog 41 _ _ _ at hcon
  exact hcon.mono fun e w' ⟨h1, h2, _, h4⟩ => ⟨h1, h2, h4, h2.lt⟩
def syncdirR (S : DSt) (z : Int) (S' : DSt) : Prop := z = 0 ∧ S' = { S with last := S.names, turns := [] }
set_option maxRecDepth 100000 in
set_option maxHeartbeats 2000000 in
theorem syncdir1_any (B : Nat) (W : World) (bd : Nat) (S : DSt) (A : Nat → Prop) (h : DiskAv B W bd S A) (hAl : ∀ b, A b → b < W.heap.size) (hB : B ≤ W.heap.size) (b0 : Nat) (ha0 : A b0) (c0 : W.cell? ⟨b0, 0, none⟩ = some (.pointer (some ⟨bd, 0, none⟩))) :
    Calls Try.prog 40 #[.pointer (some ⟨b0, 0, none⟩)] W (DPost B A W bd (syncdirR S)) := by
  have HAL := Lib.hid hAl
  clear hAl
  obtain ⟨ρ, vf, vt, bn, bl, V, hd, hav⟩ := h
  have HAV := Lib.hid (hav b0 ha0)
  have HAA := Lib.hid hav
  have c7 : W.cell? ⟨bd, 7, none⟩ = some (.map (some bn)) := hd.head.cell (i := 7) (by omega)
  have HD := Lib.hid hd
  have HCL : Hid (∀ q, Calls Try.prog 41 #[.map (some bn)] (W.drewN q) fun e w' => e = .returned (.map (some W.heap.size)) ∧ NmAt w' W.heap.size S.names ∧ Below W.heap.size W w' ∧ W.heap.size < w'.heap.size) :=
    fun q => (clone_any (W.drewN q) bn S.names (HD.out.names.of_block rfl)).mono fun e w' ⟨h1, h2, h3, h4⟩ => ⟨h1, h2, (below_drewN (Below.refl _ W) q).trans h3, h4⟩
  have HX : Hid (∀ w5, Below W.heap.size W w5 → w5.cell? ⟨b0, 0, none⟩ = some (.pointer (some ⟨bd, 0, none⟩)) ∧ w5.cell? ⟨bd, 7, none⟩ = some (.map (some bn)) ∧ w5.frozen? ⟨bd, 8, none⟩ = false ∧ w5.cell? ⟨bd, 8, none⟩ = some (.map (some bl))) := fun w5 hb =>
    ⟨(hb.cell (p := ⟨b0, 0, none⟩) (World.block_lt_of_cell? W _ c0)).trans c0, (hb.cell (p := ⟨bd, 7, none⟩) HD.out.lt).trans c7, (HD.out.below hb).head.frozen 8, (HD.out.below hb).head.cell (i := 8) (by omega)⟩
  clear hd hav ha0
  go_enter Try.func40, Try.ntmps40
  go_upto_region 1 with fail
  go_cut [] (fun wx => ∃ w3, NmAt w3 W.heap.size S.names ∧ Below W.heap.size W w3 ∧ W.heap.size < w3.heap.size ∧ wx = w3.setCell ⟨bd, 8, none⟩ (.map (some W.heap.size)))
  case first =>
    go_region_law ((go_simp; go_at_call 41; refine (HCL.out _).mono ?_; rintro e w5 ⟨rfl, hn5, hb5, hs5⟩; obtain ⟨k0, k7, f8, k8⟩ := HX.out _ hb5; have HB5 := Lib.hid hb5; have HN5 := Lib.hid hn5; have HS5 := Lib.hid hs5; clear hb5 hn5 hs5))
    all_goals
      go_wp2_with fail
      go_meet
      exact ⟨_, HN5.out, HB5.out, HS5.out, rfl⟩
  case rest =>
    obtain ⟨w3, hn3, hb3, hs3, rfl⟩ := hcut
    have hd3 := HD.out.below hb3
    have hks : KeepX (fun b => b ≠ bd) w3 (w3.setCell ⟨bd, 8, none⟩ (.map (some W.heap.size))) := KeepX.setCell w3 ⟨bd, 8, none⟩ _ (fun h => h rfl)
    have hbd := HD.out.lt
    have hk : KeepX (fun b => b ≠ bd) W (w3.setCell ⟨bd, 8, none⟩ (.map (some W.heap.size))) := (KeepX.of_below hb3).trans hks
    obtain ⟨ρ4, hd4, ho4⟩ := HD.out.setMaps (w' := w3.setCell ⟨bd, 8, none⟩ (.map (some W.heap.size))) bn W.heap.size S.names S.names hk (nm_keepX hd3.names hks (fun e => by have := hd3.rn; rw [e, hd3.rd] at this; cases this)) (nm_keepX hn3 hks (by omega)) (.inl rfl) (.inr (Nat.le_refl _)) (fun e => by have := HD.out.names.lt; omega)
      ((hd3.head.set 8 _).congr (ten rfl rfl rfl rfl rfl rfl rfl rfl rfl rfl))
    have hb4 : Below B W (w3.setCell ⟨bd, 8, none⟩ (.map (some W.heap.size))) := (hb3.mono hB).setCell (p := ⟨bd, 8, none⟩) HD.out.ge _
    have hne : b0 ≠ bd := fun e => (by have := HAV.out; rw [e, HD.out.rd] at this; cases this)
    have k0 : (w3.setCell ⟨bd, 8, none⟩ (.map (some W.heap.size))).cell? ⟨b0, 0, none⟩ = some (.pointer (some ⟨bd, 0, none⟩)) := (World.cell?_of_block (a := ⟨b0, 0, none⟩) (hk.block b0 (World.block_lt_of_cell? W _ c0) hne)).trans c0
    generalize w3.setCell ⟨bd, 8, none⟩ (.map (some W.heap.size)) = W4 at *
    have k9 : W4.cell? ⟨bd, 9, none⟩ = some vt := hd4.head.cell (i := 9) (by omega)
    have f9 : W4.frozen? ⟨bd, 9, none⟩ = false := hd4.head.frozen 9
    have hks5 : KeepX (fun b => b ≠ bd ∧ some b ≠ vt.ownBlock) W4 (W4.setCell ⟨bd, 9, none⟩ (.slice none 0 0)) := (KeepX.setCell W4 ⟨bd, 9, none⟩ _ (fun h => h rfl)).mono (fun b _ h => h.1)
    have HO4 := Lib.hid ho4
    clear ho4
    obtain ⟨ρ5, hd5, ho5⟩ := hd4.setTurns (w' := W4.setCell ⟨bd, 9, none⟩ (.slice none 0 0)) (.slice none 0 0) [] hks5 ((hd4.head.set 9 _).congr (ten rfl rfl rfl rfl rfl rfl rfl rfl rfl rfl)) (World.ownsRow_nil _ _ _ _) (fun g hg => by simp [Value.ownBlock] at hg)
    have HD5 := Lib.hid hd5
    have HO5 := Lib.hid (HO4.out.trans ho5)
    clear ho5
    have HB5 := Lib.hid (hb4.setCell (p := ⟨bd, 9, none⟩) HD.out.ge (.slice none 0 0))
    obtain ⟨at', ct, rfl⟩ := owns_slice HD.out.turns
    clear hd4 hd5 hb4 hks5 hks hk hd3 hb3 hn3 hs3 c0 c7 HCL HX hbd hne
    go_wp2
    go_ret
    exact ⟨0, _, rfl, ⟨rfl, rfl⟩, ⟨ρ5, _, _, _, _, _, HD5.out, fun b hb => HO5.out.role b (HAL.out b hb) (HAA.out b hb)⟩, HB5.out, HO5.out.keep.mono fun b _ hb => HAA.out b hb⟩
set_option maxRecDepth 100000 in
set_option maxHeartbeats 1000000 in
theorem syncdir_any (B : Nat) (w : World) (bd : Nat) (S : DSt) (A : Nat → Prop) (h : DiskAv B w bd S A) (hAl : ∀ b, A b → b < w.heap.size) (hok : DOk S) (h1 : S.dead = false) (h2 : S.stop ≤ 0) (h3 : S.fail ≤ 0) (hB : B ≤ w.heap.size) :
    Calls Try.prog 19 #[.pointer (some ⟨bd, 0, none⟩)] w (DPost B A w bd (syncdirR { S with calls := S.calls + 1 })) := by
  have hbl : bd < w.heap.size := by obtain ⟨ρ, vf, vt, bn, bl, V, hd, _⟩ := h; exact hd.lt
  have B0 := Boxed.new w 22 (.pointer (some ⟨bd, 0, none⟩))
  have hb2 : Below w.heap.size w (w.alloc (.cells #[.pointer (some ⟨bd, 0, none⟩)] 22)) := (Below.refl _ w).alloc (Nat.le_refl _) _
  have hsz : (w.alloc (.cells #[.pointer (some ⟨bd, 0, none⟩)] 22)).heap.size = w.heap.size + 1 := by simp
  have HC := Lib.hid (call_syncdir B (w.alloc (.cells #[.pointer (some ⟨bd, 0, none⟩)] 22)) bd S (fun b => A b ∨ b = w.heap.size) (h.avoid hb2 (fun b => b = w.heap.size) (fun b hb => by omega)) hok h1 h2 h3 (by rw [hsz]; omega) #[.pointer (some ⟨w.heap.size, 0, none⟩)] (syncdirR { S with calls := S.calls + 1 }) (fun W hW hu =>
    syncdir1_any B W bd { S with calls := S.calls + 1 } _ hW (fun b hb => by have := hu.keep.size; rw [hsz] at this; rcases hb with hb | hb; have := hAl b hb; omega; omega) (by have := hu.keep.size; rw [hsz] at this; omega) _ (.inr rfl) (hu.cell (p := ⟨w.heap.size, 0, none⟩) B0.cell (by show w.heap.size ≠ bd; omega))))
  have HB2 := Lib.hid hb2
  clear h hAl hok h1 h2 h3 hb2 B0 hsz
  go_enter Try.func19, Try.ntmps19
  go_wp2_with fail
  refine HC.out.mono ?_
  rintro e w4 ⟨z, S2, rfl, hR, hd2, hb4, hk4⟩
  have HK4 := Lib.hid (hk4.mono fun b _ (hb : A b) => .inl hb)
  have HR := Lib.hid hR
  have HD2 := Lib.hid (hd2.mono fun b (hb : A b) => .inl hb)
  have HB4 := Lib.hid hb4
  clear hR hd2 hb4 hk4 HC
  go_wp2
  go_ret
  exact ⟨z, S2, rfl, HR.out, HD2.out, (HB2.out.mono hB).trans HB4.out, (KeepX.of_below HB2.out).trans HK4.out⟩
end Go.Proofs.Ytelndbjjkhlacaa
namespace Go.Proofs.Ytelndbjjkhlacaa
open Go.RowKit Go.Maps

theorem gb_alloc {w w' : World} {o : Obj} {r : Option Nat} (h : (w.alloc o).grownBy w' r) (hr : ∀ k, r = some k → k < w.heap.size) : w.grownBy w' r :=
  ⟨h.os, h.tape, h.output, by have := h.size; simp only [World.size_alloc] at this; omega, fun b hb hn => (h.block b (by simp; omega) hn).trans (Below.heap_alloc w o b hb)⟩
def turnA (t : Turn) : Value := .agg #[.int .i64 t.k, .string t.a, .string t.b, pF t.f]
theorem size_del_le {D : DT} (h : Tidy D) (k : Lit) : size (D.del k) ≤ size D := by
  have := size_del (k := k) h
  omega
theorem size_put_le {D : DT} (h : Tidy D) (k : Lit) (d : DT) : size (D.put k d) ≤ size D + 1 := by
  have := size_put (k := k) h d
  split at this <;> omega
theorem tidy_lead {D : DT} (h : Tidy D) (t : Turn) : Tidy (leadD D t) := by
  unfold leadD
  split
  · exact h.put (keyS _) _
  split
  · split
    · exact (h.del _).put (keyS _) _
    · exact h
  split
  · exact h.del _
  · exact h
theorem size_lead {D : DT} (h : Tidy D) (t : Turn) : size (leadD D t) ≤ size D + 1 := by
  unfold leadD
  split
  · exact size_put_le h _ _
  split
  · split
    · have h1 := size_del_le h (kl t.a)
      have h2 := size_put_le (h.del (kl t.a)) (kl t.b) (enc ‹Nat›)
      omega
    · omega
  split
  · have h1 := size_del_le h (kl t.a)
    omega
  · omega
set_option maxRecDepth 100000 in
set_option maxHeartbeats 1000000 in
theorem lead_any (W : World) (bn : Nat) (D : DT) (hn : NmAt W bn D) (hD : size D < maxLen) (t : Turn) (ha : t.a.size ≤ maxLen) (hb : t.b.size ≤ maxLen) (hk : t.k = 0 → t.f ≠ none) :
    Calls Try.prog 43 #[turnA t, .map (some bn)] W fun e w' => e = .returned (.tuple #[]) ∧ NmAt w' bn (leadD D t) ∧ W.grownBy w' (some bn) := by
  have hlt := hn.lt
  have hb0 : Below W.heap.size W (W.alloc (.cells #[.int .i64 t.k, .string t.a, .string t.b, pF t.f] 66)) := (Below.refl _ W).alloc (Nat.le_refl _) _
  have hn1 : NmAt (W.alloc (.cells #[.int .i64 t.k, .string t.a, .string t.b, pF t.f] 66)) bn D := hn.of_block (hb0.block bn hlt)
  have HG : Hid (∀ w', (W.alloc (.cells #[.int .i64 t.k, .string t.a, .string t.b, pF t.f] 66)).grownBy w' (some bn) → W.grownBy w' (some bn)) := fun w' h => gb_alloc h (fun k e => by cases e; exact hlt)
  have HN1 := Lib.hid hn1
  unfold turnA
  obtain ⟨k, a, b, f⟩ := t
  simp only at *
  clear hn hb0 hn1
  unfold leadD
  simp only
  by_cases e0 : k = 0
  · subst e0
    cases f with
    | none => exact absurd rfl (hk rfl)
    | some f =>
      clear hk
      unfold pF at *
      simp only at *
      obtain ⟨w2, hput, hn2, hg2⟩ := HN1.out.put hD a ha f
      have HN2 := Lib.hid hn2
      have HG2 := Lib.hid (HG.out _ hg2)
      clear hn2 hg2 HG HN1
      go_enter Try.func43, Try.ntmps43
      go_wp2
      go_end0
      exact ⟨rfl, HN2.out, HG2.out⟩
  · rw [if_neg e0]
    have d0 : (k == 0) = false := by simp [e0]
    clear hk
    generalize pF f = pv at *
    by_cases e1 : k = 1
    · subst e1
      rw [if_pos rfl]
      have hlk := HN1.out.look a ha
      cases hf : fileOf D a with
      | none =>
        rw [hf] at hlk
        unfold pF at hlk
        simp only at hlk
        clear hf
        have HGR := Lib.hid (HG.out _ (gb_refl _ _))
        clear HG
        simp only
        go_enter Try.func43, Try.ntmps43
        go_wp2
        go_end0
        exact ⟨rfl, HN1.out, HGR.out⟩
      | some g =>
        rw [hf] at hlk
        unfold pF at hlk
        simp only at hlk
        clear hf
        obtain ⟨w2, hdel, hn2, hg2⟩ := HN1.out.drop a ha 0
        obtain ⟨w3, hput, hn3, hg3⟩ := hn2.put (Nat.lt_of_le_of_lt (size_del_le HN1.out.tidy (kl a)) hD) b hb g
        have HN3 := Lib.hid hn3
        have HG3 := Lib.hid (HG.out _ (gb_trans hg2 hg3))
        have hc2 : w2.cell? ⟨W.heap.size, 2, none⟩ = some (.string b) := (World.cell?_of_block (a := ⟨W.heap.size, 2, none⟩) (hg2.block W.heap.size (by simp) (fun e => by cases e; omega))).trans ((cell_of_row _ _ 2 _ _ _ (heap_alloc_new W _)).trans rfl)
        clear hn2 hg2 hn3 hg3 HG HN1
        simp only
        go_enter Try.func43, Try.ntmps43
        go_wp2
        go_end0
        exact ⟨rfl, HN3.out, HG3.out⟩
    · rw [if_neg e1]
      have d1 : (k == 1) = false := by simp [e1]
      by_cases e2 : k = 2
      · subst e2
        rw [if_pos rfl]
        obtain ⟨w2, hdel, hn2, hg2⟩ := HN1.out.drop a ha 0
        have HN2 := Lib.hid hn2
        have HG2 := Lib.hid (HG.out _ hg2)
        clear hn2 hg2 HG HN1
        go_enter Try.func43, Try.ntmps43
        go_wp2
        go_end0
        exact ⟨rfl, HN2.out, HG2.out⟩
      · rw [if_neg e2]
        have d2 : (k == 2) = false := by simp [e2]
        have HGR := Lib.hid (HG.out _ (gb_refl _ _))
        clear HG
        go_enter Try.func43, Try.ntmps43
        go_wp2
        go_end0
        exact ⟨rfl, HN1.out, HGR.out⟩
end Go.Proofs.Ytelndbjjkhlacaa
