/-
  A call on a file that has a name.
-/
import Derived.Test.YtelndbjjkhlacaaDkCall
namespace Go.Proofs.Ytelndbjjkhlacaa
open Go.RowKit Go.Maps

theorem DiskAt.drewN {B : Nat} {w : World} {bd : Nat} {S : DSt} (h : DiskAt B w bd S) (q : Nat) : DiskAt B (w.drewN q) bd S := h.below (below_drewN (Below.refl _ _) q)
theorem Under.drewN {B bd : Nat} {w W : World} (h : Under B bd w W) (q : Nat) : Under B bd w (W.drewN q) := ⟨h.keep.drewN q, below_drewN h.below q⟩
theorem Under.trans {B bd : Nat} {w W W' : World} (h : Under B bd w W) (k : Under B bd W W') : Under B bd w W' := ⟨h.keep.trans k.keep, h.below.trans k.below⟩
theorem Under.cell {B bd : Nat} {w W : World} (h : Under B bd w W) {p : Addr} {v : Value} (hc : w.cell? p = some v) (hp : p.block ≠ bd) : W.cell? p = some v :=
  (World.cell?_of_block (h.keep.block p.block (World.block_lt_of_cell? w _ hc) hp)).trans hc
def findR (D : DT) (s : ByteArray) (S : DSt) (R : Nat → Int → DSt → Prop) (z : Int) (S' : DSt) : Prop := match fileOf D s with
  | none => z = 11 ∧ S' = S
  | some f => R f z S'
def onR (S : DSt) (s : ByteArray) (R : Nat → Int → DSt → Prop) (z : Int) (S' : DSt) : Prop := if okN s = true then findR S.names s { S with calls := S.calls + 1 } R z S' else z = 10 ∧ S' = S
theorem box_cell (w : World) (v : Value) (t : TypeId) : (w.alloc (.cells #[v] t)).cell? ⟨w.heap.size, 0, none⟩ = some v := (Boxed.new w t v).cell
set_option maxRecDepth 100000 in
set_option maxHeartbeats 1000000 in
theorem on1_append (B : Nat) (W : World) (bd : Nat) (S : DSt) (A : Nat → Prop) (h : DiskAv B W bd S A) (s : ByteArray) (hs : s.size ≤ maxLen) (lb : Array Value) (b0 b1 b2 : Nat) (c0 : W.cell? ⟨b0, 0, none⟩ = some (.pointer (some ⟨bd, 0, none⟩))) (c1 : W.cell? ⟨b1, 0, none⟩ = some (.string s)) (c2 : W.cell? ⟨b2, 0, none⟩ = some (.func (.func 36) #[] lb))
    (R : Nat → Int → DSt → Prop) (hdo : ∀ f q, fileOf S.names s = some f → Calls Try.prog 36 (#[ptrB f] ++ lb) (W.drewN q) (DPost B A (W.drewN q) bd (R f))) :
    Calls Try.prog 53 #[.pointer (some ⟨b0, 0, none⟩), .pointer (some ⟨b1, 0, none⟩), .pointer (some ⟨b2, 0, none⟩)] W (DPost B A W bd (findR S.names s S R)) := by
  have HA := Lib.hid h
  obtain ⟨ρ, vf, vt, bn, bl, V, hd, hav⟩ := h
  clear hav
  have c7 : W.cell? ⟨bd, 7, none⟩ = some (.map (some bn)) := hd.head.cell (i := 7) (by omega)
  have hlk : ∀ q, (Instr.lookup 56 (.map (some bn)) (.string s) false).run Try.prog (W.drewN q) = .ok (pF (fileOf S.names s)) (W.drewN q) := fun q => (hd.names.of_block (w' := W.drewN q) rfl).look s hs
  have HDO := Lib.hid hdo
  clear hd hdo
  unfold findR
  cases hf : fileOf S.names s with
  | none =>
    rw [hf] at hlk
    unfold pF at hlk
    simp only at hlk
    go_enter Try.func53, Try.ntmps53
    go_wp2_with fail
    go_quiet (fail)
    clear hlk c0 c1 c2 c7 HDO
    go_wp2
    go_ret
    exact ⟨11, S, rfl, ⟨rfl, rfl⟩, HA.out.drewN _, below_drewN (Below.refl _ _) _, (KeepX.refl _ _).drewN _⟩
  | some f =>
    rw [hf] at hlk
    unfold pF at hlk
    simp only at hlk
    have HF := Lib.hid hf
    clear hf
    go_enter Try.func53, Try.ntmps53
    go_wp2_with fail
    go_quiet (fail)
    clear hlk c0 c1 c7
    go_wp2_with fail
    refine (HDO.out f _ HF.out).mono ?_
    rintro e w2 ⟨z, S2, rfl, hR, hd2, hb2, hk2⟩
    have HK2 := Lib.hid hk2
    have HR := Lib.hid hR
    have HD2 := Lib.hid hd2
    have HB2 := Lib.hid hb2
    clear hR hd2 hb2 hk2 HDO
    go_wp2
    go_ret
    exact ⟨z, S2, rfl, HR.out, HD2.out, (below_drewN (Below.refl _ _) _).trans HB2.out, ((KeepX.refl _ _).drewN _).trans HK2.out⟩
set_option maxRecDepth 100000 in
set_option maxHeartbeats 1000000 in
theorem on_append (B : Nat) (w : World) (bd : Nat) (S : DSt) (A : Nat → Prop) (h : DiskAv B w bd S A) (hok : DOk S) (h1 : S.dead = false) (h2 : S.stop ≤ 0) (h3 : S.fail ≤ 0) (hB : B ≤ w.heap.size) (s : ByteArray) (hs : s.size ≤ maxLen) (lb : Array Value) (R : Nat → Int → DSt → Prop)
    (hdo : ∀ W f, DiskAv B W bd { S with calls := S.calls + 1 } A → Under B bd w W → fileOf S.names s = some f → Calls Try.prog 36 (#[ptrB f] ++ lb) W (DPost B A W bd (R f))) :
    Calls Try.prog 35 #[.pointer (some ⟨bd, 0, none⟩), .string s, .func (.func 36) #[] lb] w (DPost B A w bd (onR S s R)) := by
  have HNE := Lib.hid h.ne
  have HDO := Lib.hid hdo
  have HA := Lib.hid h
  have HOK := Lib.hid hok
  have H1 := Lib.hid h1
  clear h1
  have hbl : bd < w.heap.size := by obtain ⟨ρ, vf, vt, bn, bl, V, hd, _⟩ := h; exact hd.lt
  have B0 := Boxed.new w 22 (.pointer (some ⟨bd, 0, none⟩))
  have B1 := Boxed.new (w.alloc (.cells #[.pointer (some ⟨bd, 0, none⟩)] 22)) 9 (.string s)
  have B2 := Boxed.new ((w.alloc (.cells #[.pointer (some ⟨bd, 0, none⟩)] 22)).alloc (.cells #[.string s] 9)) 68 (.func (.func 36) #[] lb)
  simp only [World.size_alloc] at B1 B2
  have B0' := (B0.alloc (.cells #[.string s] 9)).alloc (.cells #[.func (.func 36) #[] lb] 68)
  have B1' := B1.alloc (.cells #[.func (.func 36) #[] lb] 68)
  have hbl3 : Below w.heap.size w (((w.alloc (.cells #[.pointer (some ⟨bd, 0, none⟩)] 22)).alloc (.cells #[.string s] 9)).alloc (.cells #[.func (.func 36) #[] lb] 68)) :=
    (((Below.refl _ w).alloc (Nat.le_refl _) _).alloc (by simp) _).alloc (by simp; omega) _
  have HU3 : Hid (Under B bd w (((w.alloc (.cells #[.pointer (some ⟨bd, 0, none⟩)] 22)).alloc (.cells #[.string s] 9)).alloc (.cells #[.func (.func 36) #[] lb] 68))) :=
    ⟨KeepX.of_below hbl3, hbl3.mono hB⟩
  have HS3 : Hid ((((w.alloc (.cells #[.pointer (some ⟨bd, 0, none⟩)] 22)).alloc (.cells #[.string s] 9)).alloc (.cells #[.func (.func 36) #[] lb] 68)).heap.size = w.heap.size + 3) := by show _ = _; simp
  have HA3 := Lib.hid (h.below hbl3)
  have HX0 := Lib.hid B0'.cell
  have HX1 := Lib.hid B1'.cell
  have HX2 := Lib.hid B2.cell
  have hnm := name_any (((w.alloc (.cells #[.pointer (some ⟨bd, 0, none⟩)] 22)).alloc (.cells #[.string s] 9)).alloc (.cells #[.func (.func 36) #[] lb] 68)) s hs
  have HNM := Lib.hid hnm
  clear hdo B0 B1 B2 B0' B1' hbl3 hnm h hok
  unfold onR
  cases hk : okN s with
  | false =>
    rw [hk] at HNM
    clear hk
    go_enter Try.func35, Try.ntmps35
    go_wp2_with fail
    refine HNM.out.mono ?_
    rintro e w' ⟨rfl, j, rfl⟩
    go_wp2
    go_ret
    exact ⟨10, S, rfl, ⟨rfl, rfl⟩, (HA3.out.drewN _), (HU3.out.drewN _).below, (HU3.out.drewN _).keep.mono fun b _ hb => HNE.out b hb⟩
  | true =>
    rw [hk] at HNM
    clear hk
    go_enter Try.func35, Try.ntmps35
    go_wp2_with fail
    refine HNM.out.mono ?_
    rintro e w' ⟨rfl, j, rfl⟩
    go_wp2_with fail
    generalize hw3 : ((w.alloc (.cells #[.pointer (some ⟨bd, 0, none⟩)] 22)).alloc (.cells #[.string s] 9)).alloc (.cells #[.func (.func 36) #[] lb] 68) = w3 at *
    clear hw3
    have HC := Lib.hid (call_on B (w3.drewN j) bd S A (HA3.out.drewN j) HOK.out H1.out h2 h3 (by have := HS3.out; show B ≤ w3.heap.size; omega) #[.pointer (some ⟨w.heap.size, 0, none⟩), .pointer (some ⟨w.heap.size + 1, 0, none⟩), .pointer (some ⟨w.heap.size + 1 + 1, 0, none⟩)] (findR S.names s { S with calls := S.calls + 1 } R) (fun W hW hu => by
      have hu2 := (HU3.out.drewN j).trans hu
      refine on1_append B W bd { S with calls := S.calls + 1 } A hW s hs lb _ _ _ (hu.cell (p := ⟨w.heap.size, 0, none⟩) HX0.out (by show w.heap.size ≠ bd; omega)) (hu.cell (p := ⟨w.heap.size + 1, 0, none⟩) HX1.out (by show w.heap.size + 1 ≠ bd; omega)) (hu.cell (p := ⟨w.heap.size + 1 + 1, 0, none⟩) HX2.out (by show w.heap.size + 1 + 1 ≠ bd; omega)) R (fun f q hf => HDO.out (W.drewN q) f (hW.drewN q) (hu2.drewN q) hf)))
    clear HX0 HX1 HX2 HNM HDO
    refine HC.out.mono ?_
    rintro e w4 ⟨z, S2, rfl, hR, hd2, hb2, hk2⟩
    have HK2 := Lib.hid hk2
    have HR := Lib.hid hR
    have HD2 := Lib.hid hd2
    have HB2 := Lib.hid hb2
    clear hR hd2 hb2 hk2 HC
    go_wp2
    go_ret
    exact ⟨z, S2, rfl, HR.out, HD2.out, (HU3.out.drewN j).below.trans HB2.out, ((HU3.out.drewN j).keep.mono fun b _ hb => HNE.out b hb).trans HK2.out⟩
set_option maxRecDepth 100000 in
set_option maxHeartbeats 1000000 in
theorem on1_sync (B : Nat) (W : World) (bd : Nat) (S : DSt) (A : Nat → Prop) (h : DiskAv B W bd S A) (s : ByteArray) (hs : s.size ≤ maxLen) (lb : Array Value) (b0 b1 b2 : Nat) (c0 : W.cell? ⟨b0, 0, none⟩ = some (.pointer (some ⟨bd, 0, none⟩))) (c1 : W.cell? ⟨b1, 0, none⟩ = some (.string s)) (c2 : W.cell? ⟨b2, 0, none⟩ = some (.func (.func 46) #[] lb))
    (R : Nat → Int → DSt → Prop) (hdo : ∀ f q, fileOf S.names s = some f → Calls Try.prog 46 (#[ptrB f] ++ lb) (W.drewN q) (DPost B A (W.drewN q) bd (R f))) :
    Calls Try.prog 53 #[.pointer (some ⟨b0, 0, none⟩), .pointer (some ⟨b1, 0, none⟩), .pointer (some ⟨b2, 0, none⟩)] W (DPost B A W bd (findR S.names s S R)) := by
  have HA := Lib.hid h
  obtain ⟨ρ, vf, vt, bn, bl, V, hd, hav⟩ := h
  clear hav
  have c7 : W.cell? ⟨bd, 7, none⟩ = some (.map (some bn)) := hd.head.cell (i := 7) (by omega)
  have hlk : ∀ q, (Instr.lookup 56 (.map (some bn)) (.string s) false).run Try.prog (W.drewN q) = .ok (pF (fileOf S.names s)) (W.drewN q) := fun q => (hd.names.of_block (w' := W.drewN q) rfl).look s hs
  have HDO := Lib.hid hdo
  clear hd hdo
  unfold findR
  cases hf : fileOf S.names s with
  | none =>
    rw [hf] at hlk
    unfold pF at hlk
    simp only at hlk
    go_enter Try.func53, Try.ntmps53
    go_wp2_with fail
    go_quiet (fail)
    clear hlk c0 c1 c2 c7 HDO
    go_wp2
    go_ret
    exact ⟨11, S, rfl, ⟨rfl, rfl⟩, HA.out.drewN _, below_drewN (Below.refl _ _) _, (KeepX.refl _ _).drewN _⟩
  | some f =>
    rw [hf] at hlk
    unfold pF at hlk
    simp only at hlk
    have HF := Lib.hid hf
    clear hf
    go_enter Try.func53, Try.ntmps53
    go_wp2_with fail
    go_quiet (fail)
    clear hlk c0 c1 c7
    go_wp2_with fail
    refine (HDO.out f _ HF.out).mono ?_
    rintro e w2 ⟨z, S2, rfl, hR, hd2, hb2, hk2⟩
    have HK2 := Lib.hid hk2
    have HR := Lib.hid hR
    have HD2 := Lib.hid hd2
    have HB2 := Lib.hid hb2
    clear hR hd2 hb2 hk2 HDO
    go_wp2
    go_ret
    exact ⟨z, S2, rfl, HR.out, HD2.out, (below_drewN (Below.refl _ _) _).trans HB2.out, ((KeepX.refl _ _).drewN _).trans HK2.out⟩
set_option maxRecDepth 100000 in
set_option maxHeartbeats 1000000 in
theorem on_sync (B : Nat) (w : World) (bd : Nat) (S : DSt) (A : Nat → Prop) (h : DiskAv B w bd S A) (hok : DOk S) (h1 : S.dead = false) (h2 : S.stop ≤ 0) (h3 : S.fail ≤ 0) (hB : B ≤ w.heap.size) (s : ByteArray) (hs : s.size ≤ maxLen) (lb : Array Value) (R : Nat → Int → DSt → Prop)
    (hdo : ∀ W f, DiskAv B W bd { S with calls := S.calls + 1 } A → Under B bd w W → fileOf S.names s = some f → Calls Try.prog 46 (#[ptrB f] ++ lb) W (DPost B A W bd (R f))) :
    Calls Try.prog 35 #[.pointer (some ⟨bd, 0, none⟩), .string s, .func (.func 46) #[] lb] w (DPost B A w bd (onR S s R)) := by
  have HNE := Lib.hid h.ne
  have HDO := Lib.hid hdo
  have HA := Lib.hid h
  have HOK := Lib.hid hok
  have H1 := Lib.hid h1
  clear h1
  have hbl : bd < w.heap.size := by obtain ⟨ρ, vf, vt, bn, bl, V, hd, _⟩ := h; exact hd.lt
  have B0 := Boxed.new w 22 (.pointer (some ⟨bd, 0, none⟩))
  have B1 := Boxed.new (w.alloc (.cells #[.pointer (some ⟨bd, 0, none⟩)] 22)) 9 (.string s)
  have B2 := Boxed.new ((w.alloc (.cells #[.pointer (some ⟨bd, 0, none⟩)] 22)).alloc (.cells #[.string s] 9)) 68 (.func (.func 46) #[] lb)
  simp only [World.size_alloc] at B1 B2
  have B0' := (B0.alloc (.cells #[.string s] 9)).alloc (.cells #[.func (.func 46) #[] lb] 68)
  have B1' := B1.alloc (.cells #[.func (.func 46) #[] lb] 68)
  have hbl3 : Below w.heap.size w (((w.alloc (.cells #[.pointer (some ⟨bd, 0, none⟩)] 22)).alloc (.cells #[.string s] 9)).alloc (.cells #[.func (.func 46) #[] lb] 68)) :=
    (((Below.refl _ w).alloc (Nat.le_refl _) _).alloc (by simp) _).alloc (by simp; omega) _
  have HU3 : Hid (Under B bd w (((w.alloc (.cells #[.pointer (some ⟨bd, 0, none⟩)] 22)).alloc (.cells #[.string s] 9)).alloc (.cells #[.func (.func 46) #[] lb] 68))) :=
    ⟨KeepX.of_below hbl3, hbl3.mono hB⟩
  have HS3 : Hid ((((w.alloc (.cells #[.pointer (some ⟨bd, 0, none⟩)] 22)).alloc (.cells #[.string s] 9)).alloc (.cells #[.func (.func 46) #[] lb] 68)).heap.size = w.heap.size + 3) := by show _ = _; simp
  have HA3 := Lib.hid (h.below hbl3)
  have HX0 := Lib.hid B0'.cell
  have HX1 := Lib.hid B1'.cell
  have HX2 := Lib.hid B2.cell
  have hnm := name_any (((w.alloc (.cells #[.pointer (some ⟨bd, 0, none⟩)] 22)).alloc (.cells #[.string s] 9)).alloc (.cells #[.func (.func 46) #[] lb] 68)) s hs
  have HNM := Lib.hid hnm
  clear hdo B0 B1 B2 B0' B1' hbl3 hnm h hok
  unfold onR
  cases hk : okN s with
  | false =>
    rw [hk] at HNM
    clear hk
    go_enter Try.func35, Try.ntmps35
    go_wp2_with fail
    refine HNM.out.mono ?_
    rintro e w' ⟨rfl, j, rfl⟩
    go_wp2
    go_ret
    exact ⟨10, S, rfl, ⟨rfl, rfl⟩, (HA3.out.drewN _), (HU3.out.drewN _).below, (HU3.out.drewN _).keep.mono fun b _ hb => HNE.out b hb⟩
  | true =>
    rw [hk] at HNM
    clear hk
    go_enter Try.func35, Try.ntmps35
    go_wp2_with fail
    refine HNM.out.mono ?_
    rintro e w' ⟨rfl, j, rfl⟩
    go_wp2_with fail
    generalize hw3 : ((w.alloc (.cells #[.pointer (some ⟨bd, 0, none⟩)] 22)).alloc (.cells #[.string s] 9)).alloc (.cells #[.func (.func 46) #[] lb] 68) = w3 at *
    clear hw3
    have HC := Lib.hid (call_on B (w3.drewN j) bd S A (HA3.out.drewN j) HOK.out H1.out h2 h3 (by have := HS3.out; show B ≤ w3.heap.size; omega) #[.pointer (some ⟨w.heap.size, 0, none⟩), .pointer (some ⟨w.heap.size + 1, 0, none⟩), .pointer (some ⟨w.heap.size + 1 + 1, 0, none⟩)] (findR S.names s { S with calls := S.calls + 1 } R) (fun W hW hu => by
      have hu2 := (HU3.out.drewN j).trans hu
      refine on1_sync B W bd { S with calls := S.calls + 1 } A hW s hs lb _ _ _ (hu.cell (p := ⟨w.heap.size, 0, none⟩) HX0.out (by show w.heap.size ≠ bd; omega)) (hu.cell (p := ⟨w.heap.size + 1, 0, none⟩) HX1.out (by show w.heap.size + 1 ≠ bd; omega)) (hu.cell (p := ⟨w.heap.size + 1 + 1, 0, none⟩) HX2.out (by show w.heap.size + 1 + 1 ≠ bd; omega)) R (fun f q hf => HDO.out (W.drewN q) f (hW.drewN q) (hu2.drewN q) hf)))
    clear HX0 HX1 HX2 HNM HDO
    refine HC.out.mono ?_
    rintro e w4 ⟨z, S2, rfl, hR, hd2, hb2, hk2⟩
    have HK2 := Lib.hid hk2
    have HR := Lib.hid hR
    have HD2 := Lib.hid hd2
    have HB2 := Lib.hid hb2
    clear hR hd2 hb2 hk2 HC
    go_wp2
    go_ret
    exact ⟨z, S2, rfl, HR.out, HD2.out, (HU3.out.drewN j).below.trans HB2.out, ((HU3.out.drewN j).keep.mono fun b _ hb => HNE.out b hb).trans HK2.out⟩
set_option maxRecDepth 100000 in
set_option maxHeartbeats 1000000 in
theorem on1_rename (B : Nat) (W : World) (bd : Nat) (S : DSt) (A : Nat → Prop) (h : DiskAv B W bd S A) (s : ByteArray) (hs : s.size ≤ maxLen) (lb : Array Value) (b0 b1 b2 : Nat) (c0 : W.cell? ⟨b0, 0, none⟩ = some (.pointer (some ⟨bd, 0, none⟩))) (c1 : W.cell? ⟨b1, 0, none⟩ = some (.string s)) (c2 : W.cell? ⟨b2, 0, none⟩ = some (.func (.func 48) #[] lb))
    (R : Nat → Int → DSt → Prop) (hdo : ∀ f q, fileOf S.names s = some f → Calls Try.prog 48 (#[ptrB f] ++ lb) (W.drewN q) (DPost B A (W.drewN q) bd (R f))) :
    Calls Try.prog 53 #[.pointer (some ⟨b0, 0, none⟩), .pointer (some ⟨b1, 0, none⟩), .pointer (some ⟨b2, 0, none⟩)] W (DPost B A W bd (findR S.names s S R)) := by
  have HA := Lib.hid h
  obtain ⟨ρ, vf, vt, bn, bl, V, hd, hav⟩ := h
  clear hav
  have c7 : W.cell? ⟨bd, 7, none⟩ = some (.map (some bn)) := hd.head.cell (i := 7) (by omega)
  have hlk : ∀ q, (Instr.lookup 56 (.map (some bn)) (.string s) false).run Try.prog (W.drewN q) = .ok (pF (fileOf S.names s)) (W.drewN q) := fun q => (hd.names.of_block (w' := W.drewN q) rfl).look s hs
  have HDO := Lib.hid hdo
  clear hd hdo
  unfold findR
  cases hf : fileOf S.names s with
  | none =>
    rw [hf] at hlk
    unfold pF at hlk
    simp only at hlk
    go_enter Try.func53, Try.ntmps53
    go_wp2_with fail
    go_quiet (fail)
    clear hlk c0 c1 c2 c7 HDO
    go_wp2
    go_ret
    exact ⟨11, S, rfl, ⟨rfl, rfl⟩, HA.out.drewN _, below_drewN (Below.refl _ _) _, (KeepX.refl _ _).drewN _⟩
  | some f =>
    rw [hf] at hlk
    unfold pF at hlk
    simp only at hlk
    have HF := Lib.hid hf
    clear hf
    go_enter Try.func53, Try.ntmps53
    go_wp2_with fail
    go_quiet (fail)
    clear hlk c0 c1 c7
    go_wp2_with fail
    refine (HDO.out f _ HF.out).mono ?_
    rintro e w2 ⟨z, S2, rfl, hR, hd2, hb2, hk2⟩
    have HK2 := Lib.hid hk2
    have HR := Lib.hid hR
    have HD2 := Lib.hid hd2
    have HB2 := Lib.hid hb2
    clear hR hd2 hb2 hk2 HDO
    go_wp2
    go_ret
    exact ⟨z, S2, rfl, HR.out, HD2.out, (below_drewN (Below.refl _ _) _).trans HB2.out, ((KeepX.refl _ _).drewN _).trans HK2.out⟩
set_option maxRecDepth 100000 in
set_option maxHeartbeats 1000000 in
theorem on_rename (B : Nat) (w : World) (bd : Nat) (S : DSt) (A : Nat → Prop) (h : DiskAv B w bd S A) (hok : DOk S) (h1 : S.dead = false) (h2 : S.stop ≤ 0) (h3 : S.fail ≤ 0) (hB : B ≤ w.heap.size) (s : ByteArray) (hs : s.size ≤ maxLen) (lb : Array Value) (R : Nat → Int → DSt → Prop)
    (hdo : ∀ W f, DiskAv B W bd { S with calls := S.calls + 1 } A → Under B bd w W → fileOf S.names s = some f → Calls Try.prog 48 (#[ptrB f] ++ lb) W (DPost B A W bd (R f))) :
    Calls Try.prog 35 #[.pointer (some ⟨bd, 0, none⟩), .string s, .func (.func 48) #[] lb] w (DPost B A w bd (onR S s R)) := by
  have HNE := Lib.hid h.ne
  have HDO := Lib.hid hdo
  have HA := Lib.hid h
  have HOK := Lib.hid hok
  have H1 := Lib.hid h1
  clear h1
  have hbl : bd < w.heap.size := by obtain ⟨ρ, vf, vt, bn, bl, V, hd, _⟩ := h; exact hd.lt
  have B0 := Boxed.new w 22 (.pointer (some ⟨bd, 0, none⟩))
  have B1 := Boxed.new (w.alloc (.cells #[.pointer (some ⟨bd, 0, none⟩)] 22)) 9 (.string s)
  have B2 := Boxed.new ((w.alloc (.cells #[.pointer (some ⟨bd, 0, none⟩)] 22)).alloc (.cells #[.string s] 9)) 68 (.func (.func 48) #[] lb)
  simp only [World.size_alloc] at B1 B2
  have B0' := (B0.alloc (.cells #[.string s] 9)).alloc (.cells #[.func (.func 48) #[] lb] 68)
  have B1' := B1.alloc (.cells #[.func (.func 48) #[] lb] 68)
  have hbl3 : Below w.heap.size w (((w.alloc (.cells #[.pointer (some ⟨bd, 0, none⟩)] 22)).alloc (.cells #[.string s] 9)).alloc (.cells #[.func (.func 48) #[] lb] 68)) :=
    (((Below.refl _ w).alloc (Nat.le_refl _) _).alloc (by simp) _).alloc (by simp; omega) _
  have HU3 : Hid (Under B bd w (((w.alloc (.cells #[.pointer (some ⟨bd, 0, none⟩)] 22)).alloc (.cells #[.string s] 9)).alloc (.cells #[.func (.func 48) #[] lb] 68))) :=
    ⟨KeepX.of_below hbl3, hbl3.mono hB⟩
  have HS3 : Hid ((((w.alloc (.cells #[.pointer (some ⟨bd, 0, none⟩)] 22)).alloc (.cells #[.string s] 9)).alloc (.cells #[.func (.func 48) #[] lb] 68)).heap.size = w.heap.size + 3) := by show _ = _; simp
  have HA3 := Lib.hid (h.below hbl3)
  have HX0 := Lib.hid B0'.cell
  have HX1 := Lib.hid B1'.cell
  have HX2 := Lib.hid B2.cell
  have hnm := name_any (((w.alloc (.cells #[.pointer (some ⟨bd, 0, none⟩)] 22)).alloc (.cells #[.string s] 9)).alloc (.cells #[.func (.func 48) #[] lb] 68)) s hs
  have HNM := Lib.hid hnm
  clear hdo B0 B1 B2 B0' B1' hbl3 hnm h hok
  unfold onR
  cases hk : okN s with
  | false =>
    rw [hk] at HNM
    clear hk
    go_enter Try.func35, Try.ntmps35
    go_wp2_with fail
    refine HNM.out.mono ?_
    rintro e w' ⟨rfl, j, rfl⟩
    go_wp2
    go_ret
    exact ⟨10, S, rfl, ⟨rfl, rfl⟩, (HA3.out.drewN _), (HU3.out.drewN _).below, (HU3.out.drewN _).keep.mono fun b _ hb => HNE.out b hb⟩
  | true =>
    rw [hk] at HNM
    clear hk
    go_enter Try.func35, Try.ntmps35
    go_wp2_with fail
    refine HNM.out.mono ?_
    rintro e w' ⟨rfl, j, rfl⟩
    go_wp2_with fail
    generalize hw3 : ((w.alloc (.cells #[.pointer (some ⟨bd, 0, none⟩)] 22)).alloc (.cells #[.string s] 9)).alloc (.cells #[.func (.func 48) #[] lb] 68) = w3 at *
    clear hw3
    have HC := Lib.hid (call_on B (w3.drewN j) bd S A (HA3.out.drewN j) HOK.out H1.out h2 h3 (by have := HS3.out; show B ≤ w3.heap.size; omega) #[.pointer (some ⟨w.heap.size, 0, none⟩), .pointer (some ⟨w.heap.size + 1, 0, none⟩), .pointer (some ⟨w.heap.size + 1 + 1, 0, none⟩)] (findR S.names s { S with calls := S.calls + 1 } R) (fun W hW hu => by
      have hu2 := (HU3.out.drewN j).trans hu
      refine on1_rename B W bd { S with calls := S.calls + 1 } A hW s hs lb _ _ _ (hu.cell (p := ⟨w.heap.size, 0, none⟩) HX0.out (by show w.heap.size ≠ bd; omega)) (hu.cell (p := ⟨w.heap.size + 1, 0, none⟩) HX1.out (by show w.heap.size + 1 ≠ bd; omega)) (hu.cell (p := ⟨w.heap.size + 1 + 1, 0, none⟩) HX2.out (by show w.heap.size + 1 + 1 ≠ bd; omega)) R (fun f q hf => HDO.out (W.drewN q) f (hW.drewN q) (hu2.drewN q) hf)))
    clear HX0 HX1 HX2 HNM HDO
    refine HC.out.mono ?_
    rintro e w4 ⟨z, S2, rfl, hR, hd2, hb2, hk2⟩
    have HK2 := Lib.hid hk2
    have HR := Lib.hid hR
    have HD2 := Lib.hid hd2
    have HB2 := Lib.hid hb2
    clear hR hd2 hb2 hk2 HC
    go_wp2
    go_ret
    exact ⟨z, S2, rfl, HR.out, HD2.out, (HU3.out.drewN j).below.trans HB2.out, ((HU3.out.drewN j).keep.mono fun b _ hb => HNE.out b hb).trans HK2.out⟩
set_option maxRecDepth 100000 in
set_option maxHeartbeats 1000000 in
theorem on1_remove (B : Nat) (W : World) (bd : Nat) (S : DSt) (A : Nat → Prop) (h : DiskAv B W bd S A) (s : ByteArray) (hs : s.size ≤ maxLen) (lb : Array Value) (b0 b1 b2 : Nat) (c0 : W.cell? ⟨b0, 0, none⟩ = some (.pointer (some ⟨bd, 0, none⟩))) (c1 : W.cell? ⟨b1, 0, none⟩ = some (.string s)) (c2 : W.cell? ⟨b2, 0, none⟩ = some (.func (.func 47) #[] lb))
    (R : Nat → Int → DSt → Prop) (hdo : ∀ f q, fileOf S.names s = some f → Calls Try.prog 47 (#[ptrB f] ++ lb) (W.drewN q) (DPost B A (W.drewN q) bd (R f))) :
    Calls Try.prog 53 #[.pointer (some ⟨b0, 0, none⟩), .pointer (some ⟨b1, 0, none⟩), .pointer (some ⟨b2, 0, none⟩)] W (DPost B A W bd (findR S.names s S R)) := by
  have HA := Lib.hid h
  obtain ⟨ρ, vf, vt, bn, bl, V, hd, hav⟩ := h
  clear hav
  have c7 : W.cell? ⟨bd, 7, none⟩ = some (.map (some bn)) := hd.head.cell (i := 7) (by omega)
  have hlk : ∀ q, (Instr.lookup 56 (.map (some bn)) (.string s) false).run Try.prog (W.drewN q) = .ok (pF (fileOf S.names s)) (W.drewN q) := fun q => (hd.names.of_block (w' := W.drewN q) rfl).look s hs
  have HDO := Lib.hid hdo
  clear hd hdo
  unfold findR
  cases hf : fileOf S.names s with
  | none =>
    rw [hf] at hlk
    unfold pF at hlk
    simp only at hlk
    go_enter Try.func53, Try.ntmps53
    go_wp2_with fail
    go_quiet (fail)
    clear hlk c0 c1 c2 c7 HDO
    go_wp2
    go_ret
    exact ⟨11, S, rfl, ⟨rfl, rfl⟩, HA.out.drewN _, below_drewN (Below.refl _ _) _, (KeepX.refl _ _).drewN _⟩
  | some f =>
    rw [hf] at hlk
    unfold pF at hlk
    simp only at hlk
    have HF := Lib.hid hf
    clear hf
    go_enter Try.func53, Try.ntmps53
    go_wp2_with fail
    go_quiet (fail)
    clear hlk c0 c1 c7
    go_wp2_with fail
    refine (HDO.out f _ HF.out).mono ?_
    rintro e w2 ⟨z, S2, rfl, hR, hd2, hb2, hk2⟩
    have HK2 := Lib.hid hk2
    have HR := Lib.hid hR
    have HD2 := Lib.hid hd2
    have HB2 := Lib.hid hb2
    clear hR hd2 hb2 hk2 HDO
    go_wp2
    go_ret
    exact ⟨z, S2, rfl, HR.out, HD2.out, (below_drewN (Below.refl _ _) _).trans HB2.out, ((KeepX.refl _ _).drewN _).trans HK2.out⟩
set_option maxRecDepth 100000 in
set_option maxHeartbeats 1000000 in
theorem on_remove (B : Nat) (w : World) (bd : Nat) (S : DSt) (A : Nat → Prop) (h : DiskAv B w bd S A) (hok : DOk S) (h1 : S.dead = false) (h2 : S.stop ≤ 0) (h3 : S.fail ≤ 0) (hB : B ≤ w.heap.size) (s : ByteArray) (hs : s.size ≤ maxLen) (lb : Array Value) (R : Nat → Int → DSt → Prop)
    (hdo : ∀ W f, DiskAv B W bd { S with calls := S.calls + 1 } A → Under B bd w W → fileOf S.names s = some f → Calls Try.prog 47 (#[ptrB f] ++ lb) W (DPost B A W bd (R f))) :
    Calls Try.prog 35 #[.pointer (some ⟨bd, 0, none⟩), .string s, .func (.func 47) #[] lb] w (DPost B A w bd (onR S s R)) := by
  have HNE := Lib.hid h.ne
  have HDO := Lib.hid hdo
  have HA := Lib.hid h
  have HOK := Lib.hid hok
  have H1 := Lib.hid h1
  clear h1
  have hbl : bd < w.heap.size := by obtain ⟨ρ, vf, vt, bn, bl, V, hd, _⟩ := h; exact hd.lt
  have B0 := Boxed.new w 22 (.pointer (some ⟨bd, 0, none⟩))
  have B1 := Boxed.new (w.alloc (.cells #[.pointer (some ⟨bd, 0, none⟩)] 22)) 9 (.string s)
  have B2 := Boxed.new ((w.alloc (.cells #[.pointer (some ⟨bd, 0, none⟩)] 22)).alloc (.cells #[.string s] 9)) 68 (.func (.func 47) #[] lb)
  simp only [World.size_alloc] at B1 B2
  have B0' := (B0.alloc (.cells #[.string s] 9)).alloc (.cells #[.func (.func 47) #[] lb] 68)
  have B1' := B1.alloc (.cells #[.func (.func 47) #[] lb] 68)
  have hbl3 : Below w.heap.size w (((w.alloc (.cells #[.pointer (some ⟨bd, 0, none⟩)] 22)).alloc (.cells #[.string s] 9)).alloc (.cells #[.func (.func 47) #[] lb] 68)) :=
    (((Below.refl _ w).alloc (Nat.le_refl _) _).alloc (by simp) _).alloc (by simp; omega) _
  have HU3 : Hid (Under B bd w (((w.alloc (.cells #[.pointer (some ⟨bd, 0, none⟩)] 22)).alloc (.cells #[.string s] 9)).alloc (.cells #[.func (.func 47) #[] lb] 68))) :=
    ⟨KeepX.of_below hbl3, hbl3.mono hB⟩
  have HS3 : Hid ((((w.alloc (.cells #[.pointer (some ⟨bd, 0, none⟩)] 22)).alloc (.cells #[.string s] 9)).alloc (.cells #[.func (.func 47) #[] lb] 68)).heap.size = w.heap.size + 3) := by show _ = _; simp
  have HA3 := Lib.hid (h.below hbl3)
  have HX0 := Lib.hid B0'.cell
  have HX1 := Lib.hid B1'.cell
  have HX2 := Lib.hid B2.cell
  have hnm := name_any (((w.alloc (.cells #[.pointer (some ⟨bd, 0, none⟩)] 22)).alloc (.cells #[.string s] 9)).alloc (.cells #[.func (.func 47) #[] lb] 68)) s hs
  have HNM := Lib.hid hnm
  clear hdo B0 B1 B2 B0' B1' hbl3 hnm h hok
  unfold onR
  cases hk : okN s with
  | false =>
    rw [hk] at HNM
    clear hk
    go_enter Try.func35, Try.ntmps35
    go_wp2_with fail
    refine HNM.out.mono ?_
    rintro e w' ⟨rfl, j, rfl⟩
    go_wp2
    go_ret
    exact ⟨10, S, rfl, ⟨rfl, rfl⟩, (HA3.out.drewN _), (HU3.out.drewN _).below, (HU3.out.drewN _).keep.mono fun b _ hb => HNE.out b hb⟩
  | true =>
    rw [hk] at HNM
    clear hk
    go_enter Try.func35, Try.ntmps35
    go_wp2_with fail
    refine HNM.out.mono ?_
    rintro e w' ⟨rfl, j, rfl⟩
    go_wp2_with fail
    generalize hw3 : ((w.alloc (.cells #[.pointer (some ⟨bd, 0, none⟩)] 22)).alloc (.cells #[.string s] 9)).alloc (.cells #[.func (.func 47) #[] lb] 68) = w3 at *
    clear hw3
    have HC := Lib.hid (call_on B (w3.drewN j) bd S A (HA3.out.drewN j) HOK.out H1.out h2 h3 (by have := HS3.out; show B ≤ w3.heap.size; omega) #[.pointer (some ⟨w.heap.size, 0, none⟩), .pointer (some ⟨w.heap.size + 1, 0, none⟩), .pointer (some ⟨w.heap.size + 1 + 1, 0, none⟩)] (findR S.names s { S with calls := S.calls + 1 } R) (fun W hW hu => by
      have hu2 := (HU3.out.drewN j).trans hu
      refine on1_remove B W bd { S with calls := S.calls + 1 } A hW s hs lb _ _ _ (hu.cell (p := ⟨w.heap.size, 0, none⟩) HX0.out (by show w.heap.size ≠ bd; omega)) (hu.cell (p := ⟨w.heap.size + 1, 0, none⟩) HX1.out (by show w.heap.size + 1 ≠ bd; omega)) (hu.cell (p := ⟨w.heap.size + 1 + 1, 0, none⟩) HX2.out (by show w.heap.size + 1 + 1 ≠ bd; omega)) R (fun f q hf => HDO.out (W.drewN q) f (hW.drewN q) (hu2.drewN q) hf)))
    clear HX0 HX1 HX2 HNM HDO
    refine HC.out.mono ?_
    rintro e w4 ⟨z, S2, rfl, hR, hd2, hb2, hk2⟩
    have HK2 := Lib.hid hk2
    have HR := Lib.hid hR
    have HD2 := Lib.hid hd2
    have HB2 := Lib.hid hb2
    clear hR hd2 hb2 hk2 HC
    go_wp2
    go_ret
    exact ⟨z, S2, rfl, HR.out, HD2.out, (HU3.out.drewN j).below.trans HB2.out, ((HU3.out.drewN j).keep.mono fun b _ hb => HNE.out b hb).trans HK2.out⟩
end Go.Proofs.Ytelndbjjkhlacaa
