/-
  A call that counts.
-/
import Derived.Test.YtelndbjjkhlacaaDkName
import Derived.Test.YtelndbjjkhlacaaDkNew
namespace Go.Proofs.Ytelndbjjkhlacaa
open Go.RowKit Go.Maps

/-- what a call leaves behind, ahead of what it does -/
def preS (S : DSt) : DSt := { S with calls := S.calls + 1, stop := if S.dead = false ∧ 0 < S.stop then S.stop - 1 else S.stop, fail := if S.dead = false ∧ 0 < S.fail then S.fail - 1 else S.fail }
def early (S : DSt) : Option Int := if S.dead then some 50 else if 0 < S.fail ∧ S.fail - 1 = 0 then some S.failE else none
/-- .. behind it -/
def postS (S S2 : DSt) : DSt := if S.dead = false ∧ 0 < S.stop then { S2 with dead := S2.dead || decide (S2.stop = 0) } else S2
def callR (S : DSt) (R : Int → DSt → Prop) (z : Int) (S' : DSt) : Prop := match early S with
  | some e => z = e ∧ S' = postS S (preS S)
  | none => ∃ S2, R z S2 ∧ S' = postS S S2
/-- a disk, none of whose blocks is one of these -/
def DiskAv (B : Nat) (w : World) (bd : Nat) (S : DSt) (A : Nat → Prop) : Prop := ∃ ρ vf vt bn bl V, DiskIn B w bd ρ S vf vt bn bl V ∧ ∀ b, A b → ρ b = .other
/-- an answer, and the disk's state behind it; blocks that are none of the disk's are kept -/
def DPost (B : Nat) (A : Nat → Prop) (w : World) (bd : Nat) (R : Int → DSt → Prop) (e : Ending) (w' : World) : Prop :=
  ∃ z S', e = .returned (.int .i64 z) ∧ R z S' ∧ DiskAv B w' bd S' A ∧ Below B w w' ∧ KeepX A w w'
theorem DiskAv.mono {B : Nat} {w : World} {bd : Nat} {S : DSt} {A A' : Nat → Prop} (h : DiskAv B w bd S A) (hA : ∀ b, A' b → A b) : DiskAv B w bd S A' := by
  obtain ⟨ρ, vf, vt, bn, bl, V, hd, ha⟩ := h
  exact ⟨ρ, vf, vt, bn, bl, V, hd, fun b hb => ha b (hA b hb)⟩
theorem DPost.mono {B : Nat} {A A' : Nat → Prop} {w : World} {bd : Nat} {R : Int → DSt → Prop} {e : Ending} {w' : World} (h : DPost B A w bd R e w') (hA : ∀ b, A' b → A b) : DPost B A' w bd R e w' := by
  obtain ⟨z, S', h1, h2, h3, h4, h5⟩ := h
  exact ⟨z, S', h1, h2, h3.mono hA, h4, h5.mono fun b _ hb => hA b hb⟩
theorem DiskAv.ne {B : Nat} {w : World} {bd : Nat} {S : DSt} {A : Nat → Prop} (h : DiskAv B w bd S A) : ∀ b, A b → b ≠ bd := fun b hb e => by
  obtain ⟨ρ, vf, vt, bn, bl, V, hd, ha⟩ := h
  have := ha b hb
  rw [e, hd.rd] at this
  cases this
theorem DiskAv.at {B : Nat} {w : World} {bd : Nat} {S : DSt} {A : Nat → Prop} (h : DiskAv B w bd S A) : DiskAt B w bd S := by
  obtain ⟨ρ, vf, vt, bn, bl, V, hd, _⟩ := h
  exact ⟨ρ, vf, vt, bn, bl, V, hd⟩
theorem DiskAt.av {B : Nat} {w : World} {bd : Nat} {S : DSt} (h : DiskAt B w bd S) : DiskAv B w bd S (fun _ => False) := by
  obtain ⟨ρ, vf, vt, bn, bl, V, hd⟩ := h
  exact ⟨ρ, vf, vt, bn, bl, V, hd, fun b hb => hb.elim⟩
/-- blocks that are new are none of the disk's -/
theorem DiskAt.avoid {B : Nat} {w W : World} {bd : Nat} {S : DSt} (h : DiskAt B w bd S) (hb : Below w.heap.size w W) (A : Nat → Prop) (hA : ∀ b, A b → w.heap.size ≤ b) : DiskAv B W bd S A := by
  obtain ⟨ρ, vf, vt, bn, bl, V, hd⟩ := h
  refine ⟨ρ, vf, vt, bn, bl, V, hd.below hb, fun b ha => ?_⟩
  have h1 := hA b ha
  by_cases e : ρ b = .other
  · exact e
  · have := (hd.base b e).2; omega
theorem DiskAv.avoid {B : Nat} {w W : World} {bd : Nat} {S : DSt} {A : Nat → Prop} (h : DiskAv B w bd S A) (hb : Below w.heap.size w W) (A' : Nat → Prop) (hA : ∀ b, A' b → w.heap.size ≤ b) : DiskAv B W bd S (fun b => A b ∨ A' b) := by
  obtain ⟨ρ, vf, vt, bn, bl, V, hd, hav⟩ := h
  refine ⟨ρ, vf, vt, bn, bl, V, hd.below hb, fun b ha => ?_⟩
  rcases ha with ha | ha
  · exact hav b ha
  · have h1 := hA b ha
    by_cases e : ρ b = .other
    · exact e
    · have := (hd.base b e).2; omega
theorem DiskAv.below {B : Nat} {w w' : World} {bd : Nat} {S : DSt} {A : Nat → Prop} (h : DiskAv B w bd S A) (hb : Below w.heap.size w w') : DiskAv B w' bd S A := by
  obtain ⟨ρ, vf, vt, bn, bl, V, hd, hA⟩ := h
  exact ⟨ρ, vf, vt, bn, bl, V, hd.below hb, hA⟩
theorem DiskAv.drewN {B : Nat} {w : World} {bd : Nat} {S : DSt} {A : Nat → Prop} (h : DiskAv B w bd S A) (q : Nat) : DiskAv B (w.drewN q) bd S A := h.below (below_drewN (Below.refl _ _) q)
/-- what stands while a call is under way: whatever lay, but for the disk's own cells -/
structure Under (B bd : Nat) (w W : World) : Prop where
  keep : KeepX (fun b => b ≠ bd) w W
  below : Below B w W
theorem preS_plain (S : DSt) (h2 : S.stop ≤ 0) (h3 : S.fail ≤ 0) : preS S = { S with calls := S.calls + 1 } := by
  unfold preS
  rw [if_neg (by omega), if_neg (by omega)]
theorem early_plain (S : DSt) (h1 : S.dead = false) (h3 : S.fail ≤ 0) : early S = none := by
  unfold early
  rw [h1, if_neg (by simp), if_neg (by omega)]
theorem postS_plain (S S2 : DSt) (h2 : S.stop ≤ 0) : postS S S2 = S2 := by
  unfold postS
  rw [if_neg (by omega)]
theorem ten {P : Nat → Prop} (h0 : P 0) (h1 : P 1) (h2 : P 2) (h3 : P 3) (h4 : P 4) (h5 : P 5) (h6 : P 6) (h7 : P 7) (h8 : P 8) (h9 : P 9) : ∀ j, j < 10 → P j := fun j hj => by
  match j, hj with
  | 0, _ => exact h0
  | 1, _ => exact h1
  | 2, _ => exact h2
  | 3, _ => exact h3
  | 4, _ => exact h4
  | 5, _ => exact h5
  | 6, _ => exact h6
  | 7, _ => exact h7
  | 8, _ => exact h8
  | 9, _ => exact h9
theorem DiskIn.ge {B : Nat} {w : World} {bd : Nat} {ρ : Nat → Role} {S : DSt} {vf vt : Value} {bn bl : Nat} {V : Nat → Value} (h : DiskIn B w bd ρ S vf vt bn bl V) : B ≤ bd := (h.base bd (by rw [h.rd]; simp)).1
theorem Under.alloc {B bd : Nat} {w W : World} (h : Under B bd w W) (hB : B ≤ W.heap.size) (o : Obj) : Under B bd w (W.alloc o) :=
  ⟨h.keep.trans (KeepX.of_below ((Below.refl _ _).alloc (Nat.le_refl _) _)), h.below.alloc hB _⟩
theorem Under.set {B bd : Nat} {w W : World} (h : Under B bd w W) (hB : B ≤ bd) (i : Nat) (v : Value) : Under B bd w (W.setCell ⟨bd, i, none⟩ v) :=
  ⟨h.keep.trans (KeepX.setCell W ⟨bd, i, none⟩ v (fun e => e rfl)), h.below.setCell (p := ⟨bd, i, none⟩) hB _⟩
theorem Under.refl (B bd : Nat) (w : World) : Under B bd w w := ⟨KeepX.refl _ _, Below.refl _ _⟩
set_option maxRecDepth 100000 in
set_option maxHeartbeats 1000000 in
theorem call_on (B : Nat) (w : World) (bd : Nat) (S : DSt) (A : Nat → Prop) (h : DiskAv B w bd S A) (hok : DOk S) (h1 : S.dead = false) (h2 : S.stop ≤ 0) (h3 : S.fail ≤ 0) (hB : B ≤ w.heap.size) (lb : Array Value) (R : Int → DSt → Prop)
    (hdo : ∀ W, DiskAv B W bd { S with calls := S.calls + 1 } A → Under B bd w W → Calls Try.prog 53 lb W (DPost B A W bd R)) :
    Calls Try.prog 33 #[.pointer (some ⟨bd, 0, none⟩), .func (.func 53) #[] lb] w (DPost B A w bd R) := by
  have HNE := Lib.hid h.ne
  obtain ⟨ρ, vf, vt, bn, bl, V, hd, hA⟩ := h
  have HAV := Lib.hid hA
  clear hA
  have hn := hok.nums
  have HD := Lib.hid hd
  have HDO := Lib.hid hdo
  have c1 : w.cell? ⟨bd, 1, none⟩ = some (.int .i64 S.calls) := hd.head.cell (i := 1) (by omega)
  have c2 : w.cell? ⟨bd, 2, none⟩ = some (.int .i64 S.stop) := hd.head.cell (i := 2) (by omega)
  have c3 : w.cell? ⟨bd, 3, none⟩ = some (.int .i64 S.fail) := hd.head.cell (i := 3) (by omega)
  have c5 : w.cell? ⟨bd, 5, none⟩ = some (.bool false) := by rw [← h1]; exact hd.head.cell (i := 5) (by omega)
  have f1 : w.frozen? ⟨bd, 1, none⟩ = false := hd.head.frozen 1
  have hbl := hd.lt
  have y1 : IntKind.i64.wrap (S.calls + 1) = S.calls + 1 := IntWalk.i64_in _ (by omega)
  have t2 : decide (0 < S.stop) = false := by simp; omega
  have t3 : decide (0 < S.fail) = false := by simp; omega
  clear hd hdo hn h1
  go_enter Try.func33, Try.ntmps33
  go_wp2_with fail
  have hda : DiskAv B ((w.setCell ⟨bd, 1, none⟩ (.int .i64 (S.calls + 1))).alloc (.cells #[.pointer (some ⟨bd, 0, none⟩)] 22)) bd { S with calls := S.calls + 1 } A :=
    ⟨ρ, vf, vt, bn, bl, V, (HD.out.setHead 1 (.int .i64 (S.calls + 1)) { S with calls := S.calls + 1 } rfl rfl rfl rfl rfl rfl (ten rfl rfl rfl rfl rfl rfl rfl rfl rfl rfl)).below ((Below.refl _ _).alloc (Nat.le_refl _) _), HAV.out⟩
  have hun : Under B bd w ((w.setCell ⟨bd, 1, none⟩ (.int .i64 (S.calls + 1))).alloc (.cells #[.pointer (some ⟨bd, 0, none⟩)] 22)) :=
    ((Under.refl B bd w).set HD.out.ge 1 _).alloc (by simp [World.setCell]; exact hB) _
  have HUN := Lib.hid hun
  refine (HDO.out _ hda hun).mono ?_
  rintro e w2 ⟨z, S2, rfl, hR, hd2, hb2, hk2⟩
  have HK2 := Lib.hid hk2
  have HR := Lib.hid hR
  have HD2 := Lib.hid hd2
  have HB2 := Lib.hid hb2
  clear hR hd2 hb2 hk2 hda hun c1 c2 c3 c5 f1 HDO
  go_wp2
  go_ret
  exact ⟨z, S2, rfl, HR.out, HD2.out, HUN.out.below.trans HB2.out, (HUN.out.keep.mono fun b _ hb => HNE.out b hb).trans HK2.out⟩
set_option maxRecDepth 100000 in
set_option maxHeartbeats 1000000 in
theorem call_create (B : Nat) (w : World) (bd : Nat) (S : DSt) (A : Nat → Prop) (h : DiskAv B w bd S A) (hok : DOk S) (h1 : S.dead = false) (h2 : S.stop ≤ 0) (h3 : S.fail ≤ 0) (hB : B ≤ w.heap.size) (lb : Array Value) (R : Int → DSt → Prop)
    (hdo : ∀ W, DiskAv B W bd { S with calls := S.calls + 1 } A → Under B bd w W → Calls Try.prog 34 lb W (DPost B A W bd R)) :
    Calls Try.prog 33 #[.pointer (some ⟨bd, 0, none⟩), .func (.func 34) #[] lb] w (DPost B A w bd R) := by
  have HNE := Lib.hid h.ne
  obtain ⟨ρ, vf, vt, bn, bl, V, hd, hA⟩ := h
  have HAV := Lib.hid hA
  clear hA
  have hn := hok.nums
  have HD := Lib.hid hd
  have HDO := Lib.hid hdo
  have c1 : w.cell? ⟨bd, 1, none⟩ = some (.int .i64 S.calls) := hd.head.cell (i := 1) (by omega)
  have c2 : w.cell? ⟨bd, 2, none⟩ = some (.int .i64 S.stop) := hd.head.cell (i := 2) (by omega)
  have c3 : w.cell? ⟨bd, 3, none⟩ = some (.int .i64 S.fail) := hd.head.cell (i := 3) (by omega)
  have c5 : w.cell? ⟨bd, 5, none⟩ = some (.bool false) := by rw [← h1]; exact hd.head.cell (i := 5) (by omega)
  have f1 : w.frozen? ⟨bd, 1, none⟩ = false := hd.head.frozen 1
  have hbl := hd.lt
  have y1 : IntKind.i64.wrap (S.calls + 1) = S.calls + 1 := IntWalk.i64_in _ (by omega)
  have t2 : decide (0 < S.stop) = false := by simp; omega
  have t3 : decide (0 < S.fail) = false := by simp; omega
  clear hd hdo hn h1
  go_enter Try.func33, Try.ntmps33
  go_wp2_with fail
  have hda : DiskAv B ((w.setCell ⟨bd, 1, none⟩ (.int .i64 (S.calls + 1))).alloc (.cells #[.pointer (some ⟨bd, 0, none⟩)] 22)) bd { S with calls := S.calls + 1 } A :=
    ⟨ρ, vf, vt, bn, bl, V, (HD.out.setHead 1 (.int .i64 (S.calls + 1)) { S with calls := S.calls + 1 } rfl rfl rfl rfl rfl rfl (ten rfl rfl rfl rfl rfl rfl rfl rfl rfl rfl)).below ((Below.refl _ _).alloc (Nat.le_refl _) _), HAV.out⟩
  have hun : Under B bd w ((w.setCell ⟨bd, 1, none⟩ (.int .i64 (S.calls + 1))).alloc (.cells #[.pointer (some ⟨bd, 0, none⟩)] 22)) :=
    ((Under.refl B bd w).set HD.out.ge 1 _).alloc (by simp [World.setCell]; exact hB) _
  have HUN := Lib.hid hun
  refine (HDO.out _ hda hun).mono ?_
  rintro e w2 ⟨z, S2, rfl, hR, hd2, hb2, hk2⟩
  have HK2 := Lib.hid hk2
  have HR := Lib.hid hR
  have HD2 := Lib.hid hd2
  have HB2 := Lib.hid hb2
  clear hR hd2 hb2 hk2 hda hun c1 c2 c3 c5 f1 HDO
  go_wp2
  go_ret
  exact ⟨z, S2, rfl, HR.out, HD2.out, HUN.out.below.trans HB2.out, (HUN.out.keep.mono fun b _ hb => HNE.out b hb).trans HK2.out⟩
set_option maxRecDepth 100000 in
set_option maxHeartbeats 1000000 in
theorem call_syncdir (B : Nat) (w : World) (bd : Nat) (S : DSt) (A : Nat → Prop) (h : DiskAv B w bd S A) (hok : DOk S) (h1 : S.dead = false) (h2 : S.stop ≤ 0) (h3 : S.fail ≤ 0) (hB : B ≤ w.heap.size) (lb : Array Value) (R : Int → DSt → Prop)
    (hdo : ∀ W, DiskAv B W bd { S with calls := S.calls + 1 } A → Under B bd w W → Calls Try.prog 40 lb W (DPost B A W bd R)) :
    Calls Try.prog 33 #[.pointer (some ⟨bd, 0, none⟩), .func (.func 40) #[] lb] w (DPost B A w bd R) := by
  have HNE := Lib.hid h.ne
  obtain ⟨ρ, vf, vt, bn, bl, V, hd, hA⟩ := h
  have HAV := Lib.hid hA
  clear hA
  have hn := hok.nums
  have HD := Lib.hid hd
  have HDO := Lib.hid hdo
  have c1 : w.cell? ⟨bd, 1, none⟩ = some (.int .i64 S.calls) := hd.head.cell (i := 1) (by omega)
  have c2 : w.cell? ⟨bd, 2, none⟩ = some (.int .i64 S.stop) := hd.head.cell (i := 2) (by omega)
  have c3 : w.cell? ⟨bd, 3, none⟩ = some (.int .i64 S.fail) := hd.head.cell (i := 3) (by omega)
  have c5 : w.cell? ⟨bd, 5, none⟩ = some (.bool false) := by rw [← h1]; exact hd.head.cell (i := 5) (by omega)
  have f1 : w.frozen? ⟨bd, 1, none⟩ = false := hd.head.frozen 1
  have hbl := hd.lt
  have y1 : IntKind.i64.wrap (S.calls + 1) = S.calls + 1 := IntWalk.i64_in _ (by omega)
  have t2 : decide (0 < S.stop) = false := by simp; omega
  have t3 : decide (0 < S.fail) = false := by simp; omega
  clear hd hdo hn h1
  go_enter Try.func33, Try.ntmps33
  go_wp2_with fail
  have hda : DiskAv B ((w.setCell ⟨bd, 1, none⟩ (.int .i64 (S.calls + 1))).alloc (.cells #[.pointer (some ⟨bd, 0, none⟩)] 22)) bd { S with calls := S.calls + 1 } A :=
    ⟨ρ, vf, vt, bn, bl, V, (HD.out.setHead 1 (.int .i64 (S.calls + 1)) { S with calls := S.calls + 1 } rfl rfl rfl rfl rfl rfl (ten rfl rfl rfl rfl rfl rfl rfl rfl rfl rfl)).below ((Below.refl _ _).alloc (Nat.le_refl _) _), HAV.out⟩
  have hun : Under B bd w ((w.setCell ⟨bd, 1, none⟩ (.int .i64 (S.calls + 1))).alloc (.cells #[.pointer (some ⟨bd, 0, none⟩)] 22)) :=
    ((Under.refl B bd w).set HD.out.ge 1 _).alloc (by simp [World.setCell]; exact hB) _
  have HUN := Lib.hid hun
  refine (HDO.out _ hda hun).mono ?_
  rintro e w2 ⟨z, S2, rfl, hR, hd2, hb2, hk2⟩
  have HK2 := Lib.hid hk2
  have HR := Lib.hid hR
  have HD2 := Lib.hid hd2
  have HB2 := Lib.hid hb2
  clear hR hd2 hb2 hk2 hda hun c1 c2 c3 c5 f1 HDO
  go_wp2
  go_ret
  exact ⟨z, S2, rfl, HR.out, HD2.out, HUN.out.below.trans HB2.out, (HUN.out.keep.mono fun b _ hb => HNE.out b hb).trans HK2.out⟩
end Go.Proofs.Ytelndbjjkhlacaa
