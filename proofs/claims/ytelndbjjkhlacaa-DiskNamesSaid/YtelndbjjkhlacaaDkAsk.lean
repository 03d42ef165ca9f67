/-
  Sync: a file's bytes last.
  A file that is asked: its bytes, its size; the disk's counts.
-/
import Derived.Test.YtelndbjjkhlacaaDkAppend
namespace Go.Proofs.Ytelndbjjkhlacaa
open Go.RowKit Go.Maps

def syncR (S : DSt) (f : Nat) (z : Int) (S' : DSt) : Prop := z = 0 ∧ S' = { S with fl := updN S.fl f (S.fb f).length }
set_option maxRecDepth 100000 in
set_option maxHeartbeats 1000000 in
theorem sync1_any (B : Nat) (W : World) (bd : Nat) (S : DSt) (A : Nat → Prop) (h : DiskAv B W bd S A) (hAl : ∀ b, A b → b < W.heap.size) (f : Nat) (hf : f ∈ S.files) :
    Calls Try.prog 46 #[ptrB f] W (DPost B A W bd (syncR S f)) := by
  have HAL := Lib.hid hAl
  clear hAl
  obtain ⟨ρ, vf, vt, bn, bl, V, hd, hav⟩ := h
  have HAV := Lib.hid hav
  clear hav
  obtain ⟨af, cf, hV, _⟩ := Row.of_owns (hd.bytes f hf)
  have x0 : W.cell? ⟨f, 0, none⟩ = some (.slice af (S.fb f).length cf) := by rw [← hV]; exact (hd.file f hf).cell (i := 0) (by omega)
  have x1 : W.cell? ⟨f, 1, none⟩ = some (.int .i64 (S.fl f : Int)) := (hd.file f hf).cell (i := 1) (by omega)
  have f1 := (hd.file f hf).frozen 1
  have hks : KeepX (fun b => b ≠ f) W (W.setCell ⟨f, 1, none⟩ (.int .i64 ((S.fb f).length : Int))) := KeepX.setCell W ⟨f, 1, none⟩ _ (fun h => h rfl)
  have hnf : ∀ g, (V f).ownBlock = some g → g ≠ f := fun g hg e => by
    subst e
    have h2 := hd.rbytes g hf g hg
    rw [hd.rfile g hf] at h2
    cases h2
  obtain ⟨ρ', hρ', hou⟩ := hd.turnFile (w' := W.setCell ⟨f, 1, none⟩ (.int .i64 ((S.fb f).length : Int))) hf (hks.mono fun b _ h => h.1) (V f) (S.fb f).length (S.fb f)
    (((hd.file f hf).set 1 _).congr fun j hj => by
      match j, hj with
      | 0, _ => rfl
      | 1, _ => rfl)
    (owns_keepX (hd.bytes f hf) hks hnf) (fun g hg => .inl hg)
  rw [updN_id, updN_id] at hρ'
  have HN := Lib.hid hρ'
  have HOU := Lib.hid hou
  clear hou
  have HB : Hid (Below B W (W.setCell ⟨f, 1, none⟩ (.int .i64 ((S.fb f).length : Int)))) := (Below.refl B W).setCell (p := ⟨f, 1, none⟩) (hd.base f (by rw [hd.rfile f hf]; simp)).1 _
  clear hd hV hks hnf hρ'
  go_enter Try.func46, Try.ntmps46
  go_wp2
  go_ret
  exact ⟨0, _, rfl, ⟨rfl, rfl⟩, ⟨_, _, _, _, _, _, HN.out, fun b hb => HOU.out.role b (HAL.out b hb) (HAV.out b hb)⟩, HB.out, HOU.out.keep.mono fun b _ hb => HAV.out b hb⟩
set_option maxRecDepth 100000 in
set_option maxHeartbeats 1000000 in
theorem sync_any (B : Nat) (w : World) (bd : Nat) (S : DSt) (A : Nat → Prop) (h : DiskAv B w bd S A) (hAl : ∀ b, A b → b < w.heap.size) (hok : DOk S) (h1 : S.dead = false) (h2 : S.stop ≤ 0) (h3 : S.fail ≤ 0) (hB : B ≤ w.heap.size) (s : ByteArray) (hs : s.size ≤ maxLen) :
    Calls Try.prog 23 #[.pointer (some ⟨bd, 0, none⟩), .string s] w (DPost B A w bd (onR S s (syncR { S with calls := S.calls + 1 }))) := by
  have HON := Lib.hid (on_sync B w bd S A h hok h1 h2 h3 hB s hs #[] (syncR { S with calls := S.calls + 1 }) (fun W f hW hu hf => sync1_any B W bd _ A hW (fun b hb => Nat.lt_of_lt_of_le (hAl b hb) hu.keep.size) f (hok.names.file hf)))
  clear h hAl hok h1 h2 h3
  go_enter Try.func23, Try.ntmps23
  go_wp2_with fail
  refine HON.out.mono ?_
  rintro e w4 ⟨z, S2, rfl, hR, hd2, hb4, hk4⟩
  have HK4 := Lib.hid hk4
  have HR := Lib.hid hR
  have HD2 := Lib.hid hd2
  have HB4 := Lib.hid hb4
  clear hR hd2 hb4 hk4 HON
  go_wp2
  go_ret
  exact ⟨z, S2, rfl, HR.out, HD2.out, HB4.out, HK4.out⟩
end Go.Proofs.Ytelndbjjkhlacaa
namespace Go.Proofs.Ytelndbjjkhlacaa
open Go.RowKit Go.Maps

def askF (S : DSt) (s : ByteArray) : Option Nat × Int := if okN s = false then (none, 10) else if S.dead = true then (none, 50) else match fileOf S.names s with
  | none => (none, 11)
  | some f => (some f, 0)
set_option maxRecDepth 100000 in
set_option maxHeartbeats 1000000 in
theorem ask_any (B : Nat) (w : World) (bd : Nat) (S : DSt) (h : DiskAt B w bd S) (s : ByteArray) (hs : s.size ≤ maxLen) :
    Calls Try.prog 37 #[.pointer (some ⟨bd, 0, none⟩), .string s] w fun e w' => e = .returned (.tuple #[pF (askF S s).1, .int .i64 (askF S s).2]) ∧ ∃ k, w' = w.drewN k := by
  obtain ⟨ρ, vf, vt, bn, bl, V, hd⟩ := h
  have HNM := Lib.hid (name_any w s hs)
  have c5 : w.cell? ⟨bd, 5, none⟩ = some (.bool S.dead) := hd.head.cell (i := 5) (by omega)
  have c7 : w.cell? ⟨bd, 7, none⟩ = some (.map (some bn)) := hd.head.cell (i := 7) (by omega)
  have hlk : ∀ q, (Instr.lookup 56 (.map (some bn)) (.string s) false).run Try.prog (w.drewN q) = .ok (pF (fileOf S.names s)) (w.drewN q) := fun q => (hd.names.of_block (w' := w.drewN q) rfl).look s hs
  clear hd
  unfold askF
  cases hk : okN s with
  | false =>
    rw [hk] at HNM
    clear hk hlk c5 c7
    simp only [if_true]
    unfold pF
    go_enter Try.func37, Try.ntmps37
    go_wp2_with fail
    refine HNM.out.mono ?_
    rintro e w' ⟨rfl, j, rfl⟩
    go_wp2
    go_ret2
    exact ⟨rfl, _, rfl⟩
  | true =>
    rw [hk] at HNM
    clear hk
    simp only [Bool.true_eq_false, if_false]
    cases hdd : S.dead with
    | true =>
      rw [hdd] at c5
      clear hdd hlk
      simp only [if_true]
      unfold pF
      go_enter Try.func37, Try.ntmps37
      go_wp2_with fail
      refine HNM.out.mono ?_
      rintro e w' ⟨rfl, j, rfl⟩
      go_wp2
      go_ret2
      exact ⟨rfl, _, rfl⟩
    | false =>
      rw [hdd] at c5
      clear hdd
      simp only [Bool.false_eq_true, if_false]
      cases hf : fileOf S.names s with
      | none =>
        rw [hf] at hlk
        clear hf
        unfold pF at hlk ⊢
        simp only at hlk ⊢
        go_enter Try.func37, Try.ntmps37
        go_wp2_with fail
        refine HNM.out.mono ?_
        rintro e w' ⟨rfl, j, rfl⟩
        have hj := hlk j
        clear hlk
        go_wp2
        go_ret2
        exact ⟨rfl, _, rfl⟩
      | some f =>
        rw [hf] at hlk
        clear hf
        unfold pF at hlk ⊢
        simp only at hlk ⊢
        go_enter Try.func37, Try.ntmps37
        go_wp2_with fail
        refine HNM.out.mono ?_
        rintro e w' ⟨rfl, j, rfl⟩
        have hj := hlk j
        clear hlk
        go_wp2
        go_ret2
        exact ⟨rfl, _, rfl⟩
theorem askF_some {S : DSt} (hok : DOk S) {s : ByteArray} {f : Nat} (h : (askF S s).1 = some f) : f ∈ S.files ∧ (askF S s).2 = 0 := by
  unfold askF at h ⊢
  by_cases h1 : okN s = false
  · simp [h1] at h
  · rw [if_neg h1] at h ⊢
    by_cases h2 : S.dead = true
    · simp [h2] at h
    · rw [if_neg h2] at h ⊢
      cases h3 : fileOf S.names s with
      | none => rw [h3] at h; simp at h
      | some g =>
        rw [h3] at h
        simp at h
        subst h
        exact ⟨hok.names.file h3, rfl⟩
theorem askF_none {S : DSt} {s : ByteArray} (h : (askF S s).1 = none) : (askF S s).2 = 10 ∨ (askF S s).2 = 50 ∨ (askF S s).2 = 11 := by
  unfold askF at h ⊢
  by_cases h1 : okN s = false
  · simp [h1]
  · rw [if_neg h1] at h ⊢
    by_cases h2 : S.dead = true
    · simp [h2]
    · rw [if_neg h2] at h ⊢
      cases h3 : fileOf S.names s with
      | none => simp
      | some g => rw [h3] at h; simp at h
set_option maxRecDepth 100000 in
set_option maxHeartbeats 400000 in
theorem calls_any (B : Nat) (w : World) (bd : Nat) (S : DSt) (h : DiskAt B w bd S) :
    Calls Try.prog 18 #[.pointer (some ⟨bd, 0, none⟩)] w fun e w' => e = .returned (.int .i64 S.calls) ∧ w = w' := by
  obtain ⟨ρ, vf, vt, bn, bl, V, hd⟩ := h
  have c1 : w.cell? ⟨bd, 1, none⟩ = some (.int .i64 S.calls) := hd.head.cell (i := 1) (by omega)
  clear hd
  go_enter Try.func18, Try.ntmps18
  go_wp2
  go_ret
  exact ⟨rfl, rfl⟩
set_option maxRecDepth 100000 in
set_option maxHeartbeats 400000 in
theorem dead_any (B : Nat) (w : World) (bd : Nat) (S : DSt) (h : DiskAt B w bd S) :
    Calls Try.prog 21 #[.pointer (some ⟨bd, 0, none⟩)] w fun e w' => e = .returned (.bool S.dead) ∧ w = w' := by
  obtain ⟨ρ, vf, vt, bn, bl, V, hd⟩ := h
  have c1 : w.cell? ⟨bd, 5, none⟩ = some (.bool S.dead) := hd.head.cell (i := 5) (by omega)
  clear hd
  go_enter Try.func21, Try.ntmps21
  go_wp2
  go_ret
  exact ⟨rfl, rfl⟩
/-- a file's size, and what is wrong -/
def sizeF (S : DSt) (s : ByteArray) : Nat × Int := match (askF S s).1 with
  | none => (0, (askF S s).2)
  | some f => ((S.fb f).length, 0)
set_option maxRecDepth 100000 in
set_option maxHeartbeats 1000000 in
theorem size_any (B : Nat) (w : World) (bd : Nat) (S : DSt) (h : DiskAt B w bd S) (hok : DOk S) (s : ByteArray) (hs : s.size ≤ maxLen) :
    Calls Try.prog 28 #[.pointer (some ⟨bd, 0, none⟩), .string s] w fun e w' => e = .returned (.tuple #[.int .i64 ((sizeF S s).1 : Int), .int .i64 (sizeF S s).2]) ∧ ∃ k, w' = w.drewN k := by
  have HASK := Lib.hid (ask_any B w bd S h s hs)
  obtain ⟨ρ, vf, vt, bn, bl, V, hd⟩ := h
  unfold sizeF
  cases hf : (askF S s).1 with
  | none =>
    have hz := askF_none hf
    rw [hf] at HASK
    unfold pF at HASK
    simp only at HASK
    generalize (askF S s).2 = z at *
    have hz2 : (z != 0) = true := by simp; omega
    clear hf hz hd
    simp only
    go_enter Try.func28, Try.ntmps28
    go_wp2_with fail
    refine HASK.out.mono ?_
    rintro e w' ⟨rfl, j, rfl⟩
    go_wp2
    go_ret2
    exact ⟨rfl, _, rfl⟩
  | some f =>
    obtain ⟨hm, hz⟩ := askF_some hok hf
    rw [hf, hz] at HASK
    unfold pF at HASK
    simp only at HASK
    obtain ⟨af, cf, hV, _⟩ := Row.of_owns (hd.bytes f hm)
    have x0 : w.cell? ⟨f, 0, none⟩ = some (.slice af (S.fb f).length cf) := by rw [← hV]; exact (hd.file f hm).cell (i := 0) (by omega)
    clear hf hz hd hV hok hm
    simp only
    go_enter Try.func28, Try.ntmps28
    go_wp2_with fail
    refine HASK.out.mono ?_
    rintro e w' ⟨rfl, j, rfl⟩
    go_wp2
    go_ret2
    exact ⟨rfl, _, rfl⟩
end Go.Proofs.Ytelndbjjkhlacaa
