/-
  A file that is asked: its bytes, its size; the disk's counts.
-/
import Derived.Test.YtelndbjjkhlacaaDkSync
namespace Go.Proofs.Ytelndbjjkhlacaa
open Go.RowKit Go.Maps

def askF (S : DSt) (s : ByteArray) : Option Nat × Int := if okN s = false then (none, 10) else if S.dead = true then (none, 50) else match fileOf S.names s with
  | none => (none, 11)
  | some f => (some f, 0)
set_option maxRecDepth 100000 in
set_option maxHeartbeats 1000000 in
theorem ask_any (B : Nat) (w : World) (bd : Nat) (S : DSt) (h : DiskAt B w bd S) (s : ByteArray) (hs : s.size ≤ maxLen) :
    Calls Try.prog 37 #[.pointer (some ⟨bd, 0, none⟩), .string s] w fun e w' => e = .returned (.tuple #[pF (askF S s).1, .int .i64 (askF S s).2]) ∧ ∃ k, w' = w.drewN k := by
  obtain ⟨ρ, vf, vt, bn, bl, V, hd⟩ := h
  have HNM := Lib.hid (name_any w s hs)
  have c5 : w.cell? ⟨bd, 5, none⟩ = some (.bool S.dead) := hd.head.cell (i := 5) (by omega)
  have c7 : w.cell? ⟨bd, 7, none⟩ = some (.map (some bn)) := hd.head.cell (i := 7) (by omega)
  have hlk : ∀ q, (Instr.lookup 56 (.map (some bn)) (.string s) false).run Try.prog (w.drewN q) = .ok (pF (fileOf S.names s)) (w.drewN q) := fun q => (hd.names.of_block (w' := w.drewN q) rfl).look s hs
  clear hd
  unfold askF
  cases hk : okN s with
  | false =>
    rw [hk] at HNM
    clear hk hlk c5 c7
    simp only [if_true]
    unfold pF
    go_enter Try.func37, Try.ntmps37
    go_wp2_with fail
    refine HNM.out.mono ?_
    rintro e w' ⟨rfl, j, rfl⟩
    go_wp2
    go_ret2
    exact ⟨rfl, _, rfl⟩
  | true =>
    rw [hk] at HNM
    clear hk
    simp only [Bool.true_eq_false, if_false]
    cases hdd : S.dead with
    | true =>
      rw [hdd] at c5
      clear hdd hlk
      simp only [if_true]
      unfold pF
      go_enter Try.func37, Try.ntmps37
      go_wp2_with fail
      refine HNM.out.mono ?_
      rintro e w' ⟨rfl, j, rfl⟩
      go_wp2
      go_ret2
      exact ⟨rfl, _, rfl⟩
    | false =>
      rw [hdd] at c5
      clear hdd
      simp only [Bool.false_eq_true, if_false]
      cases hf : fileOf S.names s with
      | none =>
        rw [hf] at hlk
        clear hf
        unfold pF at hlk ⊢
        simp only at hlk ⊢
        go_enter Try.func37, Try.ntmps37
        go_wp2_with fail
        refine HNM.out.mono ?_
        rintro e w' ⟨rfl, j, rfl⟩
        have hj := hlk j
        clear hlk
        go_wp2
        go_ret2
        exact ⟨rfl, _, rfl⟩
      | some f =>
        rw [hf] at hlk
        clear hf
        unfold pF at hlk ⊢
        simp only at hlk ⊢
        go_enter Try.func37, Try.ntmps37
        go_wp2_with fail
        refine HNM.out.mono ?_
        rintro e w' ⟨rfl, j, rfl⟩
        have hj := hlk j
        clear hlk
        go_wp2
        go_ret2
        exact ⟨rfl, _, rfl⟩
theorem askF_some {S : DSt} (hok : DOk S) {s : ByteArray} {f : Nat} (h : (askF S s).1 = some f) : f ∈ S.files ∧ (askF S s).2 = 0 := by
  unfold askF at h ⊢
  by_cases h1 : okN s = false
  · simp [h1] at h
  · rw [if_neg h1] at h ⊢
    by_cases h2 : S.dead = true
    · simp [h2] at h
    · rw [if_neg h2] at h ⊢
      cases h3 : fileOf S.names s with
      | none => rw [h3] at h; simp at h
      | some g =>
        rw [h3] at h
        simp at h
        subst h
        exact ⟨hok.names.file h3, rfl⟩
theorem askF_none {S : DSt} {s : ByteArray} (h : (askF S s).1 = none) : (askF S s).2 = 10 ∨ (askF S s).2 = 50 ∨ (askF S s).2 = 11 := by
  unfold askF at h ⊢
  by_cases h1 : okN s = false
  · simp [h1]
  · rw [if_neg h1] at h ⊢
    by_cases h2 : S.dead = true
    · simp [h2]
    · rw [if_neg h2] at h ⊢
      cases h3 : fileOf S.names s with
      | none => simp
      | some g => rw [h3] at h; simp at h
set_option maxRecDepth 100000 in
set_option maxHeartbeats 400000 in
theorem calls_any (B : Nat) (w : World) (bd : Nat) (S : DSt) (h : DiskAt B w bd S) :
    Calls Try.prog 18 #[.pointer (some ⟨bd, 0, none⟩)] w fun e w' => e = .returned (.int .i64 S.calls) ∧ w = w' := by
  obtain ⟨ρ, vf, vt, bn, bl, V, hd⟩ := h
  have c1 : w.cell? ⟨bd, 1, none⟩ = some (.int .i64 S.calls) := hd.head.cell (i := 1) (by omega)
  clear hd
  go_enter Try.func18, Try.ntmps18
  go_wp2
  go_ret
  exact ⟨rfl, rfl⟩
set_option maxRecDepth 100000 in
set_option maxHeartbeats 400000 in
theorem dead_any (B : Nat) (w : World) (bd : Nat) (S : DSt) (h : DiskAt B w bd S) :
    Calls Try.prog 21 #[.pointer (some ⟨bd, 0, none⟩)] w fun e w' => e = .returned (.bool S.dead) ∧ w = w' := by
  obtain ⟨ρ, vf, vt, bn, bl, V, hd⟩ := h
  have c1 : w.cell? ⟨bd, 5, none⟩ = some (.bool S.dead) := hd.head.cell (i := 5) (by omega)
  clear hd
  go_enter Try.func21, Try.ntmps21
  go_wp2
  go_ret
  exact ⟨rfl, rfl⟩
/-- a file's size, and what is wrong -/
def sizeF (S : DSt) (s : ByteArray) : Nat × Int := match (askF S s).1 with
  | none => (0, (askF S s).2)
  | some f => ((S.fb f).length, 0)
set_option maxRecDepth 100000 in
set_option maxHeartbeats 1000000 in
theorem size_any (B : Nat) (w : World) (bd : Nat) (S : DSt) (h : DiskAt B w bd S) (hok : DOk S) (s : ByteArray) (hs : s.size ≤ maxLen) :
    Calls Try.prog 28 #[.pointer (some ⟨bd, 0, none⟩), .string s] w fun e w' => e = .returned (.tuple #[.int .i64 ((sizeF S s).1 : Int), .int .i64 (sizeF S s).2]) ∧ ∃ k, w' = w.drewN k := by
  have HASK := Lib.hid (ask_any B w bd S h s hs)
  obtain ⟨ρ, vf, vt, bn, bl, V, hd⟩ := h
  unfold sizeF
  cases hf : (askF S s).1 with
  | none =>
    have hz := askF_none hf
    rw [hf] at HASK
    unfold pF at HASK
    simp only at HASK
    generalize (askF S s).2 = z at *
    have hz2 : (z != 0) = true := by simp; omega
    clear hf hz hd
    simp only
    go_enter Try.func28, Try.ntmps28
    go_wp2_with fail
    refine HASK.out.mono ?_
    rintro e w' ⟨rfl, j, rfl⟩
    go_wp2
    go_ret2
    exact ⟨rfl, _, rfl⟩
  | some f =>
    obtain ⟨hm, hz⟩ := askF_some hok hf
    rw [hf, hz] at HASK
    unfold pF at HASK
    simp only at HASK
    obtain ⟨af, cf, hV, _⟩ := Row.of_owns (hd.bytes f hm)
    have x0 : w.cell? ⟨f, 0, none⟩ = some (.slice af (S.fb f).length cf) := by rw [← hV]; exact (hd.file f hm).cell (i := 0) (by omega)
    clear hf hz hd hV hok hm
    simp only
    go_enter Try.func28, Try.ntmps28
    go_wp2_with fail
    refine HASK.out.mono ?_
    rintro e w' ⟨rfl, j, rfl⟩
    go_wp2
    go_ret2
    exact ⟨rfl, _, rfl⟩
end Go.Proofs.Ytelndbjjkhlacaa
