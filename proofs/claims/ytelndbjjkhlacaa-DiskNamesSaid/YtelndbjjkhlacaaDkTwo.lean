/-
  Names moved and taken away, where that is what they are for; one file under a name, whatever files there are besides.
-/
import Derived.Test.YtelndbjjkhlacaaDkOne
namespace Go.Proofs.Ytelndbjjkhlacaa
open Go.RowKit Go.Maps

section
variable (B : Nat) (w : World) (bd : Nat) (S : DSt) (A : Nat → Prop) (h : DiskAv B w bd S A) (hAl : ∀ b, A b → b < w.heap.size) (lv : Lv S) (hB : B ≤ w.heap.size) (hc : S.calls < 100000)
include h hAl lv hB hc
theorem remove_at (s : ByteArray) (hs : okN s = true) (f : Nat) (hf : fileOf S.names s = some f) : Calls Try.prog 26 #[.pointer (some ⟨bd, 0, none⟩), .string s] w (Step B A w bd 0 (moveS S (S.names.del (kl s)) ⟨2, s, ⟨#[]⟩, none⟩)) := by
  have hsz := okN_size hs
  refine (remove_any B w bd S A h hAl lv.ok lv.dead lv.stop lv.fail hB hc s (by simp only [maxLen]; omega)).mono ?_
  rintro e w' ⟨z, S', rfl, hR, hd2, hb, hk⟩
  unfold onR findR at hR
  rw [if_pos hs] at hR
  change (match fileOf S.names s with | none => _ | some f => _) at hR
  rw [hf] at hR
  obtain ⟨rfl, rfl⟩ := hR
  have hT := h.tidy.1
  exact ⟨rfl, lv.move hc (S.names.del (kl s)) (lv.ok.names.del s) (by have := size_del_le hT (kl s); omega) ⟨2, s, ⟨#[]⟩, none⟩ rfl (show (2 : Int) ≠ 0 by omega) (by simp only [maxLen]; omega) (Nat.zero_le _), hd2, hb, hk⟩
theorem remove_bad (s : ByteArray) (hs : okN s = false) (hl : s.size ≤ maxLen) : Calls Try.prog 26 #[.pointer (some ⟨bd, 0, none⟩), .string s] w (Step B A w bd 10 S) := by
  refine (remove_any B w bd S A h hAl lv.ok lv.dead lv.stop lv.fail hB hc s hl).mono ?_
  rintro e w' ⟨z, S', rfl, hR, hd2, hb, hk⟩
  unfold onR at hR
  rw [if_neg (by rw [hs]; simp)] at hR
  obtain ⟨rfl, rfl⟩ := hR
  exact ⟨rfl, lv, hd2, hb, hk⟩
theorem rename_at (sa sb : ByteArray) (hsa : okN sa = true) (hsb : okN sb = true) (hn : (sa.toList == sb.toList) = false) (f : Nat) (hf : fileOf S.names sa = some f) : Calls Try.prog 27 #[.pointer (some ⟨bd, 0, none⟩), .string sa, .string sb] w (Step B A w bd 0 (moveS S ((S.names.del (kl sa)).put (kl sb) (enc f)) ⟨1, sa, sb, none⟩)) := by
  have hsz := okN_size hsa
  have hsz2 := okN_size hsb
  have hne : ¬ sa = sb := fun e => by rw [e] at hn; simp at hn
  refine (rename_any B w bd S A h hAl lv.ok lv.dead lv.stop lv.fail hB hc sa sb (by simp only [maxLen]; omega) (by simp only [maxLen]; omega) (.inr hn)).mono ?_
  rintro e w' ⟨z, S', rfl, hR, hd2, hb, hk⟩
  unfold renR onR findR renIn at hR
  rw [if_pos hsb, if_pos hsa] at hR
  change (match fileOf S.names sa with | none => _ | some f => _) at hR
  rw [hf] at hR
  simp only at hR
  rw [if_neg hne] at hR
  obtain ⟨rfl, rfl⟩ := hR
  have hl : leadD (callS S).names ⟨1, sa, sb, none⟩ = (S.names.del (kl sa)).put (kl sb) (enc f) := by
    unfold leadD
    rw [if_neg (show ¬ (1 : Int) = 0 by omega), if_pos rfl]
    show (match fileOf S.names sa with | some f => (S.names.del (kl sa)).put (kl sb) (enc f) | none => S.names) = _
    rw [hf]
  rw [hl] at hd2
  have hT := h.tidy.1
  have hT2 : Tidy (S.names.del (kl sa)) := hT.del _
  exact ⟨rfl, lv.move hc _ ((lv.ok.names.del sa).put hT2.isMap sb (lv.ok.names.file hf)) (by have h1 := size_del_le hT (kl sa); have h2 := size_put_le hT2 (kl sb) (enc f); omega) ⟨1, sa, sb, none⟩ rfl (show (1 : Int) ≠ 0 by omega) (by simp only [maxLen]; omega) (by simp only [maxLen]; omega), hd2, hb, hk⟩
theorem rename_same (s : ByteArray) (hs : okN s = true) (f : Nat) (hf : fileOf S.names s = some f) : Calls Try.prog 27 #[.pointer (some ⟨bd, 0, none⟩), .string s, .string s] w (Step B A w bd 0 (callS S)) := by
  have hsz := okN_size hs
  refine (rename_any B w bd S A h hAl lv.ok lv.dead lv.stop lv.fail hB hc s s (by simp only [maxLen]; omega) (by simp only [maxLen]; omega) (.inl rfl)).mono ?_
  rintro e w' ⟨z, S', rfl, hR, hd2, hb, hk⟩
  unfold renR onR findR renIn at hR
  rw [if_pos hs, if_pos hs] at hR
  change (match fileOf S.names s with | none => _ | some f => _) at hR
  rw [hf] at hR
  simp only [if_true] at hR
  obtain ⟨rfl, rfl⟩ := hR
  exact ⟨rfl, lv.call hc, hd2, hb, hk⟩
theorem rename_bad (sa sb : ByteArray) (hl : sa.size ≤ maxLen) (hl2 : sb.size ≤ maxLen) (hn : (sa.toList == sb.toList) = false) (hs : okN sb = false ∨ okN sa = false) : Calls Try.prog 27 #[.pointer (some ⟨bd, 0, none⟩), .string sa, .string sb] w (Step B A w bd 10 S) := by
  refine (rename_any B w bd S A h hAl lv.ok lv.dead lv.stop lv.fail hB hc sa sb hl hl2 (.inr hn)).mono ?_
  rintro e w' ⟨z, S', rfl, hR, hd2, hb, hk⟩
  unfold renR onR at hR
  by_cases h1 : okN sb = true
  · rw [if_pos h1] at hR
    rw [if_neg (by rw [hs.resolve_left (by rw [h1]; simp)]; simp)] at hR
    obtain ⟨rfl, rfl⟩ := hR
    exact ⟨rfl, lv, hd2, hb, hk⟩
  · rw [if_neg h1] at hR
    obtain ⟨rfl, rfl⟩ := hR
    exact ⟨rfl, lv, hd2, hb, hk⟩
end
/-- one name, that leads to this file -/
structure OneN (S : DSt) (s : ByteArray) (fn : Nat) (q c : Int) : Prop where
  lv : Lv S
  names : S.names = .map [(kl s, enc fn)]
  mem : fn ∈ S.files
  quota : S.quota = q
  calls : S.calls ≤ c
theorem OneN.file {S : DSt} {s : ByteArray} {fn : Nat} {q c : Int} (h : OneN S s fn q c) : fileOf S.names s = some fn := by rw [h.names]; exact fileOf_one s fn
theorem OneN.no {S : DSt} {s t : ByteArray} {fn : Nat} {q c : Int} (h : OneN S s fn q c) (ht : t ≠ s) : fileOf S.names t = none := by rw [h.names]; exact fileOf_one_no ht fn
theorem OneN.used {S : DSt} {s : ByteArray} {fn : Nat} {q c : Int} (h : OneN S s fn q c) : usedS S = (S.fb fn).length := used_one S s fn h.names h.lv.dead
theorem OneN.append {S : DSt} {s : ByteArray} {fn : Nat} {q c : Int} (h : OneN S s fn q c) {d : List Nat} (hl : Lv (appendS S fn d)) : OneN (appendS S fn d) s fn q (c + 1) := ⟨hl, h.names, h.mem, h.quota, by have := h.calls; show S.calls + 1 ≤ c + 1; omega⟩
theorem OneN.call {S : DSt} {s : ByteArray} {fn : Nat} {q c : Int} (h : OneN S s fn q c) (hl : Lv (callS S)) : OneN (callS S) s fn q (c + 1) := ⟨hl, h.names, h.mem, h.quota, by have := h.calls; show S.calls + 1 ≤ c + 1; omega⟩
/-- two names -/
theorem two_rise (s t : ByteArray) (f g : Nat) (h : (DataW.map [(kl s, enc f)] : DT).put (kl t) (enc g) = .map [(kl s, enc f), (kl t, enc g)]) (hne : t ≠ s) (S : DSt) (hn : S.names = .map [(kl s, enc f), (kl t, enc g)]) :
    fileOf S.names s = some f ∧ fileOf S.names t = some g ∧ (S.dead = false → usedS S = (S.fb f).length + (S.fb g).length) := by
  refine ⟨?_, ?_, fun hd => ?_⟩
  · rw [hn, ← h, fileOf_put_other (Ne.symm hne)]
    exact fileOf_one s f
  · rw [hn, ← h]
    exact fileOf_put_same ⟨_, rfl⟩ t g
  · unfold usedS
    rw [hd, hn]
    simp [sumD, sumL, cntF, decF_enc]
end Go.Proofs.Ytelndbjjkhlacaa
