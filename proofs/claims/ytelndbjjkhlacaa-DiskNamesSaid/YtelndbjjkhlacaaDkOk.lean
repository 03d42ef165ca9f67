/-
  What a disk's calls make of its state, and that the state keeps to what it keeps to; the calls where they do what they are for.
-/
import Derived.Test.YtelndbjjkhlacaaDkCreated
import Derived.Test.YtelndbjjkhlacaaDkTurnLead
namespace Go.Proofs.Ytelndbjjkhlacaa
open Go.RowKit Go.Maps

/-- a disk's state at which calls go on as they do -/
structure Lv (S : DSt) : Prop where
  ok : DOk S
  dead : S.dead = false
  stop : S.stop ≤ 0
  fail : S.fail ≤ 0
def callS (S : DSt) : DSt := { S with calls := S.calls + 1 }
def createS (S : DSt) (s : ByteArray) (fn : Nat) : DSt := { S with calls := S.calls + 1, files := S.files ++ [fn], fb := updN S.fb fn [], fl := updN S.fl fn 0, names := S.names.put (kl s) (enc fn), turns := S.turns ++ [⟨0, s, ByteArray.empty, some fn⟩] }
def appendS (S : DSt) (f : Nat) (d : List Nat) : DSt := { S with calls := S.calls + 1, fb := updN S.fb f (S.fb f ++ d) }
def syncS (S : DSt) (f : Nat) : DSt := { S with calls := S.calls + 1, fl := updN S.fl f (S.fb f).length }
def syncdirS (S : DSt) : DSt := { S with calls := S.calls + 1, last := S.names, turns := [] }
def moveS (S : DSt) (D : DT) (t : Turn) : DSt := { S with calls := S.calls + 1, names := D, turns := S.turns ++ [t] }
theorem Lv.call {S : DSt} (h : Lv S) (hc : S.calls < 100000) : Lv (callS S) := ⟨h.ok.call hc, h.dead, h.stop, h.fail⟩
theorem fb_new {S : DSt} {fn : Nat} {f : Nat} (hfn : fn ∉ S.files) (hf : f ∈ S.files) : f ≠ fn := fun e => hfn (e ▸ hf)
theorem Lv.create {S : DSt} (h : Lv S) (hT : Tidy S.names) (hc : S.calls < 100000) (s : ByteArray) (hs : s.size ≤ maxLen) (fn : Nat) (hfn : fn ∉ S.files) : Lv (createS S s fn) := by
  have ok := h.ok
  have hfew := ok.few
  refine ⟨⟨?_, ?_, ?_, ?_, ?_, ?_, ?_, ?_, ?_, ⟨?_, ?_, ?_⟩, ?_⟩, h.dead, h.stop, h.fail⟩
  · refine List.nodup_append.2 ⟨ok.nodup, List.nodup_cons.2 ⟨by simp, List.nodup_nil⟩, fun a ha b hb => ?_⟩
    obtain rfl := List.mem_singleton.1 hb
    exact fb_new hfn ha
  · exact (ok.names.mono (fun f hf => List.mem_append_left _ hf)).put hT.isMap s (List.mem_append_right _ (List.mem_singleton.2 rfl))
  · exact ok.last.mono (fun f hf => List.mem_append_left _ hf)
  · intro t ht f hf
    rcases List.mem_append.1 ht with ht | ht
    · exact List.mem_append_left _ (ok.turns t ht f hf)
    · obtain rfl := List.mem_singleton.1 ht
      cases hf
      exact List.mem_append_right _ (List.mem_singleton.2 rfl)
  · intro f hf
    show (updN S.fb fn [] f).length ≤ _
    rcases List.mem_append.1 hf with hf | hf
    · rw [updN_other _ _ (fb_new hfn hf)]; exact ok.long f hf
    · obtain rfl := List.mem_singleton.1 hf
      rw [updN_same]; exact Nat.zero_le _
  · intro f hf
    show updN S.fl fn 0 f ≤ (updN S.fb fn [] f).length
    rcases List.mem_append.1 hf with hf | hf
    · rw [updN_other _ _ (fb_new hfn hf), updN_other _ _ (fb_new hfn hf)]; exact ok.lasts f hf
    · obtain rfl := List.mem_singleton.1 hf
      rw [updN_same]; exact Nat.zero_le _
  · intro f hf c hm
    change c ∈ updN S.fb fn [] f at hm
    rcases List.mem_append.1 hf with hf | hf
    · rw [updN_other _ _ (fb_new hfn hf)] at hm; exact ok.byte f hf c hm
    · obtain rfl := List.mem_singleton.1 hf
      rw [updN_same] at hm; cases hm
  · intro t ht hk
    rcases List.mem_append.1 ht with ht | ht
    · exact ok.tkind t ht hk
    · obtain rfl := List.mem_singleton.1 ht
      simp
  · intro t ht
    rcases List.mem_append.1 ht with ht | ht
    · exact ok.tnames t ht
    · obtain rfl := List.mem_singleton.1 ht
      exact ⟨hs, Nat.zero_le _⟩
  · show ((S.files ++ [fn]).length : Int) ≤ S.calls + 1
    rw [List.length_append, List.length_singleton]; omega
  · show (size (S.names.put (kl s) (enc fn)) : Int) ≤ S.calls + 1
    have := size_put_le hT (kl s) (enc fn)
    omega
  · show ((size S.last + (S.turns ++ [_]).length : Nat) : Int) ≤ S.calls + 1
    rw [List.length_append, List.length_singleton]; omega
  · have hn := ok.nums
    exact ⟨hn.1, hn.2.1, by show 0 ≤ S.calls + 1; omega, by show S.calls + 1 ≤ 100000; omega, hn.2.2.2.2⟩
theorem Lv.append {S : DSt} (h : Lv S) (hc : S.calls < 100000) (f : Nat) (d : List Nat) (hd : ∀ c ∈ d, c < 256) (hl : (S.fb f).length + d.length ≤ 200000) : Lv (appendS S f d) := by
  have ok := (h.ok.call hc)
  refine ⟨⟨ok.nodup, ok.names, ok.last, ok.turns, ?_, ?_, ?_, ok.tkind, ok.tnames, ok.few, ok.nums⟩, h.dead, h.stop, h.fail⟩
  · intro g hg
    show (updN S.fb f (S.fb f ++ d) g).length ≤ _
    by_cases e : g = f
    · subst e; rw [updN_same, List.length_append]; exact hl
    · rw [updN_other _ _ e]; exact ok.long g hg
  · intro g hg
    show S.fl g ≤ (updN S.fb f (S.fb f ++ d) g).length
    have := ok.lasts g hg
    change S.fl g ≤ (S.fb g).length at this
    by_cases e : g = f
    · subst e; rw [updN_same, List.length_append]; omega
    · rw [updN_other _ _ e]; exact this
  · intro g hg c hm
    change c ∈ updN S.fb f (S.fb f ++ d) g at hm
    by_cases e : g = f
    · subst e
      rw [updN_same] at hm
      rcases List.mem_append.1 hm with hm | hm
      · exact ok.byte g hg c hm
      · exact hd c hm
    · rw [updN_other _ _ e] at hm; exact ok.byte g hg c hm
theorem Lv.sync {S : DSt} (h : Lv S) (hc : S.calls < 100000) (f : Nat) : Lv (syncS S f) := by
  have ok := (h.ok.call hc)
  refine ⟨⟨ok.nodup, ok.names, ok.last, ok.turns, ok.long, ?_, ok.byte, ok.tkind, ok.tnames, ok.few, ok.nums⟩, h.dead, h.stop, h.fail⟩
  intro g hg
  show updN S.fl f (S.fb f).length g ≤ (S.fb g).length
  by_cases e : g = f
  · subst e; rw [updN_same]; exact Nat.le_refl _
  · rw [updN_other _ _ e]; exact ok.lasts g hg
theorem Lv.syncdir {S : DSt} (h : Lv S) (hc : S.calls < 100000) : Lv (syncdirS S) := by
  have ok := (h.ok.call hc)
  have hfew := ok.few
  refine ⟨⟨ok.nodup, ok.names, ok.names, fun t ht => (by cases ht), ok.long, ok.lasts, ok.byte, fun t ht => (by cases ht), fun t ht => (by cases ht), ⟨hfew.1, hfew.2.1, ?_⟩, ok.nums⟩, h.dead, h.stop, h.fail⟩
  show ((size S.names + 0 : Nat) : Int) ≤ S.calls + 1
  have := hfew.2.1
  change (size S.names : Int) ≤ S.calls + 1 at this
  omega
theorem Lv.move {S : DSt} (h : Lv S) (hc : S.calls < 100000) (D : DT) (hD : NamesOk D S.files) (hsz : size D ≤ size S.names + 1) (t : Turn) (hf : t.f = none) (hk : t.k ≠ 0) (ha : t.a.size ≤ maxLen) (hb : t.b.size ≤ maxLen) : Lv (moveS S D t) := by
  have ok := h.ok
  have hfew := ok.few
  have hn := ok.nums
  refine ⟨⟨ok.nodup, hD, ok.last, ?_, ok.long, ok.lasts, ok.byte, ?_, ?_, ⟨?_, ?_, ?_⟩, ⟨hn.1, hn.2.1, by show 0 ≤ S.calls + 1; omega, by show S.calls + 1 ≤ 100000; omega, hn.2.2.2.2⟩⟩, h.dead, h.stop, h.fail⟩
  · intro u hu f hf2
    rcases List.mem_append.1 hu with hu | hu
    · exact ok.turns u hu f hf2
    · obtain rfl := List.mem_singleton.1 hu
      rw [hf] at hf2; cases hf2
  · intro u hu hk2
    rcases List.mem_append.1 hu with hu | hu
    · exact ok.tkind u hu hk2
    · obtain rfl := List.mem_singleton.1 hu
      exact absurd hk2 hk
  · intro u hu
    rcases List.mem_append.1 hu with hu | hu
    · exact ok.tnames u hu
    · obtain rfl := List.mem_singleton.1 hu
      exact ⟨ha, hb⟩
  · show (S.files.length : Int) ≤ S.calls + 1
    omega
  · show (size D : Int) ≤ S.calls + 1
    omega
  · show ((size S.last + (S.turns ++ [t]).length : Nat) : Int) ≤ S.calls + 1
    rw [List.length_append, List.length_singleton]; omega
theorem DiskAv.tidy {B : Nat} {w : World} {bd : Nat} {S : DSt} {A : Nat → Prop} (h : DiskAv B w bd S A) : Tidy S.names ∧ Tidy S.last := by
  obtain ⟨ρ, vf, vt, bn, bl, V, hd, _⟩ := h
  exact ⟨hd.names.tidy, hd.last.tidy⟩
theorem okN_size {s : ByteArray} (h : okN s = true) : s.size ≤ 20 := by
  unfold okN at h
  simp at h
  exact h.1.2
/-- how a call goes that does what it is for -/
def Step (B : Nat) (A : Nat → Prop) (w : World) (bd : Nat) (z : Int) (S' : DSt) (e : Ending) (w' : World) : Prop :=
  e = .returned (.int .i64 z) ∧ Lv S' ∧ DiskAv B w' bd S' A ∧ Below B w w' ∧ KeepX A w w'
section
variable (B : Nat) (w : World) (bd : Nat) (S : DSt) (A : Nat → Prop) (h : DiskAv B w bd S A) (hAl : ∀ b, A b → b < w.heap.size) (lv : Lv S) (hB : B ≤ w.heap.size) (hc : S.calls < 100000) (s : ByteArray)
include h hAl lv hB hc
theorem create_at (hs : okN s = true) (hf : fileOf S.names s = none) (h64 : size S.names < 64) :
    Calls Try.prog 14 #[.pointer (some ⟨bd, 0, none⟩), .string s] w fun e w' => ∃ fn, fn ∉ S.files ∧ Step B A w bd 0 (createS S s fn) e w' := by
  have hsz := okN_size hs
  refine (create_any B w bd S A h hAl lv.ok lv.dead lv.stop lv.fail hB hc s (by simp only [maxLen]; omega)).mono ?_
  rintro e w' ⟨z, S', rfl, hR, hd, hb, hk⟩
  unfold createRR at hR
  rw [if_pos hs] at hR
  unfold createR at hR
  change (match fileOf S.names s with | some _ => _ | none => if 64 ≤ size S.names then _ else _) at hR
  rw [hf] at hR
  simp only at hR
  rw [if_neg (show ¬ 64 ≤ size S.names by omega)] at hR
  obtain ⟨rfl, fn, hfn, rfl⟩ := hR
  exact ⟨fn, hfn, rfl, lv.create h.tidy.1 hc s (by simp only [maxLen]; omega) fn hfn, hd, hb, hk⟩
theorem create_many (hs : okN s = true) (hf : fileOf S.names s = none) (h64 : 64 ≤ size S.names) :
    Calls Try.prog 14 #[.pointer (some ⟨bd, 0, none⟩), .string s] w (Step B A w bd 65 (callS S)) := by
  have hsz := okN_size hs
  refine (create_any B w bd S A h hAl lv.ok lv.dead lv.stop lv.fail hB hc s (by simp only [maxLen]; omega)).mono ?_
  rintro e w' ⟨z, S', rfl, hR, hd, hb, hk⟩
  unfold createRR at hR
  rw [if_pos hs] at hR
  unfold createR at hR
  change (match fileOf S.names s with | some _ => _ | none => if 64 ≤ size S.names then _ else _) at hR
  rw [hf] at hR
  simp only at hR
  rw [if_pos (show 64 ≤ size S.names by omega)] at hR
  obtain ⟨rfl, rfl⟩ := hR
  exact ⟨rfl, lv.call hc, hd, hb, hk⟩
theorem create_bad (hs : okN s = false) (hl : s.size ≤ maxLen) :
    Calls Try.prog 14 #[.pointer (some ⟨bd, 0, none⟩), .string s] w (Step B A w bd 10 S) := by
  refine (create_any B w bd S A h hAl lv.ok lv.dead lv.stop lv.fail hB hc s hl).mono ?_
  rintro e w' ⟨z, S', rfl, hR, hd, hb, hk⟩
  unfold createRR at hR
  rw [if_neg (by rw [hs]; simp)] at hR
  obtain ⟨rfl, rfl⟩ := hR
  exact ⟨rfl, lv, hd, hb, hk⟩
section
variable (hs : okN s = true) (f : Nat) (hf : fileOf S.names s = some f)
include hs hf
theorem append_at (a : Option Addr) (cap : Nat) (d : List Nat) (hr : Row w a d.length (byteV d)) (hne : d.length = 0 ∨ bOf a ≠ bd) (hd : ∀ c ∈ d, c < 256) (hl : (S.fb f).length + d.length ≤ 200000) (hq : (usedS S : Int) + d.length ≤ S.quota) :
    Calls Try.prog 15 #[.pointer (some ⟨bd, 0, none⟩), .string s, .slice a d.length cap] w (Step B A w bd 0 (appendS S f d)) := by
  have hsz := okN_size hs
  refine (append_any B w bd S A h hAl lv.ok lv.dead lv.stop lv.fail hB hc s (by simp only [maxLen]; omega) a cap d hr hne).mono ?_
  rintro e w' ⟨z, S', rfl, hR, hd2, hb, hk⟩
  unfold onR findR appR at hR
  rw [if_pos hs] at hR
  change (match fileOf S.names s with | none => _ | some f => if 200000 < (S.fb f).length + d.length then _ else if S.quota < (usedS S : Int) + d.length then _ else _) at hR
  rw [hf] at hR
  simp only at hR
  rw [if_neg (by omega), if_neg (by omega)] at hR
  obtain ⟨rfl, rfl⟩ := hR
  exact ⟨rfl, lv.append hc f d hd hl, hd2, hb, hk⟩
theorem append_full (a : Option Addr) (cap : Nat) (d : List Nat) (hr : Row w a d.length (byteV d)) (hne : d.length = 0 ∨ bOf a ≠ bd) (hl : (S.fb f).length + d.length ≤ 200000) (hq : S.quota < (usedS S : Int) + d.length) :
    Calls Try.prog 15 #[.pointer (some ⟨bd, 0, none⟩), .string s, .slice a d.length cap] w (Step B A w bd 15 (callS S)) := by
  have hsz := okN_size hs
  refine (append_any B w bd S A h hAl lv.ok lv.dead lv.stop lv.fail hB hc s (by simp only [maxLen]; omega) a cap d hr hne).mono ?_
  rintro e w' ⟨z, S', rfl, hR, hd2, hb, hk⟩
  unfold onR findR appR at hR
  rw [if_pos hs] at hR
  change (match fileOf S.names s with | none => _ | some f => if 200000 < (S.fb f).length + d.length then _ else if S.quota < (usedS S : Int) + d.length then _ else _) at hR
  rw [hf] at hR
  simp only at hR
  rw [if_neg (by omega), if_pos (by omega)] at hR
  obtain ⟨rfl, rfl⟩ := hR
  exact ⟨rfl, lv.call hc, hd2, hb, hk⟩
theorem sync_at : Calls Try.prog 23 #[.pointer (some ⟨bd, 0, none⟩), .string s] w (Step B A w bd 0 (syncS S f)) := by
  have hsz := okN_size hs
  refine (sync_any B w bd S A h hAl lv.ok lv.dead lv.stop lv.fail hB s (by simp only [maxLen]; omega)).mono ?_
  rintro e w' ⟨z, S', rfl, hR, hd2, hb, hk⟩
  unfold onR findR syncR at hR
  rw [if_pos hs] at hR
  change (match fileOf S.names s with | none => _ | some f => _) at hR
  rw [hf] at hR
  obtain ⟨rfl, rfl⟩ := hR
  exact ⟨rfl, lv.sync hc f, hd2, hb, hk⟩
end
theorem append_none (hs : okN s = true) (hf : fileOf S.names s = none) (a : Option Addr) (cap : Nat) (d : List Nat) (hr : Row w a d.length (byteV d)) (hne : d.length = 0 ∨ bOf a ≠ bd) :
    Calls Try.prog 15 #[.pointer (some ⟨bd, 0, none⟩), .string s, .slice a d.length cap] w (Step B A w bd 11 (callS S)) := by
  have hsz := okN_size hs
  refine (append_any B w bd S A h hAl lv.ok lv.dead lv.stop lv.fail hB hc s (by simp only [maxLen]; omega) a cap d hr hne).mono ?_
  rintro e w' ⟨z, S', rfl, hR, hd2, hb, hk⟩
  unfold onR findR at hR
  rw [if_pos hs] at hR
  change (match fileOf S.names s with | none => _ | some f => _) at hR
  rw [hf] at hR
  obtain ⟨rfl, rfl⟩ := hR
  exact ⟨rfl, lv.call hc, hd2, hb, hk⟩
theorem append_bad (hs : okN s = false) (hl : s.size ≤ maxLen) (a : Option Addr) (cap : Nat) (d : List Nat) (hr : Row w a d.length (byteV d)) (hne : d.length = 0 ∨ bOf a ≠ bd) :
    Calls Try.prog 15 #[.pointer (some ⟨bd, 0, none⟩), .string s, .slice a d.length cap] w (Step B A w bd 10 S) := by
  refine (append_any B w bd S A h hAl lv.ok lv.dead lv.stop lv.fail hB hc s hl a cap d hr hne).mono ?_
  rintro e w' ⟨z, S', rfl, hR, hd2, hb, hk⟩
  unfold onR at hR
  rw [if_neg (by rw [hs]; simp)] at hR
  obtain ⟨rfl, rfl⟩ := hR
  exact ⟨rfl, lv, hd2, hb, hk⟩
theorem sync_bad (hs : okN s = false) (hl : s.size ≤ maxLen) : Calls Try.prog 23 #[.pointer (some ⟨bd, 0, none⟩), .string s] w (Step B A w bd 10 S) := by
  refine (sync_any B w bd S A h hAl lv.ok lv.dead lv.stop lv.fail hB s hl).mono ?_
  rintro e w' ⟨z, S', rfl, hR, hd2, hb, hk⟩
  unfold onR at hR
  rw [if_neg (by rw [hs]; simp)] at hR
  obtain ⟨rfl, rfl⟩ := hR
  exact ⟨rfl, lv, hd2, hb, hk⟩
omit hc in
theorem syncdir_at (hc : S.calls < 100000) : Calls Try.prog 19 #[.pointer (some ⟨bd, 0, none⟩)] w (Step B A w bd 0 (syncdirS S)) := by
  refine (syncdir_any B w bd S A h hAl lv.ok lv.dead lv.stop lv.fail hB).mono ?_
  rintro e w' ⟨z, S', rfl, hR, hd2, hb, hk⟩
  obtain ⟨rfl, rfl⟩ := hR
  exact ⟨rfl, lv.syncdir hc, hd2, hb, hk⟩
end
end Go.Proofs.Ytelndbjjkhlacaa
