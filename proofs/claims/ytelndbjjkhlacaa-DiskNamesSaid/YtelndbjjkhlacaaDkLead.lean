/-
  A turn more, behind the others; a name put, or taken away.
-/
import Derived.Test.YtelndbjjkhlacaaDkRead
import Derived.Deep.AppendLies
namespace Go.Proofs.Ytelndbjjkhlacaa
open Go.RowKit Go.Maps

theorem info_turn : (Try.prog.info? 66).map (fun i => (i.zero, i.size, i.bytes)) = some (some (.agg #[.int .i64 0, .string ByteArray.empty, .string ByteArray.empty, .pointer none]), 4, 48) := by kernel_rfl
theorem owns_slice {w : World} {B : Nat} {e : TypeId} {size : Nat} {v : Value} {n : Nat} {xs : List Value} (h : w.ownsRow B e size v n xs) : ∃ a c, v = .slice a n c := by
  rcases h.2 with ⟨h0, h1⟩ | ⟨g, cap, cur, rfl, _⟩
  · subst h1; exact ⟨_, _, h0⟩
  · exact ⟨_, _, rfl⟩
abbrev turnC (t : Turn) : Array Value := #[.int .i64 t.k, .string t.a, .string t.b, pF t.f]
section
variable {B : Nat} {w w' : World} {bd : Nat} {ρ : Nat → Role} {S : DSt} {vf vt : Value} {bn bl : Nat} {V : Nat → Value}
theorem DiskIn.turn_append {a : Option Addr} {c : Nat} (h : DiskIn B w bd ρ S vf (.slice a S.turns.length c) bn bl V) (hm : S.turns.length ≤ 100000) (hB : B ≤ w.heap.size) (t : Turn) :
    ∃ a3 cap3 w3, (Builtin.append_ #[58, 58] 58 #[.slice a S.turns.length c, .slice (some ⟨w.heap.size, 0, none⟩) 1 1]).run Try.prog (w.alloc (.cells (turnC t) 66)) = .ok (.slice a3 (S.turns.length + 1) cap3) w3 ∧
      w3.rowIs bd 60 10 (diskV S vf (.slice a S.turns.length c) bn bl) ∧
      (∃ ρ', DiskIn B (w3.setCell ⟨bd, 9, none⟩ (.slice a3 (S.turns.length + 1) cap3)) bd ρ' { S with turns := S.turns ++ [t] } vf (.slice a3 (S.turns.length + 1) cap3) bn bl V ∧ Out ρ ρ' w (w3.setCell ⟨bd, 9, none⟩ (.slice a3 (S.turns.length + 1) cap3))) ∧
      Below B w (w3.setCell ⟨bd, 9, none⟩ (.slice a3 (S.turns.length + 1) cap3)) ∧ KeepX (fun b => b ≠ bd ∧ some b ≠ (Value.slice a S.turns.length c).ownBlock) w w3 := by
  obtain ⟨i0, hi0, hz0, hz1, hz2⟩ := info_parts info_turn
  have hwa : Below w.heap.size w (w.alloc (.cells (turnC t) 66)) := (Below.refl _ w).alloc (Nat.le_refl _) _
  have hda := h.below hwa
  have hone : ∀ u ∈ turnV t, u.oneCell' = true := by
    intro u hu
    simp only [turnV, List.mem_cons, List.not_mem_nil, or_false] at hu
    rcases hu with rfl | rfl | rfl | rfl
    · rfl
    · rfl
    · rfl
    · cases t.f <;> rfl
  obtain ⟨v', w3, hrun, hown', hgrow, _, hat⟩ := run_append_own_at (P := Try.prog) (w.alloc (.cells (turnC t) 66)) B 58 58 66 i0 _ 4 48 Try.underlying58 hi0 hz0 hz1 hz2 rfl (by decide) _ _ _ hda.turns ⟨w.heap.size, 0, none⟩ 1 1 (turnV t) rfl
    (World.news_of_block (cs := turnC t) (heap_alloc_new w _)) hone (by simp only [maxLen]; omega) (by omega) (by simp; omega)
  obtain ⟨a3, cap3, rfl⟩ := owns_slice hown'
  have hnb : some bd ≠ (Value.slice a S.turns.length c).ownBlock := fun e => by have := h.rt bd e.symm; rw [h.rd] at this; cases this
  have hh3 := row_gb hda.head hgrow hnb
  have hgl : ∀ g, (Value.slice a S.turns.length c).ownBlock = some g → g < w.heap.size := fun g hg => (h.turns.lt g hg).2
  have hk3 : KeepX (fun b => b ≠ bd ∧ some b ≠ (Value.slice a S.turns.length c).ownBlock) w w3 := (KeepX.of_below hwa).trans (KeepX.gb hgrow (fun r e h => h.2 e.symm))
  have hks : KeepX (fun b => b ≠ bd) w3 (w3.setCell ⟨bd, 9, none⟩ (.slice a3 (S.turns.length + 1) cap3)) := KeepX.setCell w3 ⟨bd, 9, none⟩ _ (fun h => h rfl)
  have hk4 := hk3.trans (hks.mono fun b _ h => h.1)
  have hsz4 : (w3.setCell ⟨bd, 9, none⟩ (.slice a3 (S.turns.length + 1) cap3)).heap.size = w3.heap.size := by simp [World.setCell]
  have hat2 : ∀ g, (Value.slice a3 (S.turns.length + 1) cap3).ownBlock = some g → (Value.slice a S.turns.length c).ownBlock = some g ∨ (w.heap.size ≤ g ∧ g < w3.heap.size) := fun g hg => by
    have hlt := (hown'.lt g hg).2
    rcases hat with h | h
    · exact .inl (by rw [← h]; exact hg)
    · rw [hg] at h
      have e : g = w.heap.size + 1 := by have := Option.some.inj h; rw [this]; simp
      exact .inr ⟨by omega, hlt⟩
  have hnbd : ∀ g, (Value.slice a3 (S.turns.length + 1) cap3).ownBlock = some g → g ≠ bd := fun g hg e => by
    subst e
    rcases hat2 g hg with h1 | h1
    · exact hnb h1.symm
    · have := h.lt; omega
  refine ⟨a3, cap3, w3, hrun, hh3, ?_, ?_, hk3⟩
  · refine h.setTurns (.slice a3 (S.turns.length + 1) cap3) (S.turns ++ [t]) hk4 ((hh3.set 9 _).congr (ten rfl rfl rfl rfl rfl rfl rfl rfl rfl rfl)) ?_ (fun g hg => (hat2 g hg).imp id (fun h => ⟨h.1, by rw [hsz4]; exact h.2⟩))
    have := owns_keepX hown' hks hnbd
    rw [List.length_append, List.length_singleton, turnVs_snoc]
    exact this
  · have h1 : Below B w w3 := (hwa.mono hB).grown hgrow (by have := hwa.size; omega) (fun k hk => (h.base k (by rw [h.rt k hk]; simp)).1)
    exact h1.setCell (p := ⟨bd, 9, none⟩) h.ge _
/-- a name put -/
theorem DiskIn.name_put (h : DiskIn B w bd ρ S vf vt bn bl V) (hn : size S.names < maxLen) (s : ByteArray) (hs : s.size ≤ maxLen) (f : Nat) :
    ∃ w', (Instr.mapUpdate 56 (.map (some bn)) (.string s) (.pointer (some ⟨f, 0, none⟩))).run Try.prog w = .ok () w' ∧ DiskIn B w' bd ρ { S with names := S.names.put (kl s) (enc f) } vf vt bn bl V ∧ Below B w w' ∧ KeepX (fun b => b ≠ bn) w w' := by
  obtain ⟨w', hr, h1, h2⟩ := h.names.put hn s hs f
  have hk : KeepX (fun b => b ≠ bn) w w' := KeepX.gb h2 (fun r e h => h (by cases e; rfl))
  have hb := h.base bn (by rw [h.rn]; simp)
  exact ⟨w', hr, h.setNames hk h1, (Below.refl B w).grown h2 (by omega) (fun k e => by cases e; exact hb.1), hk⟩
/-- a name taken away -/
theorem DiskIn.name_drop (h : DiskIn B w bd ρ S vf vt bn bl V) (s : ByteArray) (hs : s.size ≤ maxLen) (ty : TypeId) :
    ∃ w', (Builtin.delete_ #[56, 9] ty #[.map (some bn), .string s]).run Try.prog w = .ok (.tuple #[]) w' ∧ DiskIn B w' bd ρ { S with names := S.names.del (kl s) } vf vt bn bl V ∧ Below B w w' ∧ KeepX (fun b => b ≠ bn) w w' := by
  obtain ⟨w', hr, h1, h2⟩ := h.names.drop s hs ty
  have hk : KeepX (fun b => b ≠ bn) w w' := KeepX.gb h2 (fun r e h => h (by cases e; rfl))
  have hb := h.base bn (by rw [h.rn]; simp)
  exact ⟨w', hr, h.setNames hk h1, (Below.refl B w).grown h2 (by omega) (fun k e => by cases e; exact hb.1), hk⟩
end
end Go.Proofs.Ytelndbjjkhlacaa
