/-
  Lists whose neighbours differ: what CompactFunc leaves; plain laws.
-/
import Derived.Test.YtoifmfdaghmleaaCommon
namespace Go.Proofs.Ytoifmfdaghmleaa

theorem snoc_ind {α : Type} {P : List α → Prop} (h0 : P []) (h1 : ∀ l x, P l → P (l ++ [x])) (l : List α) : P l := by
  have : ∀ r : List α, P r.reverse := by
    intro r
    induction r with
    | nil => exact h0
    | cons x r ih => rw [List.reverse_cons]; exact h1 _ _ ih
  have h := this l.reverse
  rwa [List.reverse_reverse] at h

section
variable {α : Type} [DecidableEq α]
/-- neighbours that are the same: the first of them -/
def cpt (l : List α) : List α := l.foldl (fun acc x => if acc.getLast? = some x then acc else acc ++ [x]) []
theorem cpt_nil : cpt ([] : List α) = [] := rfl
theorem cpt_snoc' (l : List α) (x : α) : cpt (l ++ [x]) = if (cpt l).getLast? = some x then cpt l else cpt l ++ [x] := by
  unfold cpt
  rw [List.foldl_append]
  rfl
theorem cpt_last (l : List α) : (cpt l).getLast? = l.getLast? := by
  refine snoc_ind (P := fun l => (cpt l).getLast? = l.getLast?) rfl (fun l x _ => ?_) l
  rw [cpt_snoc', List.getLast?_concat]
  split
  · assumption
  · rw [List.getLast?_concat]
theorem cpt_snoc (l : List α) (x : α) : cpt (l ++ [x]) = if l.getLast? = some x then cpt l else cpt l ++ [x] := by rw [cpt_snoc', cpt_last]
theorem cpt_len (l : List α) : (cpt l).length ≤ l.length := by
  refine snoc_ind (P := fun l => (cpt l).length ≤ l.length) (Nat.le_refl 0) (fun l x ih => ?_) l
  rw [cpt_snoc']
  split
  · rw [List.length_append]; omega
  · rw [List.length_append, List.length_append]
    simp only [List.length_singleton]
    omega
theorem cpt_mem (l : List α) (y : α) : y ∈ cpt l ↔ y ∈ l := by
  refine snoc_ind (P := fun l => y ∈ cpt l ↔ y ∈ l) Iff.rfl (fun l x ih => ?_) l
  rw [cpt_snoc', List.mem_append, List.mem_singleton]
  split
  · rename_i h
    rw [ih]
    refine ⟨.inl, fun h2 => h2.elim id fun e => ?_⟩
    subst e
    exact ih.1 (List.mem_of_getLast? h)
  · rw [List.mem_append, List.mem_singleton, ih]
/-- of a list that rises, each once, rising -/
theorem cpt_rise {lt : α → α → Prop} {le : α → α → Prop} (hle : ∀ a b, le a b → a ≠ b → lt a b) (htr : ∀ a b c, lt a b → le b c → lt a c) (hirr : ∀ a, ¬ lt a a) (l : List α) (h : l.Pairwise le) : (cpt l).Pairwise lt := by
  revert h
  refine snoc_ind (P := fun l => l.Pairwise le → (cpt l).Pairwise lt) (fun _ => List.Pairwise.nil) (fun l x ih h => ?_) l
  obtain ⟨h1, _, h3⟩ := List.pairwise_append.1 h
  have hp := ih h1
  rw [cpt_snoc]
  split
  · exact hp
  · rename_i hne
    refine List.pairwise_append.2 ⟨hp, List.pairwise_singleton _ _, fun a ha b hb => ?_⟩
    obtain rfl := List.mem_singleton.1 hb
    have ham := (cpt_mem l a).1 ha
    by_cases e : a = b
    · subst e
      exfalso
      -- a stands in l ahead of its last, which is not a
      obtain ⟨z, hz⟩ : ∃ z, l.getLast? = some z := by
        cases hl : l.getLast? with
        | none => rw [List.getLast?_eq_none_iff] at hl; rw [hl] at ham; cases ham
        | some z => exact ⟨z, rfl⟩
      have hzl : (cpt l).getLast? = some z := by rw [cpt_last, hz]
      have hza : z ≠ a := fun e => hne (by rw [hz, e])
      obtain ⟨ys, hys⟩ : ∃ ys, cpt l = ys ++ [z] := by
        obtain ⟨ys, hys⟩ := List.getLast?_eq_some_iff.1 hzl
        exact ⟨ys, hys⟩
      have hay : a ∈ ys := by
        rw [hys] at ha
        rcases List.mem_append.1 ha with h | h
        · exact h
        · exact absurd (List.mem_singleton.1 h).symm hza
      rw [hys] at hp
      have h4 : lt a z := (List.pairwise_append.1 hp).2.2 a hay z (List.mem_singleton.2 rfl)
      have h5 : le z a := h3 z ((cpt_mem l z).1 (by rw [hys]; simp)) a (List.mem_singleton.2 rfl)
      have h6 : lt a a := htr a z a h4 h5
      exact hirr a h6
    · exact hle a b (h3 a ham b (List.mem_singleton.2 rfl)) e
end
end Go.Proofs.Ytoifmfdaghmleaa
