/-
  The document's own order of places: halves first, joined; that it is the order of ends.
-/
import Derived.Test.YtelndbjjkhlacaaTextOrd
namespace Go.Proofs.Ytelndbjjkhlacaa

def lexB : List Nat → List Nat → Bool
  | _, [] => false
  | [], _ :: _ => true
  | a :: x, b :: y => decide (a < b) || (decide (a = b) && lexB x y)
theorem lexB_iff : ∀ x y, lexB x y = true ↔ lexL x y
  | [], [] => by simp [lexB, lexL]
  | _ :: _, [] => by simp [lexB, lexL]
  | [], _ :: _ => by simp [lexB, lexL]
  | a :: x, b :: y => by simp [lexB, lexL, lexB_iff x y]
def textAt (ds : List (List Nat)) (p : Nat × Nat) : List Nat := (ds.getD p.1 []).drop p.2
def placeOf (ds : List (List Nat)) (p : Nat × Nat) : Nat := startOf ds p.1 + p.2
def validH (ds : List (List Nat)) (p : Nat × Nat) : Prop := p.1 < ds.length ∧ p.2 ≤ (ds.getD p.1 []).length
def hltB (ds : List (List Nat)) (p q : Nat × Nat) : Bool := if textAt ds p = textAt ds q then decide (p.1 < q.1) else lexB (textAt ds p) (textAt ds q)
theorem lexL_irr : ∀ x, ¬ lexL x x
  | [] => by simp [lexL]
  | a :: x => by simp [lexL, lexL_irr x]
theorem hltB_iff (ds : List (List Nat)) (p q : Nat × Nat) (hp : validH ds p) (hq : validH ds q) : hltB ds p q = true ↔ ltS (symS (rowOf ds) ds.length) (placeOf ds p) (placeOf ds q) := by
  unfold placeOf
  rw [ltS_docs ds ((ds.getD p.1 []).length - p.2) p.1 p.2 q.1 q.2 hp.1 hq.1 (by have := hp.2; omega) hq.2]
  unfold hltB textAt
  by_cases e : (ds.getD p.1 []).drop p.2 = (ds.getD q.1 []).drop q.2
  · rw [if_pos e, decide_eq_true_eq, e]
    exact ⟨fun h => .inr ⟨rfl, h⟩, fun h => h.elim (fun h => (lexL_irr _ h).elim) (fun h => h.2)⟩
  · rw [if_neg e, lexB_iff]
    exact ⟨fun h => .inl h, fun h => h.elim id (fun h => (e h.1).elim)⟩
theorem ltS_total (ds : List (List Nat)) (x y : Nat) (hx : x < (rowOf ds).length) (hy : y < (rowOf ds).length) (hne : x ≠ y) : ltS (symS (rowOf ds) ds.length) x y ∨ ltS (symS (rowOf ds) ds.length) y x := by
  rcases tri (symS (rowOf ds) ds.length) (rowOf ds).length x y with h | h | h
  · exact .inl (ltS_of_ltK h)
  · exfalso
    have hs := symN_row ds
    rcases Nat.lt_or_gt_of_ne hne with c | c
    · exact apart_sym _ _ hs x y c hy (h _ (by omega))
    · exact apart_sym _ _ hs y x c hx (h _ (by omega)).symm
  · exact .inr (ltS_of_ltK h)
theorem placeOf_lt (ds : List (List Nat)) (p : Nat × Nat) (hp : validH ds p) : placeOf ds p < (rowOf ds).length := place_lt ds p.1 p.2 hp.1 hp.2
theorem placeOf_one (ds : List (List Nat)) (p q : Nat × Nat) (hp : validH ds p) (hq : validH ds q) (e : placeOf ds p = placeOf ds q) : p = q := by
  obtain ⟨h1, h2⟩ := place_one ds p.1 p.2 q.1 q.2 hp.1 hq.1 hp.2 hq.2 e
  exact Prod.ext h1 h2
/-- two rows in order, joined -/
def mergeH {α : Type} (lt : α → α → Bool) : List α → List α → List α
  | [], bs => bs
  | a :: as, [] => a :: as
  | a :: as, b :: bs => if lt b a then b :: mergeH lt (a :: as) bs else a :: mergeH lt as (b :: bs)
termination_by x y => x.length + y.length
theorem mergeH_nil {α : Type} (lt : α → α → Bool) (bs : List α) : mergeH lt [] bs = bs := by simp [mergeH]
theorem mergeH_nil' {α : Type} (lt : α → α → Bool) (as : List α) : mergeH lt as [] = as := by cases as <;> simp [mergeH]
theorem mergeH_cons {α : Type} (lt : α → α → Bool) (a b : α) (as bs : List α) : mergeH lt (a :: as) (b :: bs) = if lt b a then b :: mergeH lt (a :: as) bs else a :: mergeH lt as (b :: bs) := by
  rw [mergeH]
theorem mergeH_ends {α : Type} (lt : α → α → Bool) (as bs : List α) (h : as = [] ∨ bs = []) : mergeH lt as bs = as ++ bs := by
  rcases h with h | h
  · rw [h, mergeH_nil]; rfl
  · rw [h, mergeH_nil', List.append_nil]
theorem mergeH_spec {α : Type} (lt : α → α → Bool) (R : α → α → Prop) (tr : ∀ a b c, R a b → R b c → R a c) : ∀ (n : Nat) (as bs : List α), as.length + bs.length ≤ n → as.Pairwise R → bs.Pairwise R →
    (∀ a ∈ as, ∀ b ∈ bs, (lt b a = true → R b a) ∧ (lt b a = false → R a b)) → (mergeH lt as bs).Pairwise R ∧ (∀ x, x ∈ mergeH lt as bs ↔ x ∈ as ∨ x ∈ bs) ∧ (mergeH lt as bs).length = as.length + bs.length := by
  intro n
  induction n with
  | zero =>
    intro as bs hn ha hb _
    have h1 : as = [] := List.eq_nil_of_length_eq_zero (by omega)
    have h2 : bs = [] := List.eq_nil_of_length_eq_zero (by omega)
    subst h1; subst h2
    simp [mergeH]
  | succ n ih =>
    intro as bs hn ha hb h
    cases as with
    | nil => rw [mergeH_nil]; exact ⟨hb, fun x => by simp, by simp⟩
    | cons a as =>
      cases bs with
      | nil => rw [mergeH_nil']; exact ⟨ha, fun x => by simp, by simp⟩
      | cons b bs =>
        have ha' := List.pairwise_cons.1 ha
        have hb' := List.pairwise_cons.1 hb
        rw [mergeH_cons]
        simp only [List.length_cons] at hn
        cases hl : lt b a
        · obtain ⟨i1, i2, i3⟩ := ih as (b :: bs) (by simp; omega) ha'.2 hb (fun x hx y hy => h x (by simp [hx]) y hy)
          have hab := (h a (by simp) b (by simp)).2 hl
          rw [if_neg (by simp)]
          refine ⟨List.pairwise_cons.2 ⟨fun x hx => ?_, i1⟩, fun x => ?_, ?_⟩
          · rcases (i2 x).1 hx with hx | hx
            · exact ha'.1 x hx
            · rcases List.mem_cons.1 hx with e | e
              · subst e; exact hab
              · exact tr _ _ _ hab (hb'.1 x e)
          · rw [List.mem_cons, i2, List.mem_cons]; simp only [List.mem_cons]
            constructor
            · rintro (h | h | h)
              · exact .inl (.inl h)
              · exact .inl (.inr h)
              · exact .inr h
            · rintro ((h | h) | h)
              · exact .inl h
              · exact .inr (.inl h)
              · exact .inr (.inr h)
          · simp only [List.length_cons]; rw [i3]; simp only [List.length_cons]; omega
        · obtain ⟨i1, i2, i3⟩ := ih (a :: as) bs (by simp; omega) ha hb'.2 (fun x hx y hy => h x hx y (by simp [hy]))
          have hba := (h a (by simp) b (by simp)).1 hl
          rw [if_pos rfl]
          refine ⟨List.pairwise_cons.2 ⟨fun x hx => ?_, i1⟩, fun x => ?_, ?_⟩
          · rcases (i2 x).1 hx with hx | hx
            · rcases List.mem_cons.1 hx with e | e
              · subst e; exact hba
              · exact tr _ _ _ hba (ha'.1 x e)
            · exact hb'.1 x hx
          · rw [List.mem_cons, i2, List.mem_cons (a := x) (b := b)]
            constructor
            · rintro (h | h | h)
              · exact .inr (.inl h)
              · exact .inl h
              · exact .inr (.inr h)
            · rintro (h | h | h)
              · exact .inr (.inl h)
              · exact .inl h
              · exact .inr (.inr h)
          · simp only [List.length_cons]; rw [i3]; simp only [List.length_cons]; omega
/-- halves first -/
def sortF {α : Type} (lt : α → α → Bool) : Nat → List α → List α
  | 0, l => l
  | f + 1, l => if l.length < 2 then l else mergeH lt (sortF lt f (l.take (l.length / 2))) (sortF lt f (l.drop (l.length / 2)))
theorem sortF_succ {α : Type} (lt : α → α → Bool) (f : Nat) (l : List α) : sortF lt (f + 1) l = if l.length < 2 then l else mergeH lt (sortF lt f (l.take (l.length / 2))) (sortF lt f (l.drop (l.length / 2))) := rfl
theorem sortF_spec {α : Type} (lt : α → α → Bool) (R : α → α → Prop) (tr : ∀ a b c, R a b → R b c → R a c) (ok : α → Prop) (tot : ∀ a b, ok a → ok b → a ≠ b → (lt b a = true → R b a) ∧ (lt b a = false → R a b)) : ∀ (f : Nat) (l : List α), l.length ≤ f → (∀ x ∈ l, ok x) → l.Nodup →
    (sortF lt f l).Pairwise R ∧ (∀ x, x ∈ sortF lt f l ↔ x ∈ l) ∧ (sortF lt f l).length = l.length := by
  intro f
  induction f with
  | zero =>
    intro l hl _ _
    have : l = [] := List.eq_nil_of_length_eq_zero (by omega)
    subst this
    exact ⟨List.Pairwise.nil, fun x => Iff.rfl, rfl⟩
  | succ f ih =>
    intro l hl ho hn
    rw [sortF_succ]
    by_cases c : l.length < 2
    · rw [if_pos c]
      refine ⟨?_, fun x => Iff.rfl, rfl⟩
      match l, c with
      | [], _ => exact List.Pairwise.nil
      | [x], _ => simp
    · rw [if_neg c]
      have h1 := ih (l.take (l.length / 2)) (by rw [List.length_take]; omega) (fun x hx => ho x (List.mem_of_mem_take hx)) (hn.sublist (List.take_sublist _ _))
      have h2 := ih (l.drop (l.length / 2)) (by rw [List.length_drop]; omega) (fun x hx => ho x (List.mem_of_mem_drop hx)) (hn.sublist (List.drop_sublist _ _))
      have hsp : l = l.take (l.length / 2) ++ l.drop (l.length / 2) := (List.take_append_drop _ _).symm
      have hdis : ∀ a ∈ l.take (l.length / 2), ∀ b ∈ l.drop (l.length / 2), a ≠ b := by
        have := hn
        rw [hsp] at this
        exact (List.pairwise_append.1 this).2.2
      have h3 := mergeH_spec lt R tr _ _ _ (Nat.le_refl _) h1.1 h2.1 (fun a ha b hb => tot a b (ho a (List.mem_of_mem_take ((h1.2.1 a).1 ha))) (ho b (List.mem_of_mem_drop ((h2.2.1 b).1 hb))) (hdis a ((h1.2.1 a).1 ha) b ((h2.2.1 b).1 hb)))
      refine ⟨h3.1, fun x => ?_, ?_⟩
      · rw [h3.2.1, h1.2.1, h2.2.1]
        conv => rhs; rw [hsp]
        rw [List.mem_append]
      · rw [h3.2.2, h1.2.2, h2.2.2, List.length_take, List.length_drop]; omega
theorem mergeH_mem {α : Type} (lt : α → α → Bool) : ∀ (n : Nat) (as bs : List α), as.length + bs.length ≤ n → (∀ x, x ∈ mergeH lt as bs → x ∈ as ∨ x ∈ bs) ∧ (mergeH lt as bs).length = as.length + bs.length := by
  intro n
  induction n with
  | zero =>
    intro as bs hn
    have h1 : as = [] := List.eq_nil_of_length_eq_zero (by omega)
    have h2 : bs = [] := List.eq_nil_of_length_eq_zero (by omega)
    subst h1; subst h2
    simp [mergeH]
  | succ n ih =>
    intro as bs hn
    cases as with
    | nil => rw [mergeH_nil]; exact ⟨fun x hx => .inr hx, by simp⟩
    | cons a as =>
      cases bs with
      | nil => rw [mergeH_nil']; exact ⟨fun x hx => .inl hx, by simp⟩
      | cons b bs =>
        rw [mergeH_cons]
        simp only [List.length_cons] at hn
        cases lt b a
        · obtain ⟨i1, i2⟩ := ih as (b :: bs) (by simp; omega)
          rw [if_neg (by simp)]
          refine ⟨fun x hx => ?_, by simp only [List.length_cons] at *; omega⟩
          rcases List.mem_cons.1 hx with e | e
          · exact .inl (by simp [e])
          · rcases i1 x e with g | g
            · exact .inl (by simp [g])
            · exact .inr g
        · obtain ⟨i1, i2⟩ := ih (a :: as) bs (by simp; omega)
          rw [if_pos rfl]
          refine ⟨fun x hx => ?_, by simp only [List.length_cons] at *; omega⟩
          rcases List.mem_cons.1 hx with e | e
          · exact .inr (by simp [e])
          · rcases i1 x e with g | g
            · exact .inl g
            · exact .inr (by simp [g])
theorem sortF_both {α : Type} (lt : α → α → Bool) : ∀ (f : Nat) (l : List α), (∀ x, x ∈ sortF lt f l → x ∈ l) ∧ (sortF lt f l).length = l.length := by
  intro f
  induction f with
  | zero => intro l; exact ⟨fun x hx => hx, rfl⟩
  | succ f ih =>
    intro l
    rw [sortF_succ]
    by_cases c : l.length < 2
    · rw [if_pos c]; exact ⟨fun x hx => hx, rfl⟩
    · rw [if_neg c]
      obtain ⟨m1, m2⟩ := mergeH_mem lt _ (sortF lt f (l.take (l.length / 2))) (sortF lt f (l.drop (l.length / 2))) (Nat.le_refl _)
      refine ⟨fun x hx => ?_, ?_⟩
      · rcases m1 x hx with g | g
        · exact List.mem_of_mem_take ((ih _).1 x g)
        · exact List.mem_of_mem_drop ((ih _).1 x g)
      · rw [m2, (ih _).2, (ih _).2, List.length_take, List.length_drop]; omega
theorem sortF_len {α : Type} (lt : α → α → Bool) (f : Nat) (l : List α) (_ : l.length ≤ f) : (sortF lt f l).length = l.length := (sortF_both lt f l).2
theorem sortF_mem {α : Type} (lt : α → α → Bool) (f : Nat) (l : List α) (x : α) (h : x ∈ sortF lt f l) : x ∈ l := (sortF_both lt f l).1 x h
/-- all places, as documents and places in them -/
def hitsD (_ : List (List Nat)) (r k : Nat) : List (Nat × Nat) := (List.range k).map fun j => (r, j)
def allH (ds : List (List Nat)) (r : Nat) : List (Nat × Nat) := (List.range r).flatMap fun q => hitsD ds q ((ds.getD q []).length + 1)
theorem hitsD_succ (ds : List (List Nat)) (r k : Nat) : hitsD ds r (k + 1) = hitsD ds r k ++ [(r, k)] := by simp [hitsD, List.range_succ]
theorem hitsD_zero (ds : List (List Nat)) (r : Nat) : hitsD ds r 0 = [] := rfl
theorem hitsD_len (ds : List (List Nat)) (r k : Nat) : (hitsD ds r k).length = k := by simp [hitsD]
theorem allH_succ (ds : List (List Nat)) (r : Nat) : allH ds (r + 1) = allH ds r ++ hitsD ds r ((ds.getD r []).length + 1) := by
  unfold allH; rw [List.range_succ, List.flatMap_append]; simp
theorem allH_zero (ds : List (List Nat)) : allH ds 0 = [] := rfl
theorem allH_len (ds : List (List Nat)) (r : Nat) (h : r ≤ ds.length) : (allH ds r).length = startOf ds r := by
  induction r with
  | zero => rw [allH_zero, startOf_zero]; rfl
  | succ r ih => rw [allH_succ, List.length_append, ih (by omega), hitsD_len, startOf_succ ds r (by omega)]; omega
theorem mem_allH (ds : List (List Nat)) (r : Nat) (p : Nat × Nat) : p ∈ allH ds r ↔ p.1 < r ∧ p.2 ≤ (ds.getD p.1 []).length := by
  unfold allH hitsD
  simp only [List.mem_flatMap, List.mem_range, List.mem_map]
  constructor
  · rintro ⟨q, hq, j, hj, rfl⟩; exact ⟨hq, by show j ≤ (ds.getD q []).length; omega⟩
  · rintro ⟨h1, h2⟩; exact ⟨p.1, h1, p.2, by omega, rfl⟩
theorem nodup_allH (ds : List (List Nat)) (r : Nat) : (allH ds r).Nodup := by
  induction r with
  | zero => exact List.Pairwise.nil
  | succ r ih =>
    rw [allH_succ]
    refine List.pairwise_append.2 ⟨ih, ?_, fun a ha b hb e => ?_⟩
    · unfold hitsD
      rw [List.pairwise_map]
      refine (List.pairwise_lt_range).imp ?_
      intro a b hab e
      injection e; omega
    · subst e
      have h1 := (mem_allH ds r a).1 ha
      unfold hitsD at hb
      obtain ⟨j, _, rfl⟩ := List.mem_map.1 hb
      have : r < r := h1.1
      omega
/-- the document's rows -/
def rowsR (ds : List (List Nat)) : List (Nat × Nat) := sortF (hltB ds) (allH ds ds.length).length (allH ds ds.length)
theorem rowsR_def (ds : List (List Nat)) : rowsR ds = sortF (hltB ds) (allH ds ds.length).length (allH ds ds.length) := rfl
theorem rowsR_spec (ds : List (List Nat)) : (rowsR ds).Pairwise (fun p q => ltS (symS (rowOf ds) ds.length) (placeOf ds p) (placeOf ds q)) ∧ (∀ p, p ∈ rowsR ds ↔ validH ds p) ∧ (rowsR ds).length = (rowOf ds).length := by
  have h := sortF_spec (hltB ds) (fun p q => ltS (symS (rowOf ds) ds.length) (placeOf ds p) (placeOf ds q)) (fun a b c h g => ltS_trans h g) (validH ds) (fun a b ha hb hne => by
    have hne' : placeOf ds a ≠ placeOf ds b := fun e => hne (placeOf_one ds a b ha hb e)
    have hi := hltB_iff ds b a hb ha
    refine ⟨hi.1, fun hf => ?_⟩
    rcases ltS_total ds _ _ (placeOf_lt ds a ha) (placeOf_lt ds b hb) hne' with g | g
    · exact g
    · rw [hi.2 g] at hf; cases hf) (allH ds ds.length).length (allH ds ds.length) (Nat.le_refl _) (fun x hx => (mem_allH ds _ x).1 hx) (nodup_allH ds _)
  refine ⟨h.1, fun p => ?_, ?_⟩
  · exact (h.2.1 p).trans (mem_allH ds _ p)
  · exact h.2.2.trans (by rw [allH_len ds _ (Nat.le_refl _), startOf_all])
attribute [irreducible] rowsR
end Go.Proofs.Ytelndbjjkhlacaa
