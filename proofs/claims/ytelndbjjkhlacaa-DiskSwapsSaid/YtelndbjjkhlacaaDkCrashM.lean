/-
  A disk's state behind a loss of power keeps to what a disk's state keeps to.
-/
import Derived.Test.YtelndbjjkhlacaaDkVisit
namespace Go.Proofs.Ytelndbjjkhlacaa
open Go.RowKit Go.Maps

theorem NamesOk.lead {D : DT} {F : List Nat} (h : NamesOk D F) (hT : Tidy D) (t : Turn) (ht : ∀ f, t.f = some f → f ∈ F) (hk : t.k = 0 → t.f ≠ none) : NamesOk (leadD D t) F := by
  unfold leadD
  split
  · next h0 =>
    cases hf : t.f with
    | none => exact absurd hf (hk h0)
    | some f => exact h.put hT.isMap t.a (ht f hf)
  split
  · split
    · next f hf => exact (h.del _).put (hT.del _).isMap _ (h.file hf)
    · exact h
  split
  · exact h.del _
  · exact h
theorem now_props (F : List Nat) : ∀ (ts : List Turn) (bs : List Bool) (D : DT), Tidy D → NamesOk D F → (∀ t ∈ ts, ∀ f, t.f = some f → f ∈ F) → (∀ t ∈ ts, t.k = 0 → t.f ≠ none) →
    Tidy (nowD D ts bs) ∧ NamesOk (nowD D ts bs) F ∧ size (nowD D ts bs) ≤ size D + ts.length
  | [], bs, D, hT, hN, _, _ => by rw [nowD_nil]; exact ⟨hT, hN, Nat.le_refl _⟩
  | t :: ts, [], D, hT, hN, h1, h2 => by
    obtain ⟨k1, k2, k3⟩ := now_props F ts [] (leadD D t) (tidy_lead hT t) (hN.lead hT t (h1 t (.head _)) (h2 t (.head _))) (fun u hu => h1 u (.tail _ hu)) (fun u hu => h2 u (.tail _ hu))
    have := size_lead hT t
    exact ⟨k1, k2, by show size (nowD (leadD D t) ts []) ≤ _; simp only [List.length_cons]; omega⟩
  | t :: ts, b :: bs, D, hT, hN, h1, h2 => by
    have hs := size_lead hT t
    cases b with
    | true =>
      obtain ⟨k1, k2, k3⟩ := now_props F ts bs (leadD D t) (tidy_lead hT t) (hN.lead hT t (h1 t (.head _)) (h2 t (.head _))) (fun u hu => h1 u (.tail _ hu)) (fun u hu => h2 u (.tail _ hu))
      exact ⟨k1, k2, by show size (nowD (leadD D t) ts bs) ≤ _; simp only [List.length_cons]; omega⟩
    | false =>
      obtain ⟨k1, k2, k3⟩ := now_props F ts bs D hT hN (fun u hu => h1 u (.tail _ hu)) (fun u hu => h2 u (.tail _ hu))
      exact ⟨k1, k2, by show size (nowD D ts bs) ≤ _; simp only [List.length_cons]; omega⟩
theorem inD_at {D : DT} (hc : Canon D) {k : Lit} {f : Nat} (hh : has D k = true) (ha : ∀ z, D.atKey k z = enc f) : inD D f = true := by
  have hT : Tidy D := by obtain ⟨es, rfl, hs, hk⟩ := hc; exact ⟨es, rfl, apart_of_rising hs⟩
  have hK : ∀ es, D = .map es → ∀ p ∈ es, WideAt.IsKeyLit p.1 := by
    obtain ⟨es, rfl, hs, hk⟩ := hc
    intro es' e p hp
    cases e
    exact hk p hp
  exact (inD_iff hT hK f).2 ⟨k, hh, by rw [ha, decF_enc]⟩
theorem NamesOk.only {D : DT} {F : List Nat} (h : NamesOk D F) (hc : Canon D) : NamesOk D (F.filter (inD D)) := fun k hk => by
  obtain ⟨f, hf, ha⟩ := h k hk
  exact ⟨f, List.mem_filter.2 ⟨hf, inD_at hc hk ha⟩, ha⟩
theorem crash_len (S : DSt) (h : DOk S) (fs : List Int) {f : Nat} (hf : f ∈ S.files) (l : List Nat) : ∃ k, S.fl f ≤ k ∧ k ≤ (S.fb f).length ∧ truncL S.fl l fs S.fb f = (S.fb f).take k := truncL_pre S.fl l fs S.fb f (h.lasts f hf)
theorem crash_ok {S : DSt} (h : DOk S) (fs : List Int) (bs : List Bool) (hT : Tidy S.last) (hc : Canon (nowD S.last S.turns bs)) : DOk (crashS S fs bs) := by
  obtain ⟨k1, k2, k3⟩ := now_props S.files S.turns bs S.last hT h.last h.turns h.tkind
  have hn := k2.only hc
  have hsub : ∀ f, f ∈ S.files.filter (inD (nowD S.last S.turns bs)) → f ∈ S.files ∧ inD (nowD S.last S.turns bs) f = true := fun f hf => List.mem_filter.1 hf
  have hfew := h.few
  have hlen : (S.files.filter (inD (nowD S.last S.turns bs))).length ≤ S.files.length := List.length_filter_le _ _
  refine ⟨h.nodup.filter _, hn, hn, fun t ht => (by cases ht), ?_, ?_, ?_, fun t ht => (by cases ht), fun t ht => (by cases ht), ⟨?_, ?_, ?_⟩, ?_⟩
  · intro f hf
    obtain ⟨h1, h2⟩ := hsub f hf
    obtain ⟨k, a, b, e⟩ := crash_len S h fs h1 (S.files.filter (openB S))
    show (truncL S.fl (S.files.filter (openB S)) fs S.fb f).length ≤ _
    rw [e, List.length_take]
    have := h.long f h1
    omega
  · intro f hf
    obtain ⟨h1, h2⟩ := hsub f hf
    show (if inD (nowD S.last S.turns bs) f = true then (truncL S.fl (S.files.filter (openB S)) fs S.fb f).length else S.fl f) ≤ (truncL S.fl (S.files.filter (openB S)) fs S.fb f).length
    rw [if_pos h2]
    exact Nat.le_refl _
  · intro f hf c hm
    obtain ⟨h1, h2⟩ := hsub f hf
    obtain ⟨k, a, b, e⟩ := crash_len S h fs h1 (S.files.filter (openB S))
    change c ∈ truncL S.fl (S.files.filter (openB S)) fs S.fb f at hm
    rw [e] at hm
    exact h.byte f h1 c (List.mem_of_mem_take hm)
  · show ((S.files.filter (inD (nowD S.last S.turns bs))).length : Int) ≤ S.calls
    omega
  · show (size (nowD S.last S.turns bs) : Int) ≤ S.calls
    omega
  · show ((size (nowD S.last S.turns bs) + ([] : List Turn).length : Nat) : Int) ≤ S.calls
    simp only [List.length_nil, Nat.add_zero]
    omega
  · exact ⟨h.nums.1, h.nums.2.1, h.nums.2.2.1, h.nums.2.2.2.1, Int.le_refl (-1), (by omega : (-1 : Int) ≤ 1000000), Int.le_refl 0, (by omega : (0 : Int) ≤ 1000000)⟩
/-- a slice that is cut shorter, in its own row -/
theorem owns_cut {w : World} {B : Nat} {e : TypeId} {a : Option Addr} {n c : Nat} {xs : List Value} (h : w.ownsRow B e 1 (.slice a n c) n xs) (k : Nat) (hk : k ≤ n) : w.ownsRow B e 1 (.slice a k c) k (xs.take k) := by
  obtain ⟨h1, h2⟩ := h
  refine ⟨by rw [List.length_take]; omega, ?_⟩
  rcases h2 with ⟨h3, h4⟩ | ⟨g, cap, cur, h3, h4, h5, h6, h7, h8, h9⟩
  · injection h3 with e1 e2 e3
    exact .inl ⟨by rw [e1, e3, show k = 0 by omega], by omega⟩
  · injection h3 with e1 e2 e3
    subst e1 e3
    refine .inr ⟨g, _, cur, rfl, h4, h5, by omega, h7, h8, ?_⟩
    rw [← h9, List.take_take]
    congr 1
    omega
end Go.Proofs.Ytelndbjjkhlacaa
