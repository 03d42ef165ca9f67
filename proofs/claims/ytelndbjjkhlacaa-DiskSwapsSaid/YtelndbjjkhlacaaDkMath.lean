/-
  What a loss of power leaves: plain laws.
-/
import Derived.Test.YtelndbjjkhlacaaCommon
namespace Go.Proofs.Ytelndbjjkhlacaa

/-- how many bytes are left of a file whose first l last, of n, by a number -/
def leftN (l n : Nat) (x : Int) : Nat := l + (x % ((n - l + 1 : Nat) : Int)).toNat
theorem leftN_le (l n : Nat) (x : Int) (h : l ≤ n) : l ≤ leftN l n x ∧ leftN l n x ≤ n := by
  unfold leftN
  have h1 := Int.emod_nonneg x (show (((n - l + 1 : Nat) : Int)) ≠ 0 by omega)
  have h2 := Int.emod_lt_of_pos x (show (0 : Int) < ((n - l + 1 : Nat) : Int) by omega)
  omega
/-- Go's way to it -/
theorem leftN_go (l n : Nat) (x : Int) : Int.tmod (Int.tmod x ((n - l + 1 : Nat) : Int) + ((n - l + 1 : Nat) : Int)) ((n - l + 1 : Nat) : Int) = ((leftN l n x - l : Nat) : Int) := by
  unfold leftN
  have hm : (0 : Int) < ((n - l + 1 : Nat) : Int) := by omega
  generalize ((n - l + 1 : Nat) : Int) = m at *
  have h1 := Int.emod_nonneg x (show m ≠ 0 by omega)
  have h2 := Int.emod_lt_of_pos x hm
  have h3 : 0 ≤ Int.tmod x m + m := by
    have := Int.lt_tmod_of_pos x hm
    omega
  rw [Int.tmod_eq_emod_of_nonneg h3, Int.add_emod_right]
  have h4 : Int.tmod x m % m = x % m := by
    rw [Int.tmod_def, Int.emod_def x m]
    have e : (x - m * Int.tdiv x m) % m = x % m := by
      rw [Int.sub_emod, Int.mul_emod_right]
      simp
    rw [e, Int.emod_def]
  rw [h4]
  omega
def cutAt (fl : Nat → Nat) (fb : Nat → List Nat) (f : Nat) (x : Int) : Nat → List Nat := fun g => if g = f then (fb f).take (leftN (fl f) (fb f).length x) else fb g
/-- the files that are open are cut, by one number each, as long as there are some -/
def truncL (fl : Nat → Nat) : List Nat → List Int → (Nat → List Nat) → (Nat → List Nat)
  | f :: r, x :: xs, fb => truncL fl r xs (cutAt fl fb f x)
  | _, _, fb => fb
theorem truncL_nil (fl : Nat → Nat) (xs : List Int) (fb : Nat → List Nat) : truncL fl [] xs fb = fb := by unfold truncL; rfl
theorem truncL_none (fl : Nat → Nat) (l : List Nat) (fb : Nat → List Nat) : truncL fl l [] fb = fb := by cases l <;> (unfold truncL; rfl)
theorem truncL_snoc (fl : Nat → Nat) : ∀ (l : List Nat) (f : Nat) (xs : List Int) (fb : Nat → List Nat), truncL fl (l ++ [f]) xs fb = match xs.drop l.length with
    | x :: _ => cutAt fl (truncL fl l xs fb) f x
    | [] => truncL fl l xs fb
  | [], f, xs, fb => by cases xs <;> simp [truncL]
  | g :: l, f, [], fb => by simp [truncL]
  | g :: l, f, x :: xs, fb => by
    show truncL fl (l ++ [f]) xs (cutAt fl fb g x) = _
    rw [truncL_snoc fl l f xs]
    simp [truncL]
theorem truncL_other (fl : Nat → Nat) : ∀ (l : List Nat) (xs : List Int) (fb : Nat → List Nat) (g : Nat), g ∉ l → truncL fl l xs fb g = fb g
  | [], xs, fb, g, _ => by rw [truncL_nil]
  | f :: l, [], fb, g, _ => by rw [truncL_none]
  | f :: l, x :: xs, fb, g, h => by
    show truncL fl l xs (cutAt fl fb f x) g = fb g
    rw [truncL_other fl l xs _ g (fun h' => h (by simp [h']))]
    unfold cutAt
    rw [if_neg (fun e => h (by simp [e]))]
theorem truncL_pre (fl : Nat → Nat) (l : List Nat) (xs : List Int) (fb : Nat → List Nat) (g : Nat) (hl : fl g ≤ (fb g).length) : ∃ k, fl g ≤ k ∧ k ≤ (fb g).length ∧ truncL fl l xs fb g = (fb g).take k := by
  induction l generalizing xs fb with
  | nil => exact ⟨(fb g).length, hl, Nat.le_refl _, by rw [truncL_nil, List.take_length]⟩
  | cons f l ih =>
    cases xs with
    | nil => exact ⟨(fb g).length, hl, Nat.le_refl _, by rw [truncL_none, List.take_length]⟩
    | cons x xs =>
      by_cases e : g = f
      · subst e
        obtain ⟨h1, h2⟩ := leftN_le (fl g) (fb g).length x hl
        have hc : cutAt fl fb g x g = (fb g).take (leftN (fl g) (fb g).length x) := if_pos rfl
        obtain ⟨k, k1, k2, k3⟩ := ih xs (cutAt fl fb g x) (by rw [hc, List.length_take]; omega)
        rw [hc, List.length_take] at k2
        refine ⟨k, k1, by omega, ?_⟩
        show truncL fl l xs (cutAt fl fb g x) g = _
        rw [k3, hc, List.take_take]
        congr 1
        omega
      · have hc : cutAt fl fb f x g = fb g := if_neg e
        obtain ⟨k, k1, k2, k3⟩ := ih xs (cutAt fl fb f x) (by rw [hc]; exact hl)
        rw [hc] at k2
        exact ⟨k, k1, k2, by show truncL fl l xs (cutAt fl fb f x) g = _; rw [k3, hc]⟩
end Go.Proofs.Ytelndbjjkhlacaa
