/-
  The document's queries, plain: how many they are, how they are read; and that the program's are the same.
-/
import Derived.Test.YtdcobmoeligdkaaGreatDoorCmQTold
namespace Go.Proofs.YtdcobmoeligdkaaGreatDoor
open Go.RowKit Go.Shelf

def sumN (g : QT → Nat) : List QT → Nat
  | [] => 0
  | x :: r => g x + sumN g r
def nodeF : Nat → QT → Nat
  | 0, _ => 0
  | f + 1, .node _ _ l => 1 + sumN (nodeF f) l
def deepF : Nat → QT → Bool
  | 0, _ => false
  | f + 1, .node _ _ l => l.all (deepF f)
def formF : Nat → QT → Bool
  | 0, _ => false
  | f + 1, .node k t l => okH k t l.length && l.all (formF f)
def rcntL (c : Int → QT → Int) (m : Int) : Int → List QT → Int
  | n, [] => n
  | n, x :: r => if n ≤ 60 then rcntL c m (n + c (m - n) x) r else n
def rcnt : Nat → Int → QT → Int
  | 0, _, _ => 1000
  | f + 1, m, .node _ _ l => if m ≤ 0 then 1000 else rcntL (rcnt f) m 1 l
theorem rcntL_big (c : Int → QT → Int) (m : Int) : ∀ (l : List QT) (n : Int), 60 < n → rcntL c m n l = n
  | [], n, _ => rfl
  | x :: r, n, h => by rw [rcntL, if_neg (by omega)]
theorem rcntL_bd (c : Int → QT → Int) (B : Int) (hB : 0 ≤ B) (hc : ∀ m x, 1 ≤ c m x ∧ c m x ≤ B) (m : Int) : ∀ (l : List QT) (n : Int), 1 ≤ n → n ≤ 60 + B → 1 ≤ rcntL c m n l ∧ rcntL c m n l ≤ 60 + B
  | [], n, h1, h2 => ⟨h1, h2⟩
  | x :: r, n, h1, h2 => by
    rw [rcntL]
    split
    · have := hc (m - n) x
      exact rcntL_bd c B hB hc m r _ (by omega) (by omega)
    · exact ⟨h1, h2⟩
theorem rcnt_bd : ∀ (f : Nat) (m : Int) (q : QT), 1 ≤ rcnt f m q ∧ rcnt f m q ≤ 1000 + 60 * (f : Int)
  | 0, m, q => by rw [rcnt]; omega
  | f + 1, m, .node k t l => by
    rw [rcnt]
    split
    · omega
    · have := rcntL_bd (rcnt f) (1000 + 60 * (f : Int)) (by omega) (rcnt_bd f) m l 1 (by omega) (by omega)
      omega
theorem sumN_mem (g : QT → Nat) : ∀ (l : List QT) (x : QT), x ∈ l → g x ≤ sumN g l
  | y :: r, x, h => by
    rw [sumN]
    rcases List.mem_cons.1 h with rfl | h
    · omega
    · have := sumN_mem g r x h; omega
theorem rcntL_small (c : Int → QT → Int) (g : QT → Nat) (p : QT → Bool) (h0 : ∀ m x, 1 ≤ c m x) (hc : ∀ m x, c m x ≤ 60 → p x = true ∧ c m x = (g x : Int)) (m : Int) : ∀ (l : List QT) (n : Int), 1 ≤ n → rcntL c m n l ≤ 60 → l.all p = true ∧ rcntL c m n l = n + (sumN g l : Int)
  | [], n, h1, h => ⟨rfl, by rw [rcntL, sumN]; omega⟩
  | x :: r, n, h1, h => by
    rw [rcntL] at h ⊢
    by_cases hn : n ≤ 60
    · rw [if_pos hn] at h ⊢
      have hx := h0 (m - n) x
      have hle : n + c (m - n) x ≤ 60 := by
        rcases Int.lt_or_le 60 (n + c (m - n) x) with h' | h'
        · rw [rcntL_big _ _ _ _ h'] at h; exact h
        · exact h'
      have hq := hc (m - n) x (by omega)
      have ih := rcntL_small c g p h0 hc m r _ (by omega) h
      refine ⟨by rw [List.all_cons, hq.1, ih.1]; rfl, ?_⟩
      rw [ih.2, sumN, hq.2]; omega
    · rw [if_neg hn] at h; omega
theorem rcnt_small : ∀ (f : Nat) (m : Int) (q : QT), rcnt f m q ≤ 60 → deepF f q = true ∧ rcnt f m q = (nodeF f q : Int)
  | 0, m, q, h => by rw [rcnt] at h; omega
  | f + 1, m, .node k t l, h => by
    rw [rcnt] at h ⊢
    by_cases hm : m ≤ 0
    · rw [if_pos hm] at h; omega
    · rw [if_neg hm] at h ⊢
      have := rcntL_small (rcnt f) (nodeF f) (deepF f) (fun m x => (rcnt_bd f m x).1) (rcnt_small f) m l 1 (by omega) h
      rw [deepF, nodeF]
      exact ⟨this.1, by rw [this.2]; omega⟩
theorem rcntL_sum (c : Int → QT → Int) (g : QT → Nat) (p : QT → Bool) (hc : ∀ (m : Int) x, p x = true → (g x : Int) ≤ m → g x ≤ 60 → c m x = (g x : Int)) (m : Int) : ∀ (l : List QT) (n : Int), 1 ≤ n → l.all p = true → n + (sumN g l : Int) ≤ 60 → n + (sumN g l : Int) ≤ m → rcntL c m n l = n + (sumN g l : Int)
  | [], n, _, _, _, _ => by rw [rcntL, sumN]; omega
  | x :: r, n, h1, ha, h, hm => by
    rw [List.all_cons, Bool.and_eq_true] at ha
    rw [sumN] at h hm ⊢
    rw [rcntL, if_pos (by omega), hc (m - n) x ha.1 (by omega) (by omega), rcntL_sum c g p hc m r _ (by omega) ha.2 (by omega) (by omega)]
    omega
theorem rcnt_sum : ∀ (f : Nat) (m : Int) (q : QT), deepF f q = true → (nodeF f q : Int) ≤ m → nodeF f q ≤ 60 → rcnt f m q = (nodeF f q : Int)
  | 0, m, q, h, _, _ => by rw [deepF] at h; cases h
  | f + 1, m, .node k t l, h, hm, h60 => by
    rw [deepF] at h
    rw [nodeF] at hm h60 ⊢
    rw [rcnt, if_neg (by omega), rcntL_sum (rcnt f) (nodeF f) (deepF f) (rcnt_sum f) m l 1 (by omega) h (by omega) (by omega)]
    omega
theorem cntL_sum (c : QT → Int) (g : QT → Nat) : ∀ (l : List QT) (n : Int), (∀ x ∈ l, c x = (g x : Int)) → n + (sumN g l : Int) ≤ 60 → cntL c n l = n + (sumN g l : Int)
  | [], n, _, _ => by rw [cntL, sumN]; omega
  | x :: r, n, hc, h => by
    have hx := hc x (by simp)
    rw [sumN] at h ⊢
    rw [cntL, if_neg (by omega), hx, cntL_sum c g r _ (fun y hy => hc y (by simp [hy])) (by omega)]
    omega
theorem cntL_val (c : QT → Int) (g : QT → Nat) : ∀ (l : List QT) (n : Int), 1 ≤ n → 0 < cntL c n l → (∀ x ∈ l, 0 < c x → c x = (g x : Int)) → (∀ x ∈ l, 0 < c x) → cntL c n l = n + (sumN g l : Int)
  | [], n, _, _, _, _ => by rw [cntL, sumN]; omega
  | x :: r, n, h1, h, hc, hp => by
    have hx := hc x (by simp) (hp x (by simp))
    have hx0 := hp x (by simp)
    rw [cntL] at h ⊢
    by_cases hb : c x < 0 ∨ 60 < n + c x
    · rw [if_pos hb] at h; omega
    · rw [if_neg hb] at h ⊢
      rw [cntL_val c g r _ (by omega) h (fun y hy => hc y (by simp [hy])) (fun y hy => hp y (by simp [hy])), sumN]
      omega
theorem node_pos (f : Nat) (q : QT) (h : deepF f q = true) : 1 ≤ nodeF f q := by
  cases f with
  | zero => rw [deepF] at h; cases h
  | succ f => obtain ⟨k, t, l⟩ := q; rw [nodeF]; omega
theorem cntF_iff : ∀ (f : Nat) (q : QT), (0 < cntF f q → deepF f q = true ∧ formF f q = true ∧ nodeF f q ≤ 60 ∧ cntF f q = (nodeF f q : Int)) ∧ (deepF f q = true → formF f q = true → nodeF f q ≤ 60 → cntF f q = (nodeF f q : Int))
  | 0, q => ⟨fun h => by rw [cntF] at h; omega, fun h => by rw [deepF] at h; cases h⟩
  | f + 1, .node k t l => by
    refine ⟨fun h => ?_, fun hd hf hn => ?_⟩
    · obtain ⟨ho, _, hsub⟩ := cntF_pos h
      have hv : cntF (f + 1) (.node k t l) = 1 + (sumN (nodeF f) l : Int) := by
        rw [cntF, if_pos ho] at h ⊢
        exact cntL_val (cntF f) (nodeF f) l 1 (by omega) h (fun x _ hx => ((cntF_iff f x).1 hx).2.2.2) hsub
      have h60 := cntF_le (f + 1) (.node k t l)
      rw [deepF, formF, nodeF]
      refine ⟨?_, ?_, by omega, by rw [hv]; omega⟩
      · rw [List.all_eq_true]; exact fun x hx => ((cntF_iff f x).1 (hsub x hx)).1
      · rw [ho, Bool.true_and, List.all_eq_true]; exact fun x hx => ((cntF_iff f x).1 (hsub x hx)).2.1
    · rw [deepF, List.all_eq_true] at hd
      rw [formF, Bool.and_eq_true, List.all_eq_true] at hf
      rw [nodeF] at hn ⊢
      rw [cntF, if_pos hf.1, cntL_sum (cntF f) (nodeF f) l 1 (fun x hx => (cntF_iff f x).2 (hd x hx) (hf.2 x hx) (by have := sumN_mem (nodeF f) l x hx; omega)) (by omega)]
      omega
theorem okQ_iff (q : QT) : okQ q = true ↔ (rcnt 8 61 q ≤ 60 ∧ formF 8 q = true) := by
  unfold okQ
  rw [decide_eq_true_eq]
  constructor
  · intro h
    obtain ⟨h1, h2, h3, -⟩ := (cntF_iff 8 q).1 h
    exact ⟨by rw [rcnt_sum 8 61 q h1 (by omega) h3]; omega, h2⟩
  · rintro ⟨h1, h2⟩
    obtain ⟨h3, h4⟩ := rcnt_small 8 61 q h1
    have := (cntF_iff 8 q).2 h3 h2 (by omega)
    have := node_pos 8 q h3
    omega

/-- what stands behind an opening bracket, as the document reads it -/
def rlistF (rd : List UInt8 → Option (QT × Nat)) : Nat → Int → List QT → List UInt8 → Option (QT × Nat)
  | 0, _, _, _ => none
  | n + 1, k, acc, s => match rd s with
    | none => none
    | some (x, m) => match s.drop m with
      | [] => none
      | c :: r =>
        if c.toNat = 41 then some (.node k [] (acc ++ [x]), m + 1)
        else if c.toNat = 124 ∧ acc.length = 0 then (rlistF rd n 3 (acc ++ [x]) r).map fun p => (p.1, m + 1 + p.2)
        else if (c.toNat = 38 ∧ k = 2) ∨ (c.toNat = 124 ∧ k = 3) then (rlistF rd n k (acc ++ [x]) r).map fun p => (p.1, m + 1 + p.2)
        else none
def rreadF : Nat → List UInt8 → Option (QT × Nat)
  | 0, _ => none
  | _ + 1, [] => none
  | f + 1, c :: r =>
    if c.toNat = 33 then (rreadF f r).map fun p => (.node 4 [] [p.1], p.2 + 1)
    else if c.toNat = 40 then (rlistF (rreadF f) (r.length + 1) 2 [] r).map fun p => (p.1, p.2 + 1)
    else (unq (c :: r)).map fun p => (.node 1 p.1 [], p.2)
theorem rlistF_none (rd : List UInt8 → Option (QT × Nat)) (n : Nat) (k : Int) (acc : List QT) (s : List UInt8) (h : rd s = none ∨ ∃ x m, rd s = some (x, m) ∧ s.drop m = []) : rlistF rd (n + 1) k acc s = none := by
  rw [rlistF]
  rcases h with h | ⟨x, m, h, hd⟩
  · rw [h]
  · rw [h]; simp only [hd]
theorem rlistF_succ (rd : List UInt8 → Option (QT × Nat)) (n : Nat) (k : Int) (acc : List QT) (s : List UInt8) (x : QT) (m : Nat) (c : UInt8) (r : List UInt8) (h : rd s = some (x, m)) (hd : s.drop m = c :: r) :
    rlistF rd (n + 1) k acc s = if c.toNat = 41 then some (.node k [] (acc ++ [x]), m + 1)
        else if c.toNat = 124 ∧ acc.length = 0 then (rlistF rd n 3 (acc ++ [x]) r).map fun p => (p.1, m + 1 + p.2)
        else if (c.toNat = 38 ∧ k = 2) ∨ (c.toNat = 124 ∧ k = 3) then (rlistF rd n k (acc ++ [x]) r).map fun p => (p.1, m + 1 + p.2)
        else none := by
  rw [rlistF, h]; simp only [hd]
theorem rlistF_len {rd : List UInt8 → Option (QT × Nat)} (hr : ∀ s p, rd s = some p → 1 ≤ p.2 ∧ p.2 ≤ s.length) : ∀ (n : Nat) (k : Int) (acc : List QT) (s : List UInt8) (p : QT × Nat), rlistF rd n k acc s = some p → 1 ≤ p.2 ∧ p.2 ≤ s.length := by
  intro n
  induction n with
  | zero => intro k acc s p h; cases h
  | succ n ih =>
    intro k acc s p h
    rcases hs : rd s with _ | ⟨x, m⟩
    · rw [rlistF_none rd n k acc s (.inl hs)] at h; cases h
    · have h1 := hr s _ hs
      simp only at h1
      rcases hd : s.drop m with _ | ⟨c, r⟩
      · rw [rlistF_none rd n k acc s (.inr ⟨x, m, hs, hd⟩)] at h; cases h
      · have hlen := congrArg List.length hd
        rw [List.length_drop, List.length_cons] at hlen
        rw [rlistF_succ rd n k acc s x m c r hs hd] at h
        split at h
        · cases h; simp only; omega
        · split at h
          · obtain ⟨q, hq, rfl⟩ := Option.map_eq_some_iff.1 h
            have := ih _ _ _ _ hq
            simp only; omega
          · split at h
            · obtain ⟨q, hq, rfl⟩ := Option.map_eq_some_iff.1 h
              have := ih _ _ _ _ hq
              simp only; omega
            · cases h
theorem rreadF_len : ∀ (f : Nat) (s : List UInt8) (p : QT × Nat), rreadF f s = some p → 1 ≤ p.2 ∧ p.2 ≤ s.length := by
  intro f
  induction f with
  | zero => intro s p h; rw [rreadF] at h; cases h
  | succ f ih =>
    intro s p h
    cases s with
    | nil => rw [rreadF] at h; cases h
    | cons c r =>
      rw [rreadF] at h
      split at h
      · obtain ⟨q, hq, rfl⟩ := Option.map_eq_some_iff.1 h
        have := ih r q hq
        simp only [List.length_cons]; omega
      · split at h
        · obtain ⟨q, hq, rfl⟩ := Option.map_eq_some_iff.1 h
          have := rlistF_len ih _ _ _ _ _ hq
          simp only [List.length_cons]; omega
        · obtain ⟨q, hq, rfl⟩ := Option.map_eq_some_iff.1 h
          have := unq_len hq
          simp only; omega
/-- how the two go through a list side by side: the program's kind, the document's, what was read -/
def Along (kp kr : Int) (acc : List QT) : Prop := (kp = 0 ∧ kr = 2 ∧ acc = []) ∨ (kp = kr ∧ (kr = 2 ∨ kr = 3) ∧ acc ≠ [])
theorem drop_one {s : List UInt8} {m : Nat} {c : UInt8} {r : List UInt8} (h : s.drop m = c :: r) : s.drop (m + 1) = r := by
  have : s.drop (m + 1) = (s.drop m).drop 1 := by rw [List.drop_drop]
  rw [this, h]; rfl
theorem list_to (f : Nat) (ih : ∀ s q r, readF f s = some (q, r) → ∃ n, rreadF f s = some (q, n) ∧ s.drop n = r) : ∀ (n : Nat) (kp kr : Int) (acc : List QT) (s : List UInt8) (fuel : Nat) (q : QT) (r : List UInt8), Along kp kr acc → s.length < fuel →
    listF (readF f) n kp acc s = some (q, r) → ∃ m, rlistF (rreadF f) fuel kr acc s = some (q, m) ∧ s.drop m = r := by
  intro n
  induction n with
  | zero => intro kp kr acc s fuel q r _ _ h; cases h
  | succ n ihn =>
    intro kp kr acc s fuel q r ha hf h
    obtain ⟨fu, rfl⟩ : ∃ fu, fuel = fu + 1 := ⟨fuel - 1, by omega⟩
    rcases hs : readF f s with _ | ⟨x, _ | ⟨c, t⟩⟩
    · rw [listF_none _ n kp acc s (.inl hs)] at h; cases h
    · rw [listF_none _ n kp acc s (.inr ⟨x, hs⟩)] at h; cases h
    · obtain ⟨m, hm, hd⟩ := ih s x _ hs
      have hm1 := rreadF_len f s _ hm
      simp only at hm1
      have hlen := congrArg List.length hd
      rw [List.length_drop, List.length_cons] at hlen
      rw [listF_succ _ n kp acc s x c t hs] at h
      rw [rlistF_succ _ fu kr acc s x m c t hm hd]
      by_cases h41 : c.toNat = 41
      · rw [if_pos h41] at h ⊢
        split at h
        · cases h
        · rename_i hk
          rcases ha with ⟨e, _, _⟩ | ⟨e, _, _⟩
          · exact absurd e hk
          · rw [e] at h
            cases h
            exact ⟨m + 1, rfl, drop_one hd⟩
      · rw [if_neg h41] at h ⊢
        by_cases hbad : sgnQ c = 0 ∨ (kp ≠ 0 ∧ kp ≠ sgnQ c)
        · rw [if_pos hbad] at h; cases h
        · rw [if_neg hbad] at h
          have hgo : ∀ k', k' = sgnQ c → (k' = 2 ∨ k' = 3) → ∃ m', (rlistF (rreadF f) fu k' (acc ++ [x]) t).map (fun p => (p.1, m + 1 + p.2)) = some (q, m') ∧ s.drop m' = r := fun k' e hk => by
            obtain ⟨m', h1, h2⟩ := ihn (sgnQ c) k' (acc ++ [x]) t fu q r (.inr ⟨e.symm, hk, by simp⟩) (by omega) h
            refine ⟨m + 1 + m', by rw [h1]; rfl, ?_⟩
            rw [← List.drop_drop, drop_one hd, h2]
          have hsg : sgnQ c = if c.toNat = 38 then 2 else if c.toNat = 124 then 3 else 0 := rfl
          by_cases h124 : c.toNat = 124
          · have hs3 : sgnQ c = 3 := by rw [hsg, if_neg (by omega), if_pos h124]
            rcases ha with ⟨e1, e2, e3⟩ | ⟨e1, e2, e3⟩
            · rw [if_pos ⟨h124, by rw [e3]; rfl⟩]
              exact hgo 3 hs3.symm (.inr rfl)
            · have hkp : kp = 3 := by
                rcases e2 with e2 | e2
                · exfalso; apply hbad; right; rw [hs3, e1, e2]; omega
                · rw [e1, e2]
              rw [if_neg (by rintro ⟨_, h⟩; exact e3 (List.eq_nil_of_length_eq_zero h)), if_pos (.inr ⟨h124, by omega⟩)]
              exact hgo kr (by rw [hs3]; omega) (.inr (by omega))
          · have h38 : c.toNat = 38 := by
              rcases Nat.decEq c.toNat 38 with h | h
              · exfalso; apply hbad; left; rw [hsg, if_neg h, if_neg h124]
              · exact h
            have hs2 : sgnQ c = 2 := by rw [hsg, if_pos h38]
            have hkr : kr = 2 := by
              rcases ha with ⟨e1, e2, e3⟩ | ⟨e1, e2, e3⟩
              · exact e2
              · rcases e2 with e2 | e2
                · exact e2
                · exfalso; apply hbad; right; rw [hs2, e1, e2]; omega
            rw [if_neg (by rintro ⟨h, _⟩; exact h124 h), if_pos (.inl ⟨h38, hkr⟩)]
            exact hgo kr (by rw [hs2, hkr]) (.inl hkr)
theorem read_to : ∀ (f : Nat) (s : List UInt8) (q : QT) (r : List UInt8), readF f s = some (q, r) → ∃ n, rreadF f s = some (q, n) ∧ s.drop n = r := by
  intro f
  induction f with
  | zero => intro s q r h; rw [readF] at h; cases h
  | succ f ih =>
    intro s q r h
    cases s with
    | nil => rw [readF] at h; cases h
    | cons c t =>
      rw [readF] at h
      rw [rreadF]
      by_cases h33 : c.toNat = 33
      · rw [if_pos h33] at h ⊢
        obtain ⟨p, hp, he⟩ := Option.map_eq_some_iff.1 h
        obtain ⟨n, h1, h2⟩ := ih t p.1 p.2 hp
        cases he
        exact ⟨n + 1, by rw [h1]; rfl, by rw [List.drop_succ_cons]; exact h2⟩
      · rw [if_neg h33] at h ⊢
        by_cases h40 : c.toNat = 40
        · rw [if_pos h40] at h ⊢
          obtain ⟨m, h1, h2⟩ := list_to f ih 9 0 2 [] t (t.length + 1) q r (.inl ⟨rfl, rfl, rfl⟩) (by omega) h
          exact ⟨m + 1, by rw [h1]; rfl, by rw [List.drop_succ_cons]; exact h2⟩
        · rw [if_neg h40] at h ⊢
          obtain ⟨p, hp, he⟩ := Option.map_eq_some_iff.1 h
          cases he
          exact ⟨p.2, by rw [hp]; rfl, rfl⟩
theorem rlistF_pre {rd : List UInt8 → Option (QT × Nat)} : ∀ (n : Nat) (k : Int) (acc : List QT) (s : List UInt8) (q : QT) (m : Nat), rlistF rd n k acc s = some (q, m) → ∃ x L, q.l = acc ++ x :: L ∧ rd s = some (x, (rd s).elim 0 (·.2)) ∧ q.t = [] := by
  intro n
  induction n with
  | zero => intro k acc s q m h; cases h
  | succ n ih =>
    intro k acc s q m h
    rcases hs : rd s with _ | ⟨x, m'⟩
    · rw [rlistF_none rd n k acc s (.inl hs)] at h; cases h
    · rcases hd : s.drop m' with _ | ⟨c, r⟩
      · rw [rlistF_none rd n k acc s (.inr ⟨x, m', hs, hd⟩)] at h; cases h
      · rw [rlistF_succ rd n k acc s x m' c r hs hd] at h
        have key : ∀ k', (rlistF rd n k' (acc ++ [x]) r).map (fun p => (p.1, m' + 1 + p.2)) = some (q, m) → ∃ y L, q.l = acc ++ y :: L ∧ some (x, m') = some (y, (some (x, m')).elim 0 (·.2)) ∧ q.t = [] := fun k' h => by
          obtain ⟨p, hp, he⟩ := Option.map_eq_some_iff.1 h
          cases he
          obtain ⟨y, L, h1, _, h3⟩ := ih k' (acc ++ [x]) r p.1 p.2 hp
          exact ⟨x, y :: L, by rw [h1]; simp, rfl, h3⟩
        split at h
        · cases h; exact ⟨x, [], rfl, rfl, rfl⟩
        · split at h
          · exact key _ h
          · split at h
            · exact key _ h
            · cases h
theorem rlistF_kind {rd : List UInt8 → Option (QT × Nat)} : ∀ (n : Nat) (k : Int) (acc : List QT) (s : List UInt8) (q : QT) (m : Nat), (k = 2 ∨ k = 3) → rlistF rd n k acc s = some (q, m) → q.k = 2 ∨ q.k = 3 := by
  intro n
  induction n with
  | zero => intro k acc s q m _ h; cases h
  | succ n ih =>
    intro k acc s q m hk h
    rcases hs : rd s with _ | ⟨x, m'⟩
    · rw [rlistF_none rd n k acc s (.inl hs)] at h; cases h
    · rcases hd : s.drop m' with _ | ⟨c, r⟩
      · rw [rlistF_none rd n k acc s (.inr ⟨x, m', hs, hd⟩)] at h; cases h
      · rw [rlistF_succ rd n k acc s x m' c r hs hd] at h
        split at h
        · cases h; exact hk
        · split at h
          · obtain ⟨p, hp, he⟩ := Option.map_eq_some_iff.1 h
            cases he
            exact ih _ _ _ _ _ (.inr rfl) hp
          · split at h
            · obtain ⟨p, hp, he⟩ := Option.map_eq_some_iff.1 h
              cases he
              exact ih _ _ _ _ _ hk hp
            · cases h
theorem list_back (f : Nat) (ih : ∀ s q n, rreadF f s = some (q, n) → 0 < cntF f q → readF f s = some (q, s.drop n)) : ∀ (fuel : Nat) (kp kr : Int) (acc : List QT) (s : List UInt8) (n : Nat) (q : QT) (m : Nat), Along kp kr acc → acc.length + n = 9 → (∀ x ∈ q.l, 0 < cntF f x) → 2 ≤ q.l.length → q.l.length ≤ 8 →
    rlistF (rreadF f) fuel kr acc s = some (q, m) → listF (readF f) n kp acc s = some (q, s.drop m) := by
  intro fuel
  induction fuel with
  | zero => intro kp kr acc s n q m _ _ _ _ _ h; cases h
  | succ fu ihn =>
    intro kp kr acc s n q m ha hn hx h2 h8 h
    have hpre := rlistF_pre _ _ _ _ _ _ h
    rcases hs : rreadF f s with _ | ⟨x, m'⟩
    · rw [rlistF_none _ fu kr acc s (.inl hs)] at h; cases h
    · rcases hd : s.drop m' with _ | ⟨c, r⟩
      · rw [rlistF_none _ fu kr acc s (.inr ⟨x, m', hs, hd⟩)] at h; cases h
      · rw [hs] at hpre
        obtain ⟨y, L, hl, hy, -⟩ := hpre
        have hxy : x = y := (Prod.mk.inj (Option.some.inj hy)).1
        subst hxy
        have hpos := hx x (by rw [hl]; simp)
        have hrd := ih s x m' hs hpos
        rw [hd] at hrd
        have hlen := congrArg List.length hl
        rw [List.length_append, List.length_cons] at hlen
        obtain ⟨n', rfl⟩ : ∃ n', n = n' + 1 := ⟨n - 1, by omega⟩
        rw [rlistF_succ _ fu kr acc s x m' c r hs hd] at h
        rw [listF_succ _ n' kp acc s x c r hrd]
        by_cases h41 : c.toNat = 41
        · rw [if_pos h41] at h ⊢
          cases h
          have hk : kp ≠ 0 ∧ kp = kr := by
            rcases ha with ⟨_, _, e⟩ | ⟨e1, e2, _⟩
            · exfalso
              have h2' : 2 ≤ (acc ++ [x]).length := h2
              rw [e] at h2'; simp at h2'
            · omega
          rw [if_neg hk.1, hk.2, drop_one hd]
        · rw [if_neg h41] at h ⊢
          have hsg : sgnQ c = if c.toNat = 38 then 2 else if c.toNat = 124 then 3 else 0 := rfl
          have hgo : ∀ k', k' = sgnQ c → (k' = 2 ∨ k' = 3) → (rlistF (rreadF f) fu k' (acc ++ [x]) r).map (fun p => (p.1, m' + 1 + p.2)) = some (q, m) → listF (readF f) n' (sgnQ c) (acc ++ [x]) r = some (q, s.drop m) := fun k' e hk h => by
            obtain ⟨p, hp, he⟩ := Option.map_eq_some_iff.1 h
            cases he
            have := ihn (sgnQ c) k' (acc ++ [x]) r n' p.1 p.2 (.inr ⟨e.symm, hk, by simp⟩) (by rw [List.length_append, List.length_singleton]; omega) hx h2 h8 hp
            rw [this, ← List.drop_drop, drop_one hd]
          by_cases h124 : c.toNat = 124
          · have hs3 : sgnQ c = 3 := by rw [hsg, if_neg (by omega), if_pos h124]
            by_cases hac : acc.length = 0
            · rw [if_pos ⟨h124, hac⟩] at h
              have hkp : kp = 0 := by
                rcases ha with ⟨e1, _, _⟩ | ⟨_, _, e3⟩
                · exact e1
                · exact absurd (List.eq_nil_of_length_eq_zero hac) e3
              rw [if_neg (by rw [hs3]; omega)]
              exact hgo 3 hs3.symm (.inr rfl) h
            · rw [if_neg (by rintro ⟨_, h⟩; exact hac h)] at h
              split at h
              · rename_i hc2
                have hkr : kr = 3 := by omega
                have hkp : kp = 3 := by
                  rcases ha with ⟨_, _, e3⟩ | ⟨e1, _, _⟩
                  · rw [e3] at hac; exact absurd rfl hac
                  · omega
                rw [if_neg (by rw [hs3]; omega)]
                exact hgo kr (by omega) (.inr hkr) h
              · cases h
          · rw [if_neg (by rintro ⟨h, _⟩; exact h124 h)] at h
            split at h
            · rename_i hc2
              have hc3 : c.toNat = 38 ∧ kr = 2 := by omega
              have hs2 : sgnQ c = 2 := by rw [hsg, if_pos hc3.1]
              have hkp : kp = 0 ∨ kp = 2 := by
                rcases ha with ⟨e1, _, _⟩ | ⟨e1, _, _⟩
                · exact .inl e1
                · exact .inr (by omega)
              rw [if_neg (by rw [hs2]; omega)]
              exact hgo kr (by omega) (.inl hc3.2) h
            · cases h
theorem read_back : ∀ (f : Nat) (s : List UInt8) (q : QT) (n : Nat), rreadF f s = some (q, n) → 0 < cntF f q → readF f s = some (q, s.drop n) := by
  intro f
  induction f with
  | zero => intro s q n h; rw [rreadF] at h; cases h
  | succ f ih =>
    intro s q n h hp
    cases s with
    | nil => rw [rreadF] at h; cases h
    | cons c t =>
      rw [rreadF] at h
      rw [readF]
      by_cases h33 : c.toNat = 33
      · rw [if_pos h33] at h ⊢
        obtain ⟨p, h1, he⟩ := Option.map_eq_some_iff.1 h
        cases he
        obtain ⟨-, -, hsub⟩ := cntF_pos hp
        rw [ih t p.1 p.2 h1 (hsub _ (by simp)), List.drop_succ_cons]; rfl
      · rw [if_neg h33] at h ⊢
        by_cases h40 : c.toNat = 40
        · rw [if_pos h40] at h ⊢
          obtain ⟨⟨⟨k, t', l⟩, n'⟩, h1, he⟩ := Option.map_eq_some_iff.1 h
          cases he
          obtain ⟨x, L, hl, -, ht⟩ := rlistF_pre _ _ _ _ _ _ h1
          have hk := rlistF_kind _ _ _ _ _ _ (.inl rfl) h1
          have hk' : k = 2 ∨ k = 3 := hk
          obtain ⟨ho, -, hsub⟩ := cntF_pos hp
          have ho2 := (okH_iff _ _ _).1 ho
          have hb := list_back f ih (t.length + 1) 0 2 [] t 9 (.node k t' l) n' (.inl ⟨rfl, rfl, rfl⟩) rfl hsub (by show 2 ≤ l.length; omega) (by show l.length ≤ 8; omega) h1
          rw [hb, List.drop_succ_cons]
        · rw [if_neg h40] at h ⊢
          obtain ⟨p, h1, he⟩ := Option.map_eq_some_iff.1 h
          cases he
          rw [h1]; rfl
def rqpS (s : List UInt8) : Option QT := if 2000 < s.length then none else match rreadF 8 s with
  | some (q, n) => if n = s.length ∧ okQ q = true then some q else none
  | none => none
theorem rqpS_eq (s : List UInt8) : rqpS s = qpS s := by
  unfold rqpS qpS
  split
  · rfl
  · unfold qparseL
    rcases h : rreadF 8 s with _ | ⟨q, n⟩
    · rcases h2 : readF 8 s with _ | ⟨q', r⟩
      · rfl
      · obtain ⟨n, h3, _⟩ := read_to 8 s q' r h2
        rw [h] at h3; cases h3
    · simp only
      have hl := rreadF_len 8 s _ h
      simp only at hl
      by_cases hc : n = s.length ∧ okQ q = true
      · have hp : 0 < cntF 8 q := of_decide_eq_true hc.2
        rw [if_pos hc, read_back 8 s q n h hp, hc.1, List.drop_length]
        simp only [hc.2, if_true]
      · rw [if_neg hc]
        rcases h2 : readF 8 s with _ | ⟨q', r⟩
        · rfl
        · obtain ⟨n', h3, h4⟩ := read_to 8 s q' r h2
          rw [h] at h3
          cases h3
          cases r with
          | nil =>
            simp only
            rw [if_neg]
            intro ho
            refine hc ⟨?_, ho⟩
            have := congrArg List.length h4
            rw [List.length_drop, List.length_nil] at this
            omega
          | cons c t => rfl
end Go.Proofs.YtdcobmoeligdkaaGreatDoor
