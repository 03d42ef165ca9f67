/-
  What stands ahead of each end, and how documents are read again from it: in plain lists.
-/
import Derived.Test.YtjpoebmjfedecaaGreatRangeMath
namespace Go.Proofs.YtjpoebmjfedecaaGreat
open Go.RowKit

/-- a list in which what meets p stands first -/
theorem split_first (p : Nat → Bool) : ∀ (l : List Nat), l.Pairwise (fun x y => p y = true → p x = true) → l = l.filter p ++ l.filter (fun x => !p x)
  | [], _ => rfl
  | a :: l, h => by
    have h' := List.pairwise_cons.1 h
    cases hp : p a
    · have hno : ∀ x ∈ l, p x = false := fun x hx => by
        cases hx2 : p x
        · rfl
        · have := h'.1 x hx hx2; rw [hp] at this; cases this
      have e1 : l.filter p = [] := List.filter_eq_nil_iff.2 (fun x hx => by simp [hno x hx])
      have e2 : l.filter (fun x => !p x) = l := List.filter_eq_self.2 (fun x hx => by simp [hno x hx])
      simp [hp, e1, e2]
    · have ih := split_first p l h'.2
      simp only [List.filter_cons, hp]
      simp only [if_true, Bool.not_true, Bool.false_eq_true, if_false, List.cons_append]
      rw [← ih]
/-- the symbol ahead of a place -/
def prevS (row : List Nat) (p : Nat) : Nat := if p = 0 then 0 else row.getD (p - 1) 0
theorem prevS_succ (row : List Nat) (p : Nat) : prevS row (p + 1) = row.getD p 0 := by unfold prevS; simp
def saOf (ds : List (List Nat)) : List Nat := (rowsR ds).map (placeOf ds)
theorem saOf_sa (ds : List (List Nat)) : IsSA (ordS ds) (rowOf ds).length (saOf ds) := arrR_sa ds
def bwtOf (ds : List (List Nat)) : List Nat := (saOf ds).map (prevS (rowOf ds))
theorem bwtOf_len (ds : List (List Nat)) : (bwtOf ds).length = (rowOf ds).length := by unfold bwtOf; rw [List.length_map, (saOf_sa ds).len]
theorem bwtOf_at (ds : List (List Nat)) (i : Nat) (hi : i < (rowOf ds).length) : (bwtOf ds).getD i 0 = prevS (rowOf ds) ((saOf ds).getD i 0) := by
  have : i < (saOf ds).length := by rw [(saOf_sa ds).len]; exact hi
  unfold bwtOf
  rw [List.getD_eq_getElem?_getD, List.getElem?_map, List.getD_eq_getElem?_getD, List.getElem?_eq_getElem this]; rfl
theorem prevS_le (ds : List (List Nat)) (h : ∀ d ∈ ds, ∀ c ∈ d, c < 256) (p : Nat) : prevS (rowOf ds) p ≤ 256 := by
  unfold prevS
  split
  · omega
  · rcases Nat.lt_or_ge (p - 1) (rowOf ds).length with c | c
    · exact row_le ds h _ (by rw [List.getD_eq_getElem?_getD, List.getElem?_eq_getElem c]; exact List.getElem_mem _)
    · rw [List.getD_eq_getElem?_getD, List.getElem?_eq_none c]; simp
theorem bwtOf_le (ds : List (List Nat)) (h : ∀ d ∈ ds, ∀ c ∈ d, c < 256) : ∀ c ∈ bwtOf ds, c ≤ 256 := by
  intro c hc
  unfold bwtOf at hc
  obtain ⟨p, _, rfl⟩ := List.mem_map.1 hc
  exact prevS_le ds h p
/-- how many are below a symbol; how many ahead are it; where a row's Step leads -/
def stC (L : List Nat) (c : Nat) : Nat := below L (fun x => x) c
def rkC (L : List Nat) (c i : Nat) : Nat := inK (L.take i) (fun x => x) c
def stepL (L : List Nat) (i : Nat) : Nat := stC L (L.getD i 0) + rkC L (L.getD i 0) i
theorem stepL_pos (L : List Nat) (i : Nat) : stepL L i = posK L (fun x => x) i := by unfold stepL stC rkC; rw [posK_def]
theorem stepL_lt (L : List Nat) (i : Nat) (hi : i < L.length) (hb : ∀ c ∈ L, c ≤ 256) : stepL L i < L.length := by rw [stepL_pos]; exact posK_lt L (fun x => x) 257 (fun x hx => by have := hb x hx; omega) i hi
theorem stC_zero (L : List Nat) : stC L 0 = 0 := below_zero _ _
theorem stC_succ (L : List Nat) (c : Nat) : stC L (c + 1) = stC L c + inK L (fun x => x) c := below_succ _ _ _
theorem stC_le (L : List Nat) (c : Nat) : stC L c ≤ L.length := below_le _ _ _
theorem rkC_zero (L : List Nat) (c : Nat) : rkC L c 0 = 0 := by unfold rkC; rw [List.take_zero]; exact inK_nil _ _
theorem rkC_succ (L : List Nat) (c i : Nat) (hi : i < L.length) : rkC L c (i + 1) = rkC L c i + if L.getD i 0 = c then 1 else 0 := inK_take L (fun x => x) c i hi
theorem rkC_all (L : List Nat) (c : Nat) : rkC L c L.length = inK L (fun x => x) c := by unfold rkC; rw [List.take_length]
theorem rkC_le (L : List Nat) (c i : Nat) : rkC L c i ≤ i := by
  unfold rkC
  exact Nat.le_trans (inK_le _ _ _) (by rw [List.length_take]; omega)
theorem below_map (sa : List Nat) (f : Nat → Nat) (c : Nat) : below (sa.map f) (fun x => x) c = below sa f c := by
  unfold below; rw [List.filter_map, List.length_map]; rfl
theorem inK_map (sa : List Nat) (f : Nat → Nat) (c : Nat) : inK (sa.map f) (fun x => x) c = inK sa f c := by
  unfold inK; rw [List.filter_map, List.length_map]; rfl
theorem step_bwt (ds : List (List Nat)) (i : Nat) (hi : i < (rowOf ds).length) : stepL (bwtOf ds) i = posK (saOf ds) (prevS (rowOf ds)) i := by
  unfold stepL posK
  rw [bwtOf_at ds i hi]
  unfold stC rkC bwtOf
  rw [below_map, ← List.map_take, inK_map]
/-- the places that end documents come first, and in the documents' order -/
def endP (ds : List (List Nat)) (r : Nat) : Nat := startOf ds r + (ds.getD r []).length
theorem endP_lt (ds : List (List Nat)) (r : Nat) (h : r < ds.length) : endP ds r < (rowOf ds).length := place_lt ds r _ h (Nat.le_refl _)
theorem row_endP (ds : List (List Nat)) (r : Nat) (h : r < ds.length) : (rowOf ds).getD (endP ds r) 0 = 0 := by
  unfold endP; rw [row_at ds r _ h (Nat.le_refl _), if_neg (by omega)]
theorem endP_of (ds : List (List Nat)) (p : Nat) (hp : p < (rowOf ds).length) (h0 : (rowOf ds).getD p 0 = 0) : ∃ r, r < ds.length ∧ p = endP ds r := by
  obtain ⟨r, k, h1, h2, h3⟩ := place_of ds ds.length (Nat.le_refl _) p (by rw [startOf_all]; exact hp)
  refine ⟨r, h1, ?_⟩
  rw [h3, row_at ds r k h1 h2] at h0
  by_cases c : k < (ds.getD r []).length
  · rw [if_pos c] at h0; omega
  · unfold endP; omega
theorem ord_endP (ds : List (List Nat)) (r : Nat) (h : r < ds.length) : ordS ds (endP ds r) = (r : Int) := symS_end ds r h
theorem ord_nz (ds : List (List Nat)) (p : Nat) (h : (rowOf ds).getD p 0 ≠ 0) : ordS ds p = ((ds.length + (rowOf ds).getD p 0 : Nat) : Int) := by
  have hp : p < (rowOf ds).length := by
    rcases Nat.lt_or_ge p (rowOf ds).length with c | c
    · exact c
    · rw [List.getD_eq_getElem?_getD, List.getElem?_eq_none c] at h; exact (h rfl).elim
  show symS _ _ _ = _
  unfold symS symP
  rw [if_pos hp, if_neg h]
theorem ord_z (ds : List (List Nat)) (p : Nat) (hp : p < (rowOf ds).length) (h : (rowOf ds).getD p 0 = 0) : ordS ds p < (ds.length : Int) := by
  obtain ⟨r, hr, rfl⟩ := endP_of ds p hp h
  rw [ord_endP ds r hr]; omega
theorem sa_zeros (ds : List (List Nat)) : (saOf ds).filter (fun p => (rowOf ds).getD p 0 == 0) = (List.range ds.length).map (endP ds) := by
  have hs := saOf_sa ds
  refine sorted_unique (R := ltS (ordS ds)) (fun _ _ h g => ltS_asymm h g) _ _ (hs.ord.filter _) ?_ (fun x => ?_)
  · rw [List.pairwise_map]
    refine (List.pairwise_lt_range (n := ds.length)).imp_of_mem ?_
    intro a b ha hb hab
    have ha' := List.mem_range.1 ha
    have hb' := List.mem_range.1 hb
    exact ⟨0, by simp only [Nat.add_zero]; rw [ord_endP ds a ha', ord_endP ds b hb']; omega, fun i hi => by omega⟩
  · rw [List.mem_filter, hs.mem, List.mem_map]
    constructor
    · rintro ⟨h1, h2⟩
      obtain ⟨r, hr, e⟩ := endP_of ds x h1 (by simpa using h2)
      exact ⟨r, List.mem_range.2 hr, e.symm⟩
    · rintro ⟨r, hr, rfl⟩
      have hr := List.mem_range.1 hr
      exact ⟨endP_lt ds r hr, by rw [row_endP ds r hr]; rfl⟩
theorem sa_split (ds : List (List Nat)) : saOf ds = (List.range ds.length).map (endP ds) ++ (saOf ds).filter (fun p => !((rowOf ds).getD p 0 == 0)) := by
  have hs := saOf_sa ds
  conv => lhs; rw [split_first (fun p => (rowOf ds).getD p 0 == 0) (saOf ds) (hs.ord.imp_of_mem (by
    intro x y hx hy hlt h0
    have hx' := (hs.mem x).1 hx
    have hy' := (hs.mem y).1 hy
    have h0' : (rowOf ds).getD y 0 = 0 := by simpa using h0
    have h1 := ord_z ds y hy' h0'
    by_cases e : (rowOf ds).getD x 0 = 0
    · exact beq_iff_eq.2 e
    · have h2 := ord_nz ds x e
      rw [ltS_step] at hlt
      omega))]
  rw [sa_zeros]
theorem sa_end (ds : List (List Nat)) (j : Nat) (hj : j < ds.length) : (saOf ds).getD j 0 = endP ds j := by
  rw [sa_split, List.getD_eq_getElem?_getD, List.getElem?_append_left (by simpa using hj), List.getElem?_map, List.getElem?_range hj]; rfl
/-- a Step goes from a place to the one ahead -/
theorem step_sa (ds : List (List Nat)) (hb : ∀ d ∈ ds, ∀ c ∈ d, c < 256) (i : Nat) (hi : i < (rowOf ds).length) (hne : (bwtOf ds).getD i 0 ≠ 0) :
    (saOf ds).getD (stepL (bwtOf ds) i) 0 + 1 = (saOf ds).getD i 0 := by
  have hs := saOf_sa ds
  have hil : i < (saOf ds).length := by rw [hs.len]; exact hi
  rw [step_bwt ds i hi]
  rw [bwtOf_at ds i hi] at hne
  have hr : ∀ x ∈ saOf ds, prevS (rowOf ds) x < 257 := fun x _ => by have := prevS_le ds hb x; omega
  have hat := posK_at (saOf ds) (prevS (rowOf ds)) 257 hr i hil
  generalize posK (saOf ds) (prevS (rowOf ds)) i = q at *
  generalize hx : (saOf ds).getD i 0 = x at *
  have hZ := byK_sorted (saOf ds) (prevS (rowOf ds)) 257 hs.ord
  have hZm : ∀ y, y ∈ byK (saOf ds) (prevS (rowOf ds)) 257 ↔ y < (rowOf ds).length := fun y => by
    rw [mem_byK]
    exact ⟨fun h => (hs.mem y).1 h.1, fun h => ⟨(hs.mem y).2 h, by have := prevS_le ds hb y; omega⟩⟩
  have hZl : (byK (saOf ds) (prevS (rowOf ds)) 257).length = (rowOf ds).length := by rw [byK_length, below_all _ _ _ hr, hs.len]
  generalize byK (saOf ds) (prevS (rowOf ds)) 257 = Z at *
  have hsp := split_first (fun p => prevS (rowOf ds) p == 0) Z (hZ.imp (by
    intro a b hab h0
    have h0' : prevS (rowOf ds) b = 0 := by simpa using h0
    simp; omega))
  have hZ2 : (Z.filter (fun p => !(prevS (rowOf ds) p == 0))).map (fun p => p - 1) = (saOf ds).filter (fun p => !((rowOf ds).getD p 0 == 0)) := by
    refine sorted_unique (R := ltS (ordS ds)) (fun _ _ h g => ltS_asymm h g) _ _ ?_ (hs.ord.filter _) (fun y => ?_)
    · rw [List.pairwise_map]
      refine (hZ.filter _).imp_of_mem ?_
      intro a b ha hb2 hab
      have ha' := (List.mem_filter.1 ha).2
      have hb' := (List.mem_filter.1 hb2).2
      cases a with
      | zero => simp [prevS] at ha'
      | succ a =>
        cases b with
        | zero => simp [prevS] at hb'
        | succ b =>
          rw [prevS_succ] at ha' hb'
          rw [prevS_succ, prevS_succ] at hab
          have h1 := ord_nz ds a (by simpa using ha')
          have h2 := ord_nz ds b (by simpa using hb')
          simp only [Nat.add_sub_cancel]
          rw [ltS_step]
          rcases hab with h | ⟨h, g⟩
          · left; omega
          · right; exact ⟨by omega, g⟩
    · rw [List.mem_map, List.mem_filter, hs.mem]
      constructor
      · rintro ⟨a, ha, rfl⟩
        have ha1 := (hZm a).1 (List.mem_filter.1 ha).1
        have ha2 := (List.mem_filter.1 ha).2
        cases a with
        | zero => simp [prevS] at ha2
        | succ a => rw [prevS_succ] at ha2; exact ⟨by simp only [Nat.add_sub_cancel]; omega, by simpa using ha2⟩
      · rintro ⟨h1, h2⟩
        have h3 : (rowOf ds).getD y 0 ≠ 0 := by simpa using h2
        refine ⟨y + 1, List.mem_filter.2 ⟨(hZm _).2 ?_, by rw [prevS_succ]; exact h2⟩, by simp⟩
        have hl := (symN_row ds)
        rcases Nat.lt_or_ge (y + 1) (rowOf ds).length with c | c
        · exact c
        · obtain ⟨r, k, g1, g2, g3⟩ := place_of ds ds.length (Nat.le_refl _) y (by rw [startOf_all]; exact h1)
          have g4 := row_at ds r k g1 g2
          rw [← g3] at g4
          have g5 := place_lt ds r (ds.getD r []).length g1 (Nat.le_refl _)
          by_cases c2 : k < (ds.getD r []).length
          · omega
          · rw [if_neg c2] at g4; exact (h3 g4).elim
  have hlen2 := congrArg List.length hZ2
  rw [List.length_map] at hlen2
  have hl1 := congrArg List.length hsp
  rw [List.length_append, hZl] at hl1
  have hl2 := congrArg List.length (sa_split ds)
  rw [List.length_append, hs.len, List.length_map, List.length_range] at hl2
  have hq : (Z.filter fun p => prevS (rowOf ds) p == 0).length ≤ q := by
    rcases Nat.lt_or_ge q (Z.filter fun p => prevS (rowOf ds) p == 0).length with c | c
    · rw [hsp, List.getElem?_append_left c] at hat
      have := (List.mem_filter.1 (List.mem_of_getElem? hat)).2
      exact (hne (by simpa using this)).elim
    · exact c
  rw [hsp, List.getElem?_append_right hq] at hat
  have hq2 : (Z.filter fun p => prevS (rowOf ds) p == 0).length = ds.length := by omega
  rw [hq2] at hat hq
  have key : ((saOf ds).filter (fun p => !((rowOf ds).getD p 0 == 0)))[q - ds.length]? = some (x - 1) := by rw [← hZ2, List.getElem?_map, hat]; rfl
  rw [sa_split, List.getD_eq_getElem?_getD, List.getElem?_append_right (by simpa using hq)]
  simp only [List.length_map, List.length_range]
  rw [key]
  have : x ≠ 0 := fun e => hne (by rw [e]; rfl)
  simp; omega
/-- where so many Steps lead -/
def itL (L : List Nat) (j : Nat) : Nat → Nat
  | 0 => j
  | k + 1 => stepL L (itL L j k)
theorem itL_zero (L : List Nat) (j : Nat) : itL L j 0 = j := rfl
theorem itL_succ (L : List Nat) (j k : Nat) : itL L j (k + 1) = stepL L (itL L j k) := rfl
theorem itL_lt (L : List Nat) (hb : ∀ c ∈ L, c ≤ 256) (j : Nat) (hj : j < L.length) : ∀ k, itL L j k < L.length
  | 0 => hj
  | k + 1 => stepL_lt L _ (itL_lt L hb j hj k) hb
/-- the symbols on the way, each a number less -/
def pathL (L : List Nat) (j k : Nat) : List Nat := (List.range k).map fun q => L.getD (itL L j q) 0 - 1
theorem pathL_zero (L : List Nat) (j : Nat) : pathL L j 0 = [] := rfl
theorem pathL_succ (L : List Nat) (j k : Nat) : pathL L j (k + 1) = pathL L j k ++ [L.getD (itL L j k) 0 - 1] := by unfold pathL; rw [List.range_succ, List.map_append]; rfl
theorem pathL_len (L : List Nat) (j k : Nat) : (pathL L j k).length = k := by simp [pathL]
/-- a way without an end so far -/
def goesL (L : List Nat) (j k : Nat) : Prop := ∀ q, q < k → L.getD (itL L j q) 0 ≠ 0
structure EndsL (L : List Nat) (j m : Nat) : Prop where
  goes : goesL L j m
  ends : L.getD (itL L j m) 0 = 0
theorem EndsL.le {L : List Nat} {j m k : Nat} (h : EndsL L j m) (g : goesL L j k) : k ≤ m := by
  rcases Nat.lt_or_ge m k with c | c
  · exact (g m c h.ends).elim
  · exact c
theorem EndsL.one {L : List Nat} {j m k : Nat} (h : EndsL L j m) (g : EndsL L j k) : m = k := Nat.le_antisymm (g.le h.goes) (h.le g.goes)
/-- the documents that a row is read as -/
structure ReadsL (L : List Nat) (ds : List (List Nat)) : Prop where
  many : ds.length = stC L 1
  each : ∀ j, j < ds.length → EndsL L j (ds.getD j []).length ∧ ds.getD j [] = (pathL L j (ds.getD j []).length).reverse
  long : ∀ j, j < ds.length → (ds.getD j []).length ≤ 2000
  all : (rowOf ds).length = L.length
theorem docs_ext {ds es : List (List Nat)} (hl : ds.length = es.length) (h : ∀ j, j < ds.length → ds.getD j [] = es.getD j []) : ds = es := by
  apply List.ext_getElem hl
  intro i h1 h2
  have := h i h1
  rw [List.getD_eq_getElem?_getD, List.getD_eq_getElem?_getD, List.getElem?_eq_getElem h1, List.getElem?_eq_getElem h2] at this
  exact this
theorem ReadsL.one {L : List Nat} {ds es : List (List Nat)} (h : ReadsL L ds) (g : ReadsL L es) : ds = es := by
  have hl : ds.length = es.length := h.many.trans g.many.symm
  refine docs_ext hl (fun j hj => ?_)
  have e := (h.each j hj).1.one (g.each j (by omega)).1
  rw [(h.each j hj).2, (g.each j (by omega)).2, e]
def DocsL (L : List Nat) (ds : List (List Nat)) : Prop := ReadsL L ds ∧ bwtOf ds = L
theorem DocsL.one {L : List Nat} {ds es : List (List Nat)} (h : DocsL L ds) (g : DocsL L es) : ds = es := h.1.one g.1
/-- on the way from a document's end -/
theorem way_sa (ds : List (List Nat)) (hb : ∀ d ∈ ds, ∀ c ∈ d, c < 256) (j : Nat) (hj : j < ds.length) : ∀ k, k ≤ (ds.getD j []).length →
    itL (bwtOf ds) j k < (rowOf ds).length ∧ (saOf ds).getD (itL (bwtOf ds) j k) 0 = startOf ds j + ((ds.getD j []).length - k) ∧
    (bwtOf ds).getD (itL (bwtOf ds) j k) 0 = if k < (ds.getD j []).length then (ds.getD j []).getD ((ds.getD j []).length - 1 - k) 0 + 1 else 0 := by
  have sym : ∀ q k, q < (rowOf ds).length → k ≤ (ds.getD j []).length → (saOf ds).getD q 0 = startOf ds j + ((ds.getD j []).length - k) → (bwtOf ds).getD q 0 = if k < (ds.getD j []).length then (ds.getD j []).getD ((ds.getD j []).length - 1 - k) 0 + 1 else 0 := by
    intro q k hq hk hs
    rw [bwtOf_at ds q hq, hs]
    by_cases c : k < (ds.getD j []).length
    · rw [if_pos c, show startOf ds j + ((ds.getD j []).length - k) = (startOf ds j + ((ds.getD j []).length - 1 - k)) + 1 by omega, prevS_succ, row_at ds j _ hj (by omega), if_pos (by omega)]
    · rw [if_neg c, show startOf ds j + ((ds.getD j []).length - k) = startOf ds j by omega]
      cases j with
      | zero => rw [startOf_zero]; rfl
      | succ j => rw [startOf_succ ds j (by omega), prevS_succ, row_at ds j _ (by omega) (Nat.le_refl _), if_neg (by omega)]
  intro k
  induction k with
  | zero =>
    intro hk
    have h1 : j < (rowOf ds).length := Nat.lt_of_lt_of_le hj (len_le_row ds)
    have h2 : (saOf ds).getD j 0 = startOf ds j + ((ds.getD j []).length - 0) := sa_end ds j hj
    exact ⟨h1, h2, sym j 0 h1 hk h2⟩
  | succ k ih =>
    intro hk
    obtain ⟨h1, h2, h3⟩ := ih (by omega)
    rw [if_pos (by omega)] at h3
    have h4 := step_sa ds hb _ h1 (by rw [h3]; omega)
    have h5 : itL (bwtOf ds) j (k + 1) < (rowOf ds).length := by
      rw [itL_succ, ← bwtOf_len]
      exact stepL_lt _ _ (by rw [bwtOf_len]; exact h1) (bwtOf_le ds hb)
    have h6 : (saOf ds).getD (itL (bwtOf ds) j (k + 1)) 0 = startOf ds j + ((ds.getD j []).length - (k + 1)) := by rw [itL_succ]; omega
    exact ⟨h5, h6, sym _ (k + 1) h5 hk h6⟩
theorem bwt_zeros (ds : List (List Nat)) : stC (bwtOf ds) 1 = ds.length := by
  have hs := saOf_sa ds
  apply Nat.le_antisymm
  · -- the places ahead of which no byte stands are the documents' beginnings
    unfold stC bwtOf
    rw [below_map]
    unfold below
    have : ((saOf ds).filter fun p => decide (prevS (rowOf ds) p < 1)).length ≤ ((List.range ds.length).map (startOf ds)).length := by
      refine nodup_len_le _ _ ((hs.ord.imp (fun h e => by subst e; exact ltS_asymm h h) : (saOf ds).Nodup).filter _) (fun x hx => ?_)
      obtain ⟨h1, h2⟩ := List.mem_filter.1 hx
      have h1 := (hs.mem x).1 h1
      have h2 : prevS (rowOf ds) x = 0 := by simpa using h2
      obtain ⟨r, k, g1, g2, g3⟩ := place_of ds ds.length (Nat.le_refl _) x (by rw [startOf_all]; exact h1)
      refine List.mem_map.2 ⟨r, List.mem_range.2 g1, ?_⟩
      cases k with
      | zero => rw [g3]; rfl
      | succ k =>
        rw [g3, ← Nat.add_assoc, prevS_succ, row_at ds r k g1 (by omega), if_pos (by omega)] at h2
        omega
    simpa using this
  · unfold stC bwtOf
    rw [below_map]
    unfold below
    have : ((List.range ds.length).map (startOf ds)).length ≤ ((saOf ds).filter fun p => decide (prevS (rowOf ds) p < 1)).length := by
      refine nodup_len_le _ _ ?_ (fun x hx => ?_)
      · refine List.pairwise_map.2 ((List.pairwise_lt_range (n := ds.length)).imp_of_mem ?_)
        intro a b ha hb2 hab e
        have hb' := List.mem_range.1 hb2
        have h1 := startOf_mono ds (show a + 1 ≤ b by omega) (by omega)
        rw [startOf_succ ds a (by omega)] at h1
        omega
      · obtain ⟨r, hr, rfl⟩ := List.mem_map.1 hx
        have hr := List.mem_range.1 hr
        refine List.mem_filter.2 ⟨(hs.mem _).2 (by have := place_lt ds r 0 hr (Nat.zero_le _); omega), ?_⟩
        cases r with
        | zero => rw [startOf_zero]; rfl
        | succ r =>
          rw [startOf_succ ds r (by omega), prevS_succ, row_at ds r _ (by omega) (Nat.le_refl _), if_neg (by omega)]
          rfl
    simpa using this
/-- documents are read again from their row -/
theorem reads_bwt (ds : List (List Nat)) (hok : NewOk ds) : ReadsL (bwtOf ds) ds := by
  refine ⟨(bwt_zeros ds).symm, fun j hj => ⟨⟨fun q hq => ?_, ?_⟩, ?_⟩, fun j hj => hok.long _ (doc_mem hj), (bwtOf_len ds).symm⟩
  · rw [(way_sa ds hok.byte j hj q (by omega)).2.2, if_pos hq]; omega
  · rw [(way_sa ds hok.byte j hj _ (Nat.le_refl _)).2.2, if_neg (by omega)]
  · apply List.ext_getElem
    · rw [List.length_reverse, pathL_len]
    · intro i h1 h2
      rw [List.getElem_reverse]
      unfold pathL
      simp only [List.getElem_map, List.getElem_range, List.length_map, List.length_range]
      rw [(way_sa ds hok.byte j hj _ (by omega)).2.2, if_pos (by omega)]
      have e : (ds.getD j []).length - 1 - ((ds.getD j []).length - 1 - i) = i := by omega
      rw [e, List.getD_eq_getElem?_getD (l := ds.getD j []), List.getElem?_eq_getElem h1]
      rfl
theorem docs_bwt (ds : List (List Nat)) (hok : NewOk ds) : DocsL (bwtOf ds) ds := ⟨reads_bwt ds hok, rfl⟩
end Go.Proofs.YtjpoebmjfedecaaGreat
