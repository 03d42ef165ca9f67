/-
  What a loss of power leaves: plain laws.
  Names turned, names that last, files that may be come to: plain laws; the state behind a loss of power.
  A disk's state turned, part by part.
-/
import Derived.Test.YtelndbjjkhlacaaCommon
import Derived.Test.YtelndbjjkhlacaaDkState
namespace Go.Proofs.Ytelndbjjkhlacaa

/-- how many bytes are left of a file whose first l last, of n, by a number -/
def leftN (l n : Nat) (x : Int) : Nat := l + (x % ((n - l + 1 : Nat) : Int)).toNat
theorem leftN_le (l n : Nat) (x : Int) (h : l ≤ n) : l ≤ leftN l n x ∧ leftN l n x ≤ n := by
  unfold leftN
  have h1 := Int.emod_nonneg x (show (((n - l + 1 : Nat) : Int)) ≠ 0 by omega)
  have h2 := Int.emod_lt_of_pos x (show (0 : Int) < ((n - l + 1 : Nat) : Int) by omega)
  omega
/-- Go's way to it -/
theorem leftN_go (l n : Nat) (x : Int) : Int.tmod (Int.tmod x ((n - l + 1 : Nat) : Int) + ((n - l + 1 : Nat) : Int)) ((n - l + 1 : Nat) : Int) = ((leftN l n x - l : Nat) : Int) := by
  unfold leftN
  have hm : (0 : Int) < ((n - l + 1 : Nat) : Int) := by omega
  generalize ((n - l + 1 : Nat) : Int) = m at *
  have h1 := Int.emod_nonneg x (show m ≠ 0 by omega)
  have h2 := Int.emod_lt_of_pos x hm
  have h3 : 0 ≤ Int.tmod x m + m := by
    have := Int.lt_tmod_of_pos x hm
    omega
  rw [Int.tmod_eq_emod_of_nonneg h3, Int.add_emod_right]
  have h4 : Int.tmod x m % m = x % m := by
    rw [Int.tmod_def, Int.emod_def x m]
    have e : (x - m * Int.tdiv x m) % m = x % m := by
      rw [Int.sub_emod, Int.mul_emod_right]
      simp
    rw [e, Int.emod_def]
  rw [h4]
  omega
def cutAt (fl : Nat → Nat) (fb : Nat → List Nat) (f : Nat) (x : Int) : Nat → List Nat := fun g => if g = f then (fb f).take (leftN (fl f) (fb f).length x) else fb g
/-- the files that are open are cut, by one number each, as long as there are some -/
def truncL (fl : Nat → Nat) : List Nat → List Int → (Nat → List Nat) → (Nat → List Nat)
  | f :: r, x :: xs, fb => truncL fl r xs (cutAt fl fb f x)
  | _, _, fb => fb
theorem truncL_nil (fl : Nat → Nat) (xs : List Int) (fb : Nat → List Nat) : truncL fl [] xs fb = fb := by unfold truncL; rfl
theorem truncL_none (fl : Nat → Nat) (l : List Nat) (fb : Nat → List Nat) : truncL fl l [] fb = fb := by cases l <;> (unfold truncL; rfl)
theorem truncL_snoc (fl : Nat → Nat) : ∀ (l : List Nat) (f : Nat) (xs : List Int) (fb : Nat → List Nat), truncL fl (l ++ [f]) xs fb = match xs.drop l.length with
    | x :: _ => cutAt fl (truncL fl l xs fb) f x
    | [] => truncL fl l xs fb
  | [], f, xs, fb => by cases xs <;> simp [truncL]
  | g :: l, f, [], fb => by simp [truncL]
  | g :: l, f, x :: xs, fb => by
    show truncL fl (l ++ [f]) xs (cutAt fl fb g x) = _
    rw [truncL_snoc fl l f xs]
    simp [truncL]
theorem truncL_other (fl : Nat → Nat) : ∀ (l : List Nat) (xs : List Int) (fb : Nat → List Nat) (g : Nat), g ∉ l → truncL fl l xs fb g = fb g
  | [], xs, fb, g, _ => by rw [truncL_nil]
  | f :: l, [], fb, g, _ => by rw [truncL_none]
  | f :: l, x :: xs, fb, g, h => by
    show truncL fl l xs (cutAt fl fb f x) g = fb g
    rw [truncL_other fl l xs _ g (fun h' => h (by simp [h']))]
    unfold cutAt
    rw [if_neg (fun e => h (by simp [e]))]
theorem truncL_pre (fl : Nat → Nat) (l : List Nat) (xs : List Int) (fb : Nat → List Nat) (g : Nat) (hl : fl g ≤ (fb g).length) : ∃ k, fl g ≤ k ∧ k ≤ (fb g).length ∧ truncL fl l xs fb g = (fb g).take k := by
  induction l generalizing xs fb with
  | nil => exact ⟨(fb g).length, hl, Nat.le_refl _, by rw [truncL_nil, List.take_length]⟩
  | cons f l ih =>
    cases xs with
    | nil => exact ⟨(fb g).length, hl, Nat.le_refl _, by rw [truncL_none, List.take_length]⟩
    | cons x xs =>
      by_cases e : g = f
      · subst e
        obtain ⟨h1, h2⟩ := leftN_le (fl g) (fb g).length x hl
        have hc : cutAt fl fb g x g = (fb g).take (leftN (fl g) (fb g).length x) := if_pos rfl
        obtain ⟨k, k1, k2, k3⟩ := ih xs (cutAt fl fb g x) (by rw [hc, List.length_take]; omega)
        rw [hc, List.length_take] at k2
        refine ⟨k, k1, by omega, ?_⟩
        show truncL fl l xs (cutAt fl fb g x) g = _
        rw [k3, hc, List.take_take]
        congr 1
        omega
      · have hc : cutAt fl fb f x g = fb g := if_neg e
        obtain ⟨k, k1, k2, k3⟩ := ih xs (cutAt fl fb f x) (by rw [hc]; exact hl)
        rw [hc] at k2
        exact ⟨k, k1, k2, by show truncL fl l xs (cutAt fl fb f x) g = _; rw [k3, hc]⟩
end Go.Proofs.Ytelndbjjkhlacaa
namespace Go.Proofs.Ytelndbjjkhlacaa
open Go.RowKit Go.Maps

/-- what is done to names, done -/
def leadD (D : DT) (t : Turn) : DT :=
  if t.k = 0 then D.put (kl t.a) (match t.f with | some f => enc f | none => .nil)
  else if t.k = 1 then (match fileOf D t.a with | some f => (D.del (kl t.a)).put (kl t.b) (enc f) | none => D)
  else if t.k = 2 then D.del (kl t.a) else D
def nowD (D : DT) : List Turn → List Bool → DT
  | [], _ => D
  | t :: ts, [] => nowD (leadD D t) ts []
  | t :: ts, b :: bs => nowD (if b then leadD D t else D) ts bs
theorem nowD_nil (D : DT) (bs : List Bool) : nowD D [] bs = D := by cases bs <;> rfl
theorem nowD_snoc : ∀ (ts : List Turn) (t : Turn) (bs : List Bool) (D : DT), nowD D (ts ++ [t]) bs = if bs.getD ts.length true then leadD (nowD D ts bs) t else nowD D ts bs
  | [], t, [], D => by simp [nowD]
  | [], t, b :: bs, D => by cases b <;> simp [nowD]
  | u :: ts, t, [], D => by
    show nowD (leadD D u) (ts ++ [t]) [] = _
    rw [nowD_snoc ts t [] _]
    simp [nowD]
  | u :: ts, t, b :: bs, D => by
    show nowD (if b then leadD D u else D) (ts ++ [t]) bs = _
    rw [nowD_snoc ts t bs _]
    simp [nowD]
/-- does a name lead to a file? -/
def inD : DT → Nat → Bool
  | .map es, f => es.any fun p => decF p.2 == some f
  | _, _ => false
theorem inD_iff {D : DT} (hT : Tidy D) (hK : ∀ es, D = .map es → ∀ p ∈ es, WideAt.IsKeyLit p.1) (f : Nat) : inD D f = true ↔ ∃ k, has D k = true ∧ decF (D.atKey k .nil) = some f := by
  obtain ⟨es, rfl, hp⟩ := hT
  have hk := hK es rfl
  constructor
  · intro h
    obtain ⟨p, hp1, hp2⟩ := List.any_eq_true.1 h
    refine ⟨p.1, List.any_eq_true.2 ⟨p, hp1, WideAt.sameKey_self (hk p hp1)⟩, ?_⟩
    rw [WideAt.atKey_mem .nil (hk p hp1) hp hp1]
    simpa using hp2
  · rintro ⟨k, h1, h2⟩
    obtain ⟨p, hp1, hp2⟩ := List.any_eq_true.1 h1
    have e : p.1 = k := WideAt.sameKey_eq hp2
    subst e
    rw [WideAt.atKey_mem .nil (hk p hp1) hp hp1] at h2
    exact List.any_eq_true.2 ⟨p, hp1, by simp [h2]⟩
/-- may a file still be come to? -/
def comeB (S : DSt) (f : Nat) : Bool := inD S.names f || inD S.last f || S.turns.any fun t => t.f == some f
def openB (S : DSt) (f : Nat) : Bool := comeB S f && decide (S.fl f < (S.fb f).length)
def crashS (S : DSt) (fs : List Int) (bs : List Bool) : DSt :=
  { S with
    fb := truncL S.fl (S.files.filter (openB S)) fs S.fb
    fl := fun f => if inD (nowD S.last S.turns bs) f then (truncL S.fl (S.files.filter (openB S)) fs S.fb f).length else S.fl f
    names := nowD S.last S.turns bs
    last := nowD S.last S.turns bs
    turns := []
    dead := false
    stop := -1
    fail := 0
    files := S.files.filter (inD (nowD S.last S.turns bs)) }
end Go.Proofs.Ytelndbjjkhlacaa
namespace Go.Proofs.Ytelndbjjkhlacaa
open Go.RowKit Go.Maps

def updN {α : Type} (F : Nat → α) (f : Nat) (x : α) : Nat → α := fun g => if g = f then x else F g
theorem updN_same {α : Type} (F : Nat → α) (f : Nat) (x : α) : updN F f x f = x := if_pos rfl
theorem updN_other {α : Type} (F : Nat → α) {f g : Nat} (x : α) (h : g ≠ f) : updN F f x g = F g := if_neg h
theorem updN_id {α : Type} (F : Nat → α) (f : Nat) : updN F f (F f) = F := by
  funext g
  unfold updN
  split
  · next e => rw [e]
  · rfl
/-- what is none of the disk's is kept, and is none of it still -/
structure Out (ρ ρ' : Nat → Role) (w w' : World) : Prop where
  role : ∀ b, b < w.heap.size → ρ b = .other → ρ' b = .other
  keep : KeepX (fun b => ρ b = .other) w w'
theorem Out.trans {ρ ρ' ρ'' : Nat → Role} {w w' w'' : World} (h : Out ρ ρ' w w') (k : Out ρ' ρ'' w' w'') : Out ρ ρ'' w w'' :=
  ⟨fun b hb h0 => k.role b (Nat.lt_of_lt_of_le hb h.keep.size) (h.role b hb h0), ⟨Nat.le_trans h.keep.size k.keep.size, fun b hb h0 => (k.keep.block b (Nat.lt_of_lt_of_le hb h.keep.size) (h.role b hb h0)).trans (h.keep.block b hb h0)⟩⟩
theorem Out.below {ρ : Nat → Role} {w w' : World} (h : Below w.heap.size w w') : Out ρ ρ w w' := ⟨fun _ _ h => h, KeepX.of_below h⟩
theorem Out.refl (ρ : Nat → Role) (w : World) : Out ρ ρ w w := Out.below (Below.refl _ _)
theorem Out.same {ρ : Nat → Role} {w w' : World} {Y : Nat → Prop} (h : KeepX Y w w') (hY : ∀ b, ρ b = .other → Y b) : Out ρ ρ w w' := ⟨fun _ _ h => h, h.mono fun b _ h0 => hY b h0⟩
section
variable {B : Nat} {w w' : World} {bd : Nat} {ρ : Nat → Role} {S : DSt} {vf vt : Value} {bn bl : Nat} {V : Nat → Value}
theorem DiskIn.file_lt (h : DiskIn B w bd ρ S vf vt bn bl V) {f : Nat} (hf : f ∈ S.files) : f < w.heap.size := (h.file f hf).lt
theorem DiskIn.own_lt (h : DiskIn B w bd ρ S vf vt bn bl V) {f : Nat} (hf : f ∈ S.files) : ∀ g, (V f).ownBlock = some g → g < w.heap.size := fun g hg => ((h.bytes f hf).lt g hg).2
/-- a file's bytes, and how much of them lasts, turned -/
theorem DiskIn.turnFile (h : DiskIn B w bd ρ S vf vt bn bl V) {f : Nat} (hf : f ∈ S.files) (hk : KeepX (fun b => b ≠ f ∧ some b ≠ (V f).ownBlock) w w') (v' : Value) (n' : Nat) (d' : List Nat)
    (hr : w'.rowIs f 64 2 (fileV v' n')) (ho : w'.ownsRow B 5 1 v' d'.length (bytV d'))
    (hat : ∀ g, v'.ownBlock = some g → (V f).ownBlock = some g ∨ (w.heap.size ≤ g ∧ g < w'.heap.size)) :
    ∃ ρ', DiskIn B w' bd ρ' { S with fb := updN S.fb f d', fl := updN S.fl f n' } vf vt bn bl (updN V f v') ∧ Out ρ ρ' w w' := by
  classical
  obtain ⟨ρ', hρ⟩ : ∃ ρ' : Nat → Role, ρ' = fun b => if some b = v'.ownBlock then .bytes f else ρ b := ⟨_, rfl⟩
  have hlow : ∀ b, b < w.heap.size → (∀ g, ρ b ≠ .bytes g) → ρ' b = ρ b := fun b hb hn => by
    rw [hρ]
    refine if_neg fun e => ?_
    rcases hat b e.symm with h1 | h1
    · exact hn f (h.rbytes f hf b h1)
    · omega
  have hother : ∀ g ∈ S.files, g ≠ f → ∀ b, (V g).ownBlock = some b → ρ' b = .bytes g := fun g hg hne b hb => by
    have hl := h.own_lt hg b hb
    rw [hρ]
    refine (if_neg fun e => ?_).trans (h.rbytes g hg b hb)
    rcases hat b e.symm with h1 | h1
    · have h2 := h.rbytes f hf b h1
      rw [h.rbytes g hg b hb] at h2
      injection h2 with h2
      exact hne h2
    · omega
  have hne1 : ∀ b, (∀ g, ρ b ≠ .bytes g) → ρ b ≠ .file → b ≠ f ∧ some b ≠ (V f).ownBlock := fun b h1 h2 => ⟨fun e => h2 (by rw [e]; exact h.rfile f hf), fun e => h1 f (h.rbytes f hf b e.symm)⟩
  have HOUT : Out ρ ρ' w w' := ⟨fun b hb h0 => (hlow b hb (by rw [h0]; simp)).trans h0, hk.mono fun b _ h0 => hne1 b (by rw [h0]; simp) (by rw [h0]; simp)⟩
  refine ⟨ρ', ?_, HOUT⟩
  refine ⟨rowIs_keepX h.head hk (hne1 _ (by rw [h.rd]; simp) (by rw [h.rd]; simp)), nm_keepX h.names hk (hne1 _ (by rw [h.rn]; simp) (by rw [h.rn]; simp)), nm_keepX h.last hk (hne1 _ (by rw [h.rl]; simp) (by rw [h.rl]; simp)),
    owns_keepX h.files hk (fun g hg => hne1 _ (by rw [h.rf g hg]; simp) (by rw [h.rf g hg]; simp)), owns_keepX h.turns hk (fun g hg => hne1 _ (by rw [h.rt g hg]; simp) (by rw [h.rt g hg]; simp)), ?_, ?_,
    (hlow _ h.head.lt (by rw [h.rd]; simp)).trans h.rd, (hlow _ h.names.lt (by rw [h.rn]; simp)).trans h.rn, (hlow _ h.last.lt (by rw [h.rl]; simp)).trans h.rl,
    fun g hg => (hlow g (h.files.lt g hg).2 (by rw [h.rf g hg]; simp)).trans (h.rf g hg), fun g hg => (hlow g (h.turns.lt g hg).2 (by rw [h.rt g hg]; simp)).trans (h.rt g hg),
    fun g hg => (hlow g (h.file_lt hg) (by rw [h.rfile g hg]; simp)).trans (h.rfile g hg), ?_, ?_⟩
  · intro g hg
    by_cases e : g = f
    · subst e
      show w'.rowIs g _ 2 (fileV (updN V g v' g) (updN S.fl g n' g))
      rw [updN_same, updN_same]
      exact hr
    · show w'.rowIs g _ 2 (fileV (updN V f v' g) (updN S.fl f n' g))
      rw [updN_other _ _ e, updN_other _ _ e]
      exact rowIs_keepX (h.file g hg) hk ⟨e, fun e2 => by have := h.rbytes f hf g e2.symm; rw [h.rfile g hg] at this; cases this⟩
  · intro g hg
    by_cases e : g = f
    · subst e
      show w'.ownsRow B _ 1 (updN V g v' g) (updN S.fb g d' g).length (bytV (updN S.fb g d' g))
      rw [updN_same, updN_same]
      exact ho
    · show w'.ownsRow B _ 1 (updN V f v' g) (updN S.fb f d' g).length (bytV (updN S.fb f d' g))
      rw [updN_other _ _ e, updN_other _ _ e]
      refine owns_keepX (h.bytes g hg) hk fun b hb => ⟨fun e2 => ?_, fun e2 => ?_⟩
      · have h1 := h.rbytes g hg b hb
        rw [e2, h.rfile f hf] at h1
        cases h1
      · have h1 := h.rbytes g hg b hb
        rw [h.rbytes f hf b e2.symm] at h1
        injection h1 with h1
        exact e h1.symm
  · intro g hg b hb
    by_cases e : g = f
    · subst e
      change (updN V g v' g).ownBlock = some b at hb
      rw [updN_same] at hb
      rw [hρ]
      exact if_pos hb.symm
    · change (updN V f v' g).ownBlock = some b at hb
      rw [updN_other _ _ e] at hb
      exact hother g hg e b hb
  · intro b hb
    rw [hρ] at hb
    by_cases e : some b = v'.ownBlock
    · rcases hat b e.symm with h1 | h1
      · have := h.base b (by rw [h.rbytes f hf b h1]; simp)
        exact ⟨this.1, Nat.lt_of_lt_of_le this.2 hk.size⟩
      · have := h.base bd (by rw [h.rd]; simp)
        exact ⟨by omega, h1.2⟩
    · have hb2 : ρ b ≠ .other := by simpa [e] using hb
      have := h.base b hb2
      exact ⟨this.1, Nat.lt_of_lt_of_le this.2 hk.size⟩
/-- the names turned, in their own map -/
theorem DiskIn.setNames (h : DiskIn B w bd ρ S vf vt bn bl V) {D' : DT} (hk : KeepX (fun b => b ≠ bn) w w') (hn : NmAt w' bn D') : DiskIn B w' bd ρ { S with names := D' } vf vt bn bl V := by
  have hne : ∀ b, ρ b ≠ .names → b ≠ bn := fun b hb e => hb (by rw [e, h.rn])
  exact ⟨rowIs_keepX h.head hk (hne _ (by rw [h.rd]; simp)), hn, nm_keepX h.last hk (hne _ (by rw [h.rl]; simp)), owns_keepX h.files hk (fun g hg => hne _ (by rw [h.rf g hg]; simp)), owns_keepX h.turns hk (fun g hg => hne _ (by rw [h.rt g hg]; simp)),
    fun f hf => rowIs_keepX (h.file f hf) hk (hne _ (by rw [h.rfile f hf]; simp)), fun f hf => owns_keepX (h.bytes f hf) hk (fun g hg => hne _ (by rw [h.rbytes f hf g hg]; simp)), h.rd, h.rn, h.rl, h.rf, h.rt, h.rfile, h.rbytes,
    fun b hb => ⟨(h.base b hb).1, Nat.lt_of_lt_of_le (h.base b hb).2 hk.size⟩⟩
/-- a slice of the disk's own (the files, the turns) replaced; its cell written -/
theorem DiskIn.setTurns (h : DiskIn B w bd ρ S vf vt bn bl V) (vt' : Value) (T' : List Turn) (hk : KeepX (fun b => b ≠ bd ∧ some b ≠ vt.ownBlock) w w') (hr : w'.rowIs bd 60 10 (diskV S vf vt' bn bl))
    (ho : w'.ownsRow B 66 4 vt' T'.length (turnVs T')) (hat : ∀ g, vt'.ownBlock = some g → vt.ownBlock = some g ∨ (w.heap.size ≤ g ∧ g < w'.heap.size)) :
    ∃ ρ', DiskIn B w' bd ρ' { S with turns := T' } vf vt' bn bl V ∧ Out ρ ρ' w w' := by
  classical
  obtain ⟨ρ', hρ⟩ : ∃ ρ' : Nat → Role, ρ' = fun b => if some b = vt'.ownBlock then .turns else ρ b := ⟨_, rfl⟩
  have hlow : ∀ b, b < w.heap.size → ρ b ≠ .turns → ρ' b = ρ b := fun b hb hn => by
    rw [hρ]
    refine if_neg fun e => ?_
    rcases hat b e.symm with h1 | h1
    · exact hn (h.rt b h1)
    · omega
  have hne : ∀ b, ρ b ≠ .disk → ρ b ≠ .turns → b ≠ bd ∧ some b ≠ vt.ownBlock := fun b h1 h2 => ⟨fun e => h1 (by rw [e, h.rd]), fun e => h2 (h.rt b e.symm)⟩
  have HOUT : Out ρ ρ' w w' := ⟨fun b hb h0 => (hlow b hb (by rw [h0]; simp)).trans h0, hk.mono fun b _ h0 => hne b (by rw [h0]; simp) (by rw [h0]; simp)⟩
  refine ⟨ρ', ?_, HOUT⟩
  refine ⟨hr, nm_keepX h.names hk (hne _ (by rw [h.rn]; simp) (by rw [h.rn]; simp)), nm_keepX h.last hk (hne _ (by rw [h.rl]; simp) (by rw [h.rl]; simp)), owns_keepX h.files hk (fun g hg => hne _ (by rw [h.rf g hg]; simp) (by rw [h.rf g hg]; simp)), ho,
    fun f hf => rowIs_keepX (h.file f hf) hk (hne _ (by rw [h.rfile f hf]; simp) (by rw [h.rfile f hf]; simp)), fun f hf => owns_keepX (h.bytes f hf) hk (fun g hg => hne _ (by rw [h.rbytes f hf g hg]; simp) (by rw [h.rbytes f hf g hg]; simp)),
    (hlow _ h.head.lt (by rw [h.rd]; simp)).trans h.rd, (hlow _ h.names.lt (by rw [h.rn]; simp)).trans h.rn, (hlow _ h.last.lt (by rw [h.rl]; simp)).trans h.rl,
    fun g hg => (hlow g (h.files.lt g hg).2 (by rw [h.rf g hg]; simp)).trans (h.rf g hg), fun g hg => by rw [hρ]; exact if_pos hg.symm,
    fun g hg => (hlow g (h.file_lt hg) (by rw [h.rfile g hg]; simp)).trans (h.rfile g hg), fun f hf g hg => (hlow g (h.own_lt hf g hg) (by rw [h.rbytes f hf g hg]; simp)).trans (h.rbytes f hf g hg), fun b hb => ?_⟩
  rw [hρ] at hb
  by_cases e : some b = vt'.ownBlock
  · rcases hat b e.symm with h1 | h1
    · have := h.base b (by rw [h.rt b h1]; simp)
      exact ⟨this.1, Nat.lt_of_lt_of_le this.2 hk.size⟩
    · have := h.base bd (by rw [h.rd]; simp)
      exact ⟨by omega, h1.2⟩
  · have hb2 : ρ b ≠ .other := by simpa [e] using hb
    have := h.base b hb2
    exact ⟨this.1, Nat.lt_of_lt_of_le this.2 hk.size⟩
/-- a file more, an empty one -/
theorem DiskIn.addFile (h : DiskIn B w bd ρ S vf vt bn bl V) (fn : Nat) (hfn : w.heap.size ≤ fn) (vf' : Value) (hk : KeepX (fun b => b ≠ bd ∧ some b ≠ vf.ownBlock) w w') (hrow : w'.rowIs fn 64 2 (fileV (.slice none 0 0) 0))
    (hr : w'.rowIs bd 60 10 (diskV S vf' vt bn bl)) (ho : w'.ownsRow B 62 1 vf' (S.files ++ [fn]).length ((S.files ++ [fn]).map ptrB))
    (hat : ∀ g, vf'.ownBlock = some g → vf.ownBlock = some g ∨ (w.heap.size ≤ g ∧ g < w'.heap.size ∧ g ≠ fn)) :
    ∃ ρ', DiskIn B w' bd ρ' { S with files := S.files ++ [fn], fb := updN S.fb fn [], fl := updN S.fl fn 0 } vf' vt bn bl (updN V fn (.slice none 0 0)) ∧ Out ρ ρ' w w' := by
  classical
  obtain ⟨ρ', hρ⟩ : ∃ ρ' : Nat → Role, ρ' = fun b => if b = fn then .file else if some b = vf'.ownBlock then .files else ρ b := ⟨_, rfl⟩
  have hlow : ∀ b, b < w.heap.size → ρ b ≠ .files → ρ' b = ρ b := fun b hb hn => by
    rw [hρ]
    show (if b = fn then Role.file else if some b = vf'.ownBlock then .files else ρ b) = _
    rw [if_neg (by omega)]
    refine if_neg fun e => ?_
    rcases hat b e.symm with h1 | h1
    · exact hn (h.rf b h1)
    · omega
  have hne : ∀ b, ρ b ≠ .disk → ρ b ≠ .files → b ≠ bd ∧ some b ≠ vf.ownBlock := fun b h1 h2 => ⟨fun e => h1 (by rw [e, h.rd]), fun e => h2 (h.rf b e.symm)⟩
  have hold : ∀ f, f ∈ S.files → f ≠ fn := fun f hf e => by have := h.file_lt hf; omega
  have HOUT : Out ρ ρ' w w' := ⟨fun b hb h0 => (hlow b hb (by rw [h0]; simp)).trans h0, hk.mono fun b _ h0 => hne b (by rw [h0]; simp) (by rw [h0]; simp)⟩
  refine ⟨ρ', ?_, HOUT⟩
  refine ⟨hr, nm_keepX h.names hk (hne _ (by rw [h.rn]; simp) (by rw [h.rn]; simp)), nm_keepX h.last hk (hne _ (by rw [h.rl]; simp) (by rw [h.rl]; simp)), ho, owns_keepX h.turns hk (fun g hg => hne _ (by rw [h.rt g hg]; simp) (by rw [h.rt g hg]; simp)), ?_, ?_,
    (hlow _ h.head.lt (by rw [h.rd]; simp)).trans h.rd, (hlow _ h.names.lt (by rw [h.rn]; simp)).trans h.rn, (hlow _ h.last.lt (by rw [h.rl]; simp)).trans h.rl,
    fun g hg => ?_, fun g hg => (hlow g (h.turns.lt g hg).2 (by rw [h.rt g hg]; simp)).trans (h.rt g hg), ?_, ?_, fun b hb => ?_⟩
  · intro f hf
    rcases List.mem_append.1 hf with hf | hf
    · show w'.rowIs f _ 2 (fileV (updN V fn _ f) (updN S.fl fn 0 f))
      rw [updN_other _ _ (hold f hf), updN_other _ _ (hold f hf)]
      exact rowIs_keepX (h.file f hf) hk (hne _ (by rw [h.rfile f hf]; simp) (by rw [h.rfile f hf]; simp))
    · obtain rfl : f = fn := by simpa using hf
      show w'.rowIs f _ 2 (fileV (updN V f _ f) (updN S.fl f 0 f))
      rw [updN_same, updN_same]
      exact hrow
  · intro f hf
    rcases List.mem_append.1 hf with hf | hf
    · show w'.ownsRow B _ 1 (updN V fn _ f) (updN S.fb fn [] f).length (bytV (updN S.fb fn [] f))
      rw [updN_other _ _ (hold f hf), updN_other _ _ (hold f hf)]
      exact owns_keepX (h.bytes f hf) hk (fun g hg => hne _ (by rw [h.rbytes f hf g hg]; simp) (by rw [h.rbytes f hf g hg]; simp))
    · obtain rfl : f = fn := by simpa using hf
      show w'.ownsRow B _ 1 (updN V f _ f) (updN S.fb f [] f).length (bytV (updN S.fb f [] f))
      rw [updN_same, updN_same]
      exact World.ownsRow_nil _ _ _ _
  · rw [hρ]
    show (if g = fn then Role.file else if some g = vf'.ownBlock then .files else ρ g) = _
    rw [if_neg, if_pos hg.symm]
    intro e
    rcases hat g hg with h1 | h1
    · have := (h.files.lt g h1).2; omega
    · exact h1.2.2 e
  · intro f hf
    rcases List.mem_append.1 hf with hf | hf
    · exact (hlow f (h.file_lt hf) (by rw [h.rfile f hf]; simp)).trans (h.rfile f hf)
    · obtain rfl : f = fn := by simpa using hf
      rw [hρ]; exact if_pos rfl
  · intro f hf g hg
    rcases List.mem_append.1 hf with hf | hf
    · change (updN V fn _ f).ownBlock = some g at hg
      rw [updN_other _ _ (hold f hf)] at hg
      exact (hlow g (h.own_lt hf g hg) (by rw [h.rbytes f hf g hg]; simp)).trans (h.rbytes f hf g hg)
    · obtain rfl : f = fn := by simpa using hf
      change (updN V f _ f).ownBlock = some g at hg
      rw [updN_same] at hg
      simp [Value.ownBlock] at hg
  · have hB := h.base bd (by rw [h.rd]; simp)
    rw [hρ] at hb
    change (if b = fn then Role.file else if some b = vf'.ownBlock then .files else ρ b) ≠ _ at hb
    by_cases e0 : b = fn
    · subst e0
      exact ⟨by omega, hrow.lt⟩
    · rw [if_neg e0] at hb
      by_cases e : some b = vf'.ownBlock
      · rcases hat b e.symm with h1 | h1
        · have := h.base b (by rw [h.rf b h1]; simp)
          exact ⟨this.1, Nat.lt_of_lt_of_le this.2 hk.size⟩
        · exact ⟨by omega, h1.2.1⟩
      · rw [if_neg e] at hb
        have := h.base b hb
        exact ⟨this.1, Nat.lt_of_lt_of_le this.2 hk.size⟩
/-- fewer files -/
theorem DiskIn.setFiles (h : DiskIn B w bd ρ S vf vt bn bl V) (vf' : Value) (F' : List Nat) (hsub : ∀ f ∈ F', f ∈ S.files) (hk : KeepX (fun b => b ≠ bd ∧ some b ≠ vf.ownBlock) w w') (hr : w'.rowIs bd 60 10 (diskV S vf' vt bn bl))
    (ho : w'.ownsRow B 62 1 vf' F'.length (F'.map ptrB)) (hat : ∀ g, vf'.ownBlock = some g → vf.ownBlock = some g ∨ (w.heap.size ≤ g ∧ g < w'.heap.size)) :
    ∃ ρ', DiskIn B w' bd ρ' { S with files := F' } vf' vt bn bl V ∧ Out ρ ρ' w w' := by
  classical
  obtain ⟨ρ', hρ⟩ : ∃ ρ' : Nat → Role, ρ' = fun b => if some b = vf'.ownBlock then .files else ρ b := ⟨_, rfl⟩
  have hlow : ∀ b, b < w.heap.size → ρ b ≠ .files → ρ' b = ρ b := fun b hb hn => by
    rw [hρ]
    refine if_neg fun e => ?_
    rcases hat b e.symm with h1 | h1
    · exact hn (h.rf b h1)
    · omega
  have hne : ∀ b, ρ b ≠ .disk → ρ b ≠ .files → b ≠ bd ∧ some b ≠ vf.ownBlock := fun b h1 h2 => ⟨fun e => h1 (by rw [e, h.rd]), fun e => h2 (h.rf b e.symm)⟩
  have HOUT : Out ρ ρ' w w' := ⟨fun b hb h0 => (hlow b hb (by rw [h0]; simp)).trans h0, hk.mono fun b _ h0 => hne b (by rw [h0]; simp) (by rw [h0]; simp)⟩
  refine ⟨ρ', ?_, HOUT⟩
  refine ⟨hr, nm_keepX h.names hk (hne _ (by rw [h.rn]; simp) (by rw [h.rn]; simp)), nm_keepX h.last hk (hne _ (by rw [h.rl]; simp) (by rw [h.rl]; simp)), ho, owns_keepX h.turns hk (fun g hg => hne _ (by rw [h.rt g hg]; simp) (by rw [h.rt g hg]; simp)),
    fun f hf => rowIs_keepX (h.file f (hsub f hf)) hk (hne _ (by rw [h.rfile f (hsub f hf)]; simp) (by rw [h.rfile f (hsub f hf)]; simp)), fun f hf => owns_keepX (h.bytes f (hsub f hf)) hk (fun g hg => hne _ (by rw [h.rbytes f (hsub f hf) g hg]; simp) (by rw [h.rbytes f (hsub f hf) g hg]; simp)),
    (hlow _ h.head.lt (by rw [h.rd]; simp)).trans h.rd, (hlow _ h.names.lt (by rw [h.rn]; simp)).trans h.rn, (hlow _ h.last.lt (by rw [h.rl]; simp)).trans h.rl,
    fun g hg => by rw [hρ]; exact if_pos hg.symm, fun g hg => (hlow g (h.turns.lt g hg).2 (by rw [h.rt g hg]; simp)).trans (h.rt g hg),
    fun g hg => (hlow g (h.file_lt (hsub g hg)) (by rw [h.rfile g (hsub g hg)]; simp)).trans (h.rfile g (hsub g hg)), fun f hf g hg => (hlow g (h.own_lt (hsub f hf) g hg) (by rw [h.rbytes f (hsub f hf) g hg]; simp)).trans (h.rbytes f (hsub f hf) g hg), fun b hb => ?_⟩
  rw [hρ] at hb
  by_cases e : some b = vf'.ownBlock
  · rcases hat b e.symm with h1 | h1
    · have := h.base b (by rw [h.rf b h1]; simp)
      exact ⟨this.1, Nat.lt_of_lt_of_le this.2 hk.size⟩
    · have := h.base bd (by rw [h.rd]; simp)
      exact ⟨by omega, h1.2⟩
  · have hb2 : ρ b ≠ .other := by simpa [e] using hb
    have := h.base b hb2
    exact ⟨this.1, Nat.lt_of_lt_of_le this.2 hk.size⟩
/-- the two maps replaced -/
theorem DiskIn.setMaps (h : DiskIn B w bd ρ S vf vt bn bl V) (bn' bl' : Nat) (N' L' : DT) (hk : KeepX (fun b => b ≠ bd) w w') (hn : NmAt w' bn' N') (hl : NmAt w' bl' L') (hn1 : bn' = bn ∨ w.heap.size ≤ bn') (hl1 : bl' = bl ∨ w.heap.size ≤ bl') (hd : bn' ≠ bl')
    (hr : w'.rowIs bd 60 10 (diskV S vf vt bn' bl')) : ∃ ρ', DiskIn B w' bd ρ' { S with names := N', last := L' } vf vt bn' bl' V ∧ Out ρ ρ' w w' := by
  obtain ⟨ρ', hρ⟩ : ∃ ρ' : Nat → Role, ρ' = fun b => if b = bn' then .names else if b = bl' then .last else if b = bn ∨ b = bl then .other else ρ b := ⟨_, rfl⟩
  have hlow : ∀ b, b < w.heap.size → ρ b ≠ .names → ρ b ≠ .last → ρ' b = ρ b := fun b hb h1 h2 => by
    have e1 : b ≠ bn := fun e => h1 (by rw [e, h.rn])
    have e2 : b ≠ bl := fun e => h2 (by rw [e, h.rl])
    have e3 : b ≠ bn' := fun e => by rcases hn1 with h3 | h3; exact e1 (e.trans h3); omega
    have e4 : b ≠ bl' := fun e => by rcases hl1 with h3 | h3; exact e2 (e.trans h3); omega
    rw [hρ]
    simp [e1, e2, e3, e4]
  have hne : ∀ b, ρ b ≠ .disk → b ≠ bd := fun b h1 e => h1 (by rw [e, h.rd])
  have HOUT : Out ρ ρ' w w' := ⟨fun b hb h0 => (hlow b hb (by rw [h0]; simp) (by rw [h0]; simp)).trans h0, hk.mono fun b _ h0 => hne b (by rw [h0]; simp)⟩
  refine ⟨ρ', ?_, HOUT⟩
  refine ⟨hr, hn, hl, owns_keepX h.files hk (fun g hg => hne _ (by rw [h.rf g hg]; simp)), owns_keepX h.turns hk (fun g hg => hne _ (by rw [h.rt g hg]; simp)),
    fun f hf => rowIs_keepX (h.file f hf) hk (hne _ (by rw [h.rfile f hf]; simp)), fun f hf => owns_keepX (h.bytes f hf) hk (fun g hg => hne _ (by rw [h.rbytes f hf g hg]; simp)),
    (hlow _ h.head.lt (by rw [h.rd]; simp) (by rw [h.rd]; simp)).trans h.rd, by rw [hρ]; simp, by rw [hρ]; simp [Ne.symm hd],
    fun g hg => (hlow g (h.files.lt g hg).2 (by rw [h.rf g hg]; simp) (by rw [h.rf g hg]; simp)).trans (h.rf g hg), fun g hg => (hlow g (h.turns.lt g hg).2 (by rw [h.rt g hg]; simp) (by rw [h.rt g hg]; simp)).trans (h.rt g hg),
    fun g hg => (hlow g (h.file_lt hg) (by rw [h.rfile g hg]; simp) (by rw [h.rfile g hg]; simp)).trans (h.rfile g hg), fun f hf g hg => (hlow g (h.own_lt hf g hg) (by rw [h.rbytes f hf g hg]; simp) (by rw [h.rbytes f hf g hg]; simp)).trans (h.rbytes f hf g hg), fun b hb => ?_⟩
  have hB := h.base bd (by rw [h.rd]; simp)
  have hBn := h.base bn (by rw [h.rn]; simp)
  have hBl := h.base bl (by rw [h.rl]; simp)
  by_cases e1 : b = bn'
  · subst e1
    refine ⟨?_, hn.lt⟩
    rcases hn1 with h3 | h3
    · rw [h3]; exact hBn.1
    · omega
  by_cases e2 : b = bl'
  · subst e2
    refine ⟨?_, hl.lt⟩
    rcases hl1 with h3 | h3
    · rw [h3]; exact hBl.1
    · omega
  by_cases e3 : b = bn ∨ b = bl
  · rw [hρ] at hb
    simp [e1, e2, e3] at hb
  · rw [hρ] at hb
    have hb2 : ρ b ≠ .other := by simpa [e1, e2, e3] using hb
    have := h.base b hb2
    exact ⟨this.1, Nat.lt_of_lt_of_le this.2 hk.size⟩
end
end Go.Proofs.Ytelndbjjkhlacaa
