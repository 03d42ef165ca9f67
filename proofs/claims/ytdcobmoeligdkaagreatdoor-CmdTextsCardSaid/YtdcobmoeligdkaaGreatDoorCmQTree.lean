/-
  Queries as trees, and where they lie.
-/
import Derived.Test.YtdcobmoeligdkaaGreatDoorCmShape
import Derived.Test.YtdcobmoeligdkaaGreatDoorSeqX
namespace Go.Proofs.YtdcobmoeligdkaaGreatDoor
open Go.RowKit Go.Shelf

theorem run_ixQ {P : Program} (t : TypeId) (m : Nat) (hu : P.underlying t = some (.slice (P.elem t))) (hsz : ∀ w, (sizeOf (P.elem t)).run P w = .ok m w) (a : Option Addr) (n cap : Nat) (h : n = 0 ∨ a = some ⟨bOf a, oOf a, none⟩) :
    ∀ (w : World) (k : Nat), k < n → (Instr.indexAt t (.slice a n cap) (.int .i64 (k : Int))).run P w = .ok (.pointer (some ⟨bOf a, oOf a + k * m, none⟩)) w := by
  intro w k hk
  rcases h with e | e
  · omega
  · rw [e, run_indexAt_slice _ _ _ _ _ _ _ hu, if_pos (by omega), hsz]
    simp [bOf, oOf, Addr.add]
inductive QT where
  | node (k : Int) (t : List UInt8) (l : List QT) : QT
def QT.k : QT → Int | .node k _ _ => k
def QT.t : QT → List UInt8 | .node _ t _ => t
def QT.l : QT → List QT | .node _ _ l => l
/-- a query lies in blocks that G names: its three cells' values -/
inductive QAt (W : World) (G : Nat → Prop) : QT → Value → Value → Value → Prop where
  | mk (k : Int) (t : List UInt8) (l : List QT) (a1 : Option Addr) (c1 : Nat) (a2 : Option Addr) (c2 : Nat) (V : Nat → Value)
    (h1 : Row W a1 t.length (bV t)) (g1 : t.length = 0 ∨ G (bOf a1)) (m1 : t.length ≤ maxLen)
    (h2 : Row W a2 (l.length * 3) V) (g2 : l.length = 0 ∨ G (bOf a2)) (m2 : l.length ≤ maxLen)
    (hs : ∀ i (h : i < l.length), QAt W G l[i] (V (i * 3)) (V (i * 3 + 1)) (V (i * 3 + 2))) :
    QAt W G (.node k t l) (.int .i64 k) (.slice a1 t.length c1) (.slice a2 l.length c2)
theorem QAt.move {W W' : World} {G G' : Nat → Prop} {q : QT} {v0 v1 v2 : Value} (h : QAt W G q v0 v1 v2) (hb : ∀ b, b < W.heap.size → G b → W'.heap[b]? = W.heap[b]?) (hg : ∀ b, b < W.heap.size → G b → G' b) : QAt W' G' q v0 v1 v2 := by
  induction h with
  | mk k t l a1 c1 a2 c2 V h1 g1 m1 h2 g2 m2 hs ih =>
    have hr : ∀ {a : Option Addr} {n : Nat} {f : Nat → Value}, Row W a n f → (n = 0 ∨ G (bOf a)) → Row W' a n f ∧ (n = 0 ∨ G' (bOf a)) := fun {a n f} hr hg' => by
      refine ⟨⟨hr.at_, fun k hk => ?_⟩, ?_⟩
      · have hc := hr.cell k hk
        exact (World.cell?_of_block (a := ⟨bOf a, oOf a + k, none⟩) (hb _ (World.block_lt_of_cell? W _ hc) (hg'.resolve_left (by omega)))).trans hc
      · rcases Nat.eq_zero_or_pos n with e | e
        · exact .inl e
        · exact .inr (hg _ (hr.lt e) (hg'.resolve_left (by omega)))
    have x1 := hr h1 g1
    have x2 := hr h2 (g2.imp (by intro e; omega) id)
    exact .mk k t l a1 c1 a2 c2 V x1.1 x1.2 m1 x2.1 (x2.2.imp (by intro e; omega) id) m2 ih
theorem QAt.kept {W W' : World} {G : Nat → Prop} {q : QT} {v0 v1 v2 : Value} (h : QAt W G q v0 v1 v2) (hb : Below W.heap.size W W') : QAt W' G q v0 v1 v2 := h.move (fun b hl _ => hb.block b hl) (fun _ _ h => h)
theorem QAt.mono {W : World} {G G' : Nat → Prop} {q : QT} {v0 v1 v2 : Value} (h : QAt W G q v0 v1 v2) (hg : ∀ b, b < W.heap.size → G b → G' b) : QAt W G' q v0 v1 v2 := h.move (fun _ _ _ => rfl) hg
theorem QAt.stepX {X : Nat → Prop} {W W' : World} {G : Nat → Prop} {q : QT} {v0 v1 v2 : Value} (h : QAt W G q v0 v1 v2) (st : StepX X W W') (hx : ∀ b, G b → ¬ X b) : QAt W' G q v0 v1 v2 := h.move (fun b hl hg => st.block b hl (hx b hg)) (fun _ _ h => h)
theorem QAt.setCell {W : World} {G : Nat → Prop} {q : QT} {v0 v1 v2 : Value} (h : QAt W G q v0 v1 v2) (p : Addr) (hp : ¬ G p.block) (u : Value) : QAt (W.setCell p u) G q v0 v1 v2 :=
  h.move (fun b _ hg => Below.heap_setCell W p u b (fun e => hp (e ▸ hg))) (fun _ _ h => h)
theorem QAt.drewN {W : World} {G : Nat → Prop} {q : QT} {v0 v1 v2 : Value} (h : QAt W G q v0 v1 v2) (n : Nat) : QAt (W.drewN n) G q v0 v1 v2 := h.move (fun _ _ _ => rfl) (fun _ _ h => h)
theorem QAt.form {W : World} {G : Nat → Prop} {q : QT} {v0 v1 v2 : Value} (h : QAt W G q v0 v1 v2) : ∃ a1 n1 c1 a2 n2 c2, v0 = .int .i64 q.k ∧ v1 = .slice a1 n1 c1 ∧ v2 = .slice a2 n2 c2 := by
  cases h with
  | mk k t l a1 c1 a2 c2 V => exact ⟨a1, _, c1, a2, _, c2, rfl, rfl, rfl⟩
def q0 : QT := .node 0 [] []
theorem QAt.zero (W : World) (G : Nat → Prop) : QAt W G q0 (.int .i64 0) (.slice none 0 0) (.slice none 0 0) :=
  .mk 0 [] [] none 0 none 0 (fun _ => undef) (Row.nil _ _ _) (.inl rfl) (Nat.zero_le _) (Row.nil _ _ _) (.inl rfl) (Nat.zero_le _) (fun i h => absurd h (Nat.not_lt_zero i))

/-- how many queries there are; below 0: they may not be -/
def okH (k : Int) (t : List UInt8) (n : Nat) : Bool :=
  (decide (k = 1) && decide (1 ≤ t.length) && decide (t.length ≤ 100) && decide (n = 0)) || (decide (k = 4) && decide (t.length = 0) && decide (n = 1)) || ((decide (k = 2) || decide (k = 3)) && decide (t.length = 0) && decide (2 ≤ n) && decide (n ≤ 8))
def cntL (c : QT → Int) : Int → List QT → Int
  | n, [] => n
  | n, x :: r => if c x < 0 ∨ 60 < n + c x then -1 else cntL c (n + c x) r
def cntF : Nat → QT → Int
  | 0, _ => -1
  | f + 1, .node k t l => if okH k t l.length then cntL (cntF f) 1 l else -1
def okQ (q : QT) : Bool := decide (0 < cntF 8 q)
theorem cntL_le (c : QT → Int) : ∀ (l : List QT) (n : Int), n ≤ 60 → cntL c n l ≤ 60
  | [], n, h => h
  | x :: r, n, h => by
    rw [cntL]
    split
    · omega
    · rename_i h2
      exact cntL_le c r _ (by omega)
theorem cntF_le (f : Nat) (q : QT) : cntF f q ≤ 60 := by
  cases f with
  | zero => rw [cntF]; omega
  | succ f =>
    obtain ⟨k, t, l⟩ := q
    rw [cntF]
    split
    · exact cntL_le _ _ _ (by omega)
    · omega
end Go.Proofs.YtdcobmoeligdkaaGreatDoor
