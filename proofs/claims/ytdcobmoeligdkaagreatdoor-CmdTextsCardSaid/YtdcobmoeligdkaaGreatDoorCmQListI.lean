/-
  query.list: what holds between its rounds.
-/
import Derived.Test.YtdcobmoeligdkaaGreatDoorCmQRead
namespace Go.Proofs.YtdcobmoeligdkaaGreatDoor
open Go.RowKit Go.Shelf

def lenOf : Value → Nat
  | .string b => b.size
  | _ => 0
theorem lenOf_uS (l : List UInt8) : lenOf (.string (uS l)) = l.length := uS_size l
def qZero : Array Value := #[.int .i64 0, .slice none 0 0, .slice none 0 0]
structure LInv (w : World) (acc : List QT) (k : Int) (v2 : Value) (xs : List Value) (W : World) : Prop where
  q : W.heap[w.heap.size + 1]? = some (.cells #[.int .i64 k, .slice none 0 0, v2] 25 (0, 0))
  r : W.heap[w.heap.size]? = some (.cells #[.int .i64 0, .slice none 0 0, .slice none 0 0] 25 (0, 0))
  o : W.ownsRow (w.heap.size + 2) 25 3 v2 acc.length xs
  e : ∀ i (h : i < acc.length), QAt W (fun b => w.heap.size + 2 ≤ b ∧ v2.ownBlock ≠ some b) acc[i] (xs.getD (i * 3) undef) (xs.getD (i * 3 + 1) undef) (xs.getD (i * 3 + 2) undef)
  b : Below w.heap.size w W
  s : w.heap.size + 2 ≤ W.heap.size
theorem LInv.kept {w : World} {acc : List QT} {k : Int} {v2 : Value} {xs : List Value} {W W' : World} (h : LInv w acc k v2 xs W) (hb : Below W.heap.size W W') : LInv w acc k v2 xs W' :=
  ⟨(hb.block _ (by have := h.s; omega)).trans h.q, (hb.block _ (by have := h.s; omega)).trans h.r, ownsRow_stepX h.o (StepX.of_below (X := fun _ => False) hb) (fun _ _ => id), fun i hi => (h.e i hi).kept hb, below_next h.b hb h.b.size, Nat.le_trans h.s hb.size⟩
theorem LInv.form {w : World} {acc : List QT} {k : Int} {v2 : Value} {xs : List Value} {W : World} (h : LInv w acc k v2 xs W) : ∃ a c, v2 = .slice a acc.length c ∧ acc.length ≤ c ∧ (a = none → c = 0) := by
  rcases h.o.2 with ⟨rfl, h0⟩ | ⟨g, cap, cur, rfl, _, _, h1, _⟩
  · rw [h0]; exact ⟨none, 0, rfl, Nat.le_refl _, fun _ => rfl⟩
  · exact ⟨_, cap, rfl, h1, fun h => by cases h⟩
theorem LInv.node {w : World} {acc : List QT} {k : Int} {a : Option Addr} {c c' : Nat} {xs : List Value} {W W' : World} (h : LInv w acc k (.slice a acc.length c) xs W) (hm : acc.length ≤ maxLen) (hW : ∀ b, w.heap.size + 2 ≤ b → W'.heap[b]? = W.heap[b]?) :
    QAt W' (fun b => w.heap.size ≤ b) (.node k [] acc) (.int .i64 k) (.slice none 0 0) (.slice a acc.length c') := by
  have hrow : Row W a (acc.length * 3) (fun j => xs.getD j undef) ∧ (acc.length = 0 ∨ w.heap.size + 2 ≤ bOf a) := by
    rcases h.o.2 with ⟨e, h0⟩ | ⟨g, cap, cur, e, hg, hh, h1, h2, h3, h4⟩
    · rw [h0]; exact ⟨Row.nil _ _ _, .inl rfl⟩
    · injection e with e1 e2 e3
      subst e1
      refine ⟨⟨.inr rfl, fun j hj => ?_⟩, .inr hg⟩
      show W.cell? ⟨g, 0 + j, none⟩ = _
      have hc1 : j < cur.size := by have : acc.length * 3 ≤ cap * 3 := Nat.mul_le_mul_right 3 h1; omega
      rw [Nat.zero_add, cell_of_row W g j cur _ _ hh, List.getD_eq_getElem?_getD, ← h4, List.getElem?_take_of_lt hj, Array.getElem?_eq_getElem hc1]
      simp [hc1]
  refine .mk k [] acc none 0 a c' _ (Row.nil _ _ _) (.inl rfl) (Nat.zero_le _) (⟨hrow.1.at_, fun j hj => ?_⟩ : Row W' a (acc.length * 3) (fun j => xs.getD j undef)) (hrow.2.imp id (fun h => by omega)) hm (fun i hi => ?_)
  · exact (World.cell?_of_block (a := ⟨bOf a, oOf a + j, none⟩) (hW _ (hrow.2.resolve_left (by intro e; rw [e] at hj; omega)))).trans (hrow.1.cell j hj)
  · exact (h.e i hi).move (fun b _ hg => hW b hg.1) (fun b _ hg => by have := hg.1; omega)
theorem LInv.grow {w : World} {acc : List QT} {k : Int} {v2 : Value} {xs : List Value} {W W1 wq : World} {x : QT} {u0 u1 u2 : Value} {g cap : Nat} {q : World} (h : LInv w acc k v2 xs W) (hq : Below W.heap.size W q) (h1 : Below q.heap.size q W1) (hx : QAt q (fun b => W.heap.size ≤ b) x u0 u1 u2)
    (ho : wq.ownsRow (w.heap.size + 2) 25 3 (.slice (some ⟨g, 0, none⟩) (acc.length + 1) cap) (acc.length + 1) (xs ++ [u0, u1, u2])) (hg : W1.grownBy wq v2.ownBlock) (hat : v2.ownBlock = some g ∨ g = W1.heap.size) :
    LInv w (acc ++ [x]) k (.slice (some ⟨g, 0, none⟩) (acc.length + 1) cap) (xs ++ [u0, u1, u2]) (wq.setCell ⟨w.heap.size + 1, 2, none⟩ (.slice (some ⟨g, 0, none⟩) (acc.length + 1) cap)) := by
  have hW1 : Below W.heap.size W W1 := below_next hq h1 hq.size
  have k1 := h.kept hW1
  have hlo := h.o.lt
  have hx1 := hx.kept h1
  have hgb : w.heap.size + 2 ≤ g := by
    rcases hat with e | e
    · exact (hlo g e).1
    · have := k1.s; omega
  have hs1 := hg.size
  have hbq : ∀ b, b < W1.heap.size → v2.ownBlock ≠ some b → wq.heap[b]? = W1.heap[b]? := fun b hb hn => hg.block b hb (fun e => hn e.symm)
  have hne : ∀ b, b < w.heap.size + 2 → v2.ownBlock ≠ some b := fun b hb e => by have := (hlo b e).1; omega
  have hset : ∀ b, b ≠ w.heap.size + 1 → (wq.setCell ⟨w.heap.size + 1, 2, none⟩ (.slice (some ⟨g, 0, none⟩) (acc.length + 1) cap)).heap[b]? = wq.heap[b]? := fun b hb => Below.heap_setCell wq ⟨w.heap.size + 1, 2, none⟩ _ b hb
  have hlen : xs.length = acc.length * 3 := h.o.1
  refine ⟨?_, ?_, ?_, fun i hi => ?_, ?_, ?_⟩
  · have := (hbq (w.heap.size + 1) (by have := k1.s; omega) (hne _ (by omega))).trans k1.q
    exact heap_setCell_same wq _ 2 _ _ _ this
  · exact (hset _ (by omega)).trans ((hbq w.heap.size (by have := k1.s; omega) (hne _ (by omega))).trans k1.r)
  · rw [List.length_append]
    exact ownsRow_setCell_below ho (by show w.heap.size + 1 < w.heap.size + 2; omega) _
  · rw [List.length_append, List.length_singleton] at hi
    rcases Nat.lt_or_ge i acc.length with hlt | hge
    · have g0 : ∀ j, j < xs.length → (xs ++ [u0, u1, u2]).getD j undef = xs.getD j undef := fun j hj => by
        rw [List.getD_eq_getElem?_getD, List.getD_eq_getElem?_getD, List.getElem?_append_left hj]
      rw [g0 _ (by omega), g0 _ (by omega), g0 _ (by omega), List.getElem_append_left hlt]
      refine (k1.e i hlt).move (fun b hb hG => ?_) (fun b hb hG => ⟨hG.1, ?_⟩)
      · exact (hset b (by have := hG.1; omega)).trans (hbq b hb hG.2)
      · intro e
        have e1 : g = b := by simpa [Value.ownBlock] using e
        subst e1
        rcases hat with e2 | e2
        · exact hG.2 e2
        · omega
    · obtain rfl : i = acc.length := by omega
      have g0 : ∀ j u, [u0, u1, u2][j]? = some u → (xs ++ [u0, u1, u2]).getD (acc.length * 3 + j) undef = u := fun j u hu => by
        rw [List.getD_eq_getElem?_getD, List.getElem?_append_right (by omega), show acc.length * 3 + j - xs.length = j by omega, hu]; rfl
      have q0 := g0 0 u0 rfl
      rw [Nat.add_zero] at q0
      rw [q0, g0 1 u1 rfl, g0 2 u2 rfl]
      have hxe : (acc ++ [x])[acc.length]'(by simp) = x := by simp
      rw [hxe]
      have hown : ∀ b, W.heap.size ≤ b → v2.ownBlock ≠ some b := fun b hb e => by have := (hlo b e).2; omega
      refine hx1.move (fun b hb hG => ?_) (fun b hb hG => ⟨by have := h.s; omega, ?_⟩)
      · exact (hset b (by have := h.s; omega)).trans (hbq b hb (hown b hG))
      · intro e
        have e1 : g = b := by simpa [Value.ownBlock] using e
        subst e1
        rcases hat with e2 | e2
        · exact hown _ hG e2
        · omega
  · have hb1 : Below w.heap.size w wq := k1.b.grown hg (by have := k1.s; omega) (fun b hb => by have := (hlo b hb).1; omega)
    exact hb1.setCell (p := ⟨w.heap.size + 1, 2, none⟩) (by show w.heap.size ≤ w.heap.size + 1; omega) _
  · have : (wq.setCell ⟨w.heap.size + 1, 2, none⟩ (.slice (some ⟨g, 0, none⟩) (acc.length + 1) cap)).heap.size = wq.heap.size := by simp [World.setCell]
    have := k1.s
    omega
theorem LInv.nodeN {w : World} {acc : List QT} {k : Int} {a : Option Addr} {n c c' : Nat} {xs : List Value} {W W' : World} (hn : acc.length = n) (h : LInv w acc k (.slice a n c) xs W) (hm : n ≤ maxLen) (hW : ∀ b, w.heap.size + 2 ≤ b → W'.heap[b]? = W.heap[b]?) :
    QAt W' (fun b => w.heap.size ≤ b) (.node k [] acc) (.int .i64 k) (.slice none 0 0) (.slice a n c') := by
  subst hn
  exact h.node hm hW
theorem LInv.kind {w : World} {acc : List QT} {k : Int} {v2 : Value} {xs : List Value} {W : World} (h : LInv w acc k v2 xs W) (k' : Int) : LInv w acc k' v2 xs (W.setCell ⟨w.heap.size + 1, 0, none⟩ (.int .i64 k')) := by
  have hset : ∀ b, b ≠ w.heap.size + 1 → (W.setCell ⟨w.heap.size + 1, 0, none⟩ (.int .i64 k')).heap[b]? = W.heap[b]? := fun b hb => Below.heap_setCell W ⟨w.heap.size + 1, 0, none⟩ _ b hb
  refine ⟨heap_setCell_same W _ 0 _ _ _ h.q, (hset _ (by omega)).trans h.r, ownsRow_setCell_below h.o (by show w.heap.size + 1 < w.heap.size + 2; omega) _, fun i hi => ?_, ?_, ?_⟩
  · exact (h.e i hi).move (fun b hb hG => hset b (by have := hG.1; omega)) (fun b hb hG => hG)
  · exact h.b.setCell (p := ⟨w.heap.size + 1, 0, none⟩) (by show w.heap.size ≤ w.heap.size + 1; omega) _
  · have := h.s
    simpa [World.setCell] using this
theorem clipQ_any (w : World) (a : Addr) (n cap : Nat) (hn : n ≤ cap) :
    Calls Tryz.prog 91 #[.slice (some a) n cap] w fun e w' => e = .returned (.slice (some a) n n) ∧ w = w' := by
  go_enter Tryz.func91, Tryz.ntmps91
  go_wp2
  go_ret
  exact ⟨rfl, rfl⟩
end Go.Proofs.YtdcobmoeligdkaaGreatDoor
