/-
  Small laws that all walks of this seat share: frames, rows that came in, numbers.
-/
import Derived.WalkKit
import Derived.WalkSpells
import Derived.WalkLawsBesides
import Derived.Deep.QuietTactic
import Derived.BigQuiet
import Derived.IntWalk
import Derived.Deep.OwnRows
import Derived.Deep.Draws
import Derived.Outline
import Derived.Lib.Hide
import Derived.RegionTactic
import Derived.Deep.RegionWith
import Derived.Deep.Cut
import Derived.StillTailTactics
import Derived.Maps.AppendAt
import Derived.RangeFuncNested
import Derived.RangeFuncBound
import Derived.RangeFuncCalls
import Derived.RangeFuncLeaves
import Derived.RangeFuncBox
import Derived.Shelf.Abstract
import Derived.Shelf.RegionOpen
import Derived.OwnWalkIn
import Derived.TacticsInMore
import Derived.LoopNIn
import Derived.LoopIn
namespace Go.Proofs.YtdcobmoeligdkaaGreatDoor
open Go.RowKit

theorem ret_int {k : IntKind} {a b : Int} (h : a = b) : Ending.returned (.int k a) = .returned (.int k b) := by rw [h]
theorem ret_bool {a b : Bool} (h : a = b) : Ending.returned (.bool a) = .returned (.bool b) := by rw [h]

theorem gb_refl (w : World) (row : Option Nat) : w.grownBy w row := ⟨rfl, rfl, rfl, Nat.le_refl _, fun _ _ _ => rfl⟩
theorem gb_trans {a b c : World} {row : Option Nat} (h : a.grownBy b row) (k : b.grownBy c row) : a.grownBy c row :=
  ⟨k.os.trans h.os, k.tape.trans h.tape, k.output.trans h.output, Nat.le_trans h.size k.size, fun i hi hn => (k.block i (Nat.lt_of_lt_of_le hi h.size) hn).trans (h.block i hi hn)⟩
theorem gb_drew {a w : World} {row : Option Nat} (h : a.grownBy w row) : a.grownBy w.drew row := ⟨h.os, h.tape, h.output, h.size, h.block⟩
theorem gb_drewN {a w : World} {row : Option Nat} (h : a.grownBy w row) (n : Nat) : a.grownBy (w.drewN n) row := ⟨h.os, h.tape, h.output, h.size, h.block⟩
theorem gb_set {a w : World} {g : Nat} (h : a.grownBy w (some g)) (o : Nat) (u : Value) : a.grownBy (w.setCell ⟨g, o, none⟩ u) (some g) :=
  gb_trans h ⟨rfl, rfl, rfl, by simp [World.setCell], fun i _ hn => Below.heap_setCell w ⟨g, o, none⟩ u i (fun e => hn (by rw [e]))⟩
theorem gb_below {a w : World} (h : Below a.heap.size a w) (row : Option Nat) : a.grownBy w row := ⟨h.os, h.tape, h.output, h.size, fun i hi _ => h.block i hi⟩
theorem row_gb {w w' : World} {row : Option Nat} {b : Nat} {t : TypeId} {n : Nat} {f : Nat → Value} (h : w.rowIs b t n f) (hg : w.grownBy w' row) (hne : some b ≠ row) : w'.rowIs b t n f :=
  h.of_block (hg.block b h.lt hne)
theorem row_below {w w' : World} {B b : Nat} {t : TypeId} {n : Nat} {f : Nat → Value} (h : w.rowIs b t n f) (hb : Below B w w') (hlt : b < B) : w'.rowIs b t n f := h.of_block (hb.block b hlt)
theorem row_drewN {w : World} {b : Nat} {t : TypeId} {n : Nat} {f : Nat → Value} (h : w.rowIs b t n f) (k : Nat) : (w.drewN k).rowIs b t n f := h
theorem below_drewN {B : Nat} {a w : World} (h : Below B a w) (n : Nat) : Below B a (w.drewN n) := ⟨h.os, h.tape, h.output, h.size, h.block⟩
theorem below_gb {B : Nat} {a w w' : World} {g : Nat} (h : Below B a w) (hg : w.grownBy w' (some g)) (hB : B ≤ w.heap.size) (hr : B ≤ g) : Below B a w' :=
  h.grown hg hB (fun k e => by cases e; exact hr)
theorem below_next {B : Nat} {a w w' : World} (h : Below B a w) (hb : Below w.heap.size w w') (hB : B ≤ w.heap.size) : Below B a w' := h.trans (hb.mono hB)

/-- and with a mask, of whatever int -/
theorem i64_mask (x : Int) (j : Nat) (hj : j < 63) : bits .and .i64 x (2 ^ j - 1) = x % 2 ^ j := by
  have hp : (0 : Nat) < 2 ^ j := Nat.two_pow_pos j
  have hp2 : (2 : Nat) ^ j < 2 ^ 63 := Nat.pow_lt_pow_right (by omega) hj
  have ei : ((2 : Int) ^ j) = ((2 ^ j : Nat) : Int) := by simp
  show IntKind.i64.wrap ((BitVec.ofInt 64 x &&& BitVec.ofInt 64 (2 ^ j - 1)).toNat : Int) = _
  rw [BitVec.toNat_and]
  have e1 : (BitVec.ofInt 64 ((2 : Int) ^ j - 1)).toNat = 2 ^ j - 1 := by
    rw [ei, show ((2 ^ j : Nat) : Int) - 1 = ((2 ^ j - 1 : Nat) : Int) by omega, BitVec.ofInt_natCast, BitVec.toNat_ofNat]
    exact Nat.mod_eq_of_lt (by omega)
  rw [e1, Nat.and_two_pow_sub_one_eq_mod]
  have e2 : (((BitVec.ofInt 64 x).toNat : Nat) : Int) = x % 18446744073709551616 := by
    rw [BitVec.toNat_ofInt]
    have := Int.emod_nonneg x (show (18446744073709551616 : Int) ≠ 0 by omega)
    simp
    omega
  rw [Int.natCast_emod, e2, ← ei]
  have hd : ((2 : Int) ^ j) ∣ 18446744073709551616 := ⟨2 ^ (64 - j), by rw [← Int.pow_add, show j + (64 - j) = 64 by omega]; rfl⟩
  rw [Int.emod_emod_of_dvd _ hd]
  have h0 := Int.emod_nonneg x (show ((2 : Int) ^ j) ≠ 0 by omega)
  have h1 := Int.emod_lt_of_pos x (show (0 : Int) < 2 ^ j by omega)
  exact IntWalk.i64_in _ (by omega)

/-- the block and the place of a slice's address (nought where there is none) -/
def bOf (a : Option Addr) : Nat := (a.map Addr.block).getD 0
def oOf (a : Option Addr) : Nat := (a.map Addr.off).getD 0

/-- a slice that is read: n cells, f's; nil or not -/
structure Row (w : World) (a : Option Addr) (n : Nat) (f : Nat → Value) : Prop where
  at_ : n = 0 ∨ a = some ⟨bOf a, oOf a, none⟩
  cell : ∀ k, k < n → w.cell? ⟨bOf a, oOf a + k, none⟩ = some (f k)

theorem Row.lt {w : World} {a : Option Addr} {n : Nat} {f : Nat → Value} (h : Row w a n f) (hn : 0 < n) : bOf a < w.heap.size := World.block_lt_of_cell? w _ (h.cell 0 hn)
theorem Row.below {w w' : World} {B : Nat} {a : Option Addr} {n : Nat} {f : Nat → Value} (h : Row w a n f) (hb : Below B w w') (hB : n = 0 ∨ bOf a < B) : Row w' a n f := by
  refine ⟨h.at_, fun k hk => ?_⟩
  rcases hB with e | e
  · omega
  · exact (hb.cell (p := ⟨bOf a, oOf a + k, none⟩) e).trans (h.cell k hk)
theorem Row.kept {w w' : World} {a : Option Addr} {n : Nat} {f : Nat → Value} (h : Row w a n f) (hb : Below w.heap.size w w') : Row w' a n f :=
  h.below hb (by rcases Nat.eq_zero_or_pos n with e | e; · exact .inl e
                 · exact .inr (h.lt e))
theorem Row.drewN {w : World} {a : Option Addr} {n : Nat} {f : Nat → Value} (h : Row w a n f) (k : Nat) : Row (w.drewN k) a n f := ⟨h.at_, h.cell⟩
theorem Row.drew {w : World} {a : Option Addr} {n : Nat} {f : Nat → Value} (h : Row w a n f) : Row w.drew a n f := ⟨h.at_, h.cell⟩
theorem Row.gb {w w' : World} {row : Option Nat} {a : Option Addr} {n : Nat} {f : Nat → Value} (h : Row w a n f) (hg : w.grownBy w' row) (hne : n = 0 ∨ some (bOf a) ≠ row) : Row w' a n f := by
  refine ⟨h.at_, fun k hk => ?_⟩
  rcases hne with e | e
  · omega
  · exact hg.cell (h.cell k hk) e
theorem Row.congr {w : World} {a : Option Addr} {n : Nat} {f g : Nat → Value} (h : Row w a n f) (e : ∀ k, k < n → f k = g k) : Row w a n g := ⟨h.at_, fun k hk => by rw [h.cell k hk, e k hk]⟩
theorem Row.nil (w : World) (a : Option Addr) (f : Nat → Value) : Row w a 0 f := ⟨.inl rfl, fun k hk => by omega⟩
theorem Row.take {w : World} {a : Option Addr} {n m : Nat} {f : Nat → Value} (h : Row w a n f) (hm : m ≤ n) : Row w a m f :=
  ⟨by rcases h.at_ with e | e; · exact .inl (by omega)
      · exact .inr e, fun k hk => h.cell k (by omega)⟩
theorem Row.of_row {w : World} {b : Nat} {t : TypeId} {n m : Nat} {f : Nat → Value} (h : w.rowIs b t n f) (hm : m ≤ n) : Row w (some ⟨b, 0, none⟩) m f :=
  ⟨.inr rfl, fun k hk => by have := h.cell (i := k) (by omega); simpa [bOf, oOf] using this⟩

/-- what append leaves is a row that is read -/
theorem Row.of_owns {w : World} {base : Nat} {e : TypeId} {v : Value} {n : Nat} {xs : List Value} (h : w.ownsRow base e 1 v n xs) :
    ∃ a cap, v = .slice a n cap ∧ n ≤ cap ∧ Row w a n (fun k => xs.getD k undef) ∧ (n = 0 ∨ base ≤ bOf a) ∧ (0 < n → a = some ⟨bOf a, 0, none⟩) := by
  obtain ⟨hl, h⟩ := h
  rcases h with ⟨rfl, rfl⟩ | ⟨g, cap, cur, rfl, hb, hh, hn, hc, hs, ht⟩
  · exact ⟨none, 0, rfl, Nat.le_refl _, Row.nil _ _ _, .inl rfl, by omega⟩
  · refine ⟨some ⟨g, 0, none⟩, cap, rfl, hn, ⟨.inr rfl, fun k hk => ?_⟩, .inr hb, fun _ => rfl⟩
    have hx : xs[k]? = cur[k]? := by rw [← ht, List.getElem?_take_of_lt (by omega)]; simp
    have hc1 : k < cur.size := by omega
    simp only [bOf, oOf, Option.map_some, Option.getD_some, Nat.zero_add]
    rw [cell_of_row w g k cur e (0, 0) hh]
    rw [List.getD_eq_getElem?_getD, hx, Array.getElem?_eq_getElem hc1]; rfl

theorem run_ix {P : Program} (t : TypeId) (hu : P.underlying t = some (.slice (P.elem t))) (hsz : ∀ w, (sizeOf (P.elem t)).run P w = .ok 1 w) (a : Option Addr) (n cap : Nat) (h : n = 0 ∨ a = some ⟨bOf a, oOf a, none⟩) (kd : IntKind) :
    ∀ (w : World) (k : Nat), k < n → (Instr.indexAt t (.slice a n cap) (.int kd (k : Int))).run P w = .ok (.pointer (some ⟨bOf a, oOf a + k, none⟩)) w := by
  intro w k hk
  rcases h with e | e
  · omega
  · rw [e, run_indexAt_slice _ _ _ _ _ _ _ hu, if_pos (by omega), hsz]
    simp [bOf, oOf, Addr.add]

/-- what a round of a loop over an iterator keeps: all blocks below n₀ but those of x -/
def KpX (n₀ : Nat) (x : Nat → Prop) (W W' : World) : Prop := ∀ b, b < n₀ → ¬ x b → W'.heap[b]? = W.heap[b]?
theorem kpX_t {n₀ : Nat} {x : Nat → Prop} : ∀ {A B C : World}, KpX n₀ x A B → KpX n₀ x B C → KpX n₀ x A C := fun h k b hb hx => (k b hb hx).trans (h b hb hx)
theorem kpX_b {n₀ : Nat} {x : Nat → Prop} {w : World} (hn : n₀ ≤ w.heap.size) : ∀ (W : World) (l : Nat) (o o' : Obj), w.heap.size ≤ l → W.heap[l]? = some o → o.isCells = false → o.isWalk = false → KpX n₀ x W (W.putObj l o') :=
  fun W l o o' hl _ _ _ b hb _ => World.putObj_heap_other (by omega)
theorem kpX_refl {n₀ : Nat} {x : Nat → Prop} (W : World) : KpX n₀ x W W := fun _ _ _ => rfl
theorem kpX_below {n₀ B : Nat} {x : Nat → Prop} {W W' : World} (h : Below B W W') (hB : n₀ ≤ B) : KpX n₀ x W W' := fun b hb _ => h.block b (by omega)
theorem kpX_set {n₀ : Nat} {x : Nat → Prop} {W W' : World} (h : KpX n₀ x W W') (p : Addr) (hp : x p.block ∨ n₀ ≤ p.block) (v : Value) : KpX n₀ x W (W'.setCell p v) :=
  fun b hb hx => (Below.heap_setCell W' p v b (fun e => by subst e; exact hp.elim hx (fun h => by omega))).trans (h b hb hx)
theorem kpX_gb {n₀ g : Nat} {x : Nat → Prop} {A W W' : World} (h : KpX n₀ x A W) (hg : W.grownBy W' (some g)) (hs : n₀ ≤ W.heap.size) (hp : x g ∨ n₀ ≤ g) : KpX n₀ x A W' :=
  fun b hb hx => (hg.block b (by omega) (fun e => by cases e; exact hp.elim hx (fun h => by omega))).trans (h b hb hx)
theorem abides_drewN {β : Type} {B : Nat} {J : β → World → Prop} (h : AbidesFrom B J) {s : β} {W : World} (hs : J s W) (k : Nat) : J s (W.drewN k) :=
  h s W _ none hs (gb_drewN (gb_refl _ _) k) (fun r e => by cases e)
theorem cell_kpX {n₀ : Nat} {x : Nat → Prop} {W W' : World} (h : KpX n₀ x W W') {p : Addr} (hb : p.block < n₀) (hx : ¬ x p.block) : W'.cell? p = W.cell? p := World.cell?_of_block (h p.block hb hx)
/-- a boxed slice, appended to and stored back, its rows above all boxes -/
theorem boxed_appended {W w1 : World} {r0 B n0 : Nat} {t e : TypeId} {size : Nat} {v v' : Value} {k m : Nat} {xs ys : List Value} {tmp : Obj}
    (hv : Boxed W B t v) (hrow : W.ownsRow r0 e size v k xs) (hr0 : r0 ≤ W.heap.size) (hB : B < r0) (hn0 : n0 ≤ B)
    (hown' : w1.ownsRow r0 e size v' m ys) (hgrow : (W.alloc tmp).grownBy w1 v.ownBlock) :
    Boxed w1 B t v ∧ Boxed (w1.setCell ⟨B, 0, none⟩ v') B t v' ∧ (w1.setCell ⟨B, 0, none⟩ v').ownsRow r0 e size v' m ys ∧ KeepsOthers W (w1.setCell ⟨B, 0, none⟩ v') ∧
      (∀ b, b < r0 → b ≠ B → (w1.setCell ⟨B, 0, none⟩ v').heap[b]? = W.heap[b]?) ∧ Below n0 W (w1.setCell ⟨B, 0, none⟩ v') := by
  have hlt := hrow.lt
  have hne : some B ≠ v.ownBlock := fun h => by have := (hlt B h.symm).1; omega
  have hv1 : Boxed w1 B t v := (hv.alloc tmp).kept hgrow hne
  have hlt' := hown'.lt
  have hblk : ∀ b, b < r0 → b ≠ B → (w1.setCell ⟨B, 0, none⟩ v').heap[b]? = W.heap[b]? := fun b hb hbB => by
    rw [Below.heap_setCell w1 ⟨B, 0, none⟩ v' b hbB, hgrow.block b (by simp; omega) (fun h => by have := (hlt b h.symm).1; omega), Below.heap_alloc W tmp b (by omega)]
  refine ⟨hv1, hv1.set v', hown'.kept (grownBy_setCell' w1 B v') (.inr (fun h => by have := (hlt' B h).1; omega)), ?_, hblk, ?_⟩
  · refine ((KeepsOthers.alloc W tmp).trans (KeepsOthers.of_grownBy hgrow fun j o ej hj => ?_)).trans (KeepsOthers.setCell _ _ _)
    rcases (hrow.alloc tmp).2 with ⟨rfl, _⟩ | ⟨g, cap, cur, rfl, _, hgb, _⟩
    · simp [Value.ownBlock] at ej
    · obtain rfl : g = j := by simpa [Value.ownBlock] using ej
      rw [hgb] at hj; cases hj; rfl
  · exact (((Below.refl n0 W).alloc (by omega) tmp).grown hgrow (by simp; omega) fun j ej => by have := (hlt j ej).1; omega).setCell (p := ⟨B, 0, none⟩) hn0 v'

end Go.Proofs.YtdcobmoeligdkaaGreatDoor
