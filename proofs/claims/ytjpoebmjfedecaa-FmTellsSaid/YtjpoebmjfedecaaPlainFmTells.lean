/-
  Texts of this claim, one behind the other.
-/
import Derived.WalkKit
import Derived.WalkSpells
import Derived.WalkLawsBesides
import Derived.Deep.QuietTactic
import Derived.BigQuiet
import Derived.IntWalk
import Derived.Deep.OwnRows
import Derived.Deep.Draws
import Derived.Outline
import Derived.Lib.Hide
import Derived.RegionTactic
import Derived.Deep.RegionWith
import Derived.Deep.Cut
import Derived.StillTailTactics
import Derived.Maps.AppendAt
import Derived.RangeFuncNested
import Derived.RangeFuncBound
import Derived.RangeFuncCalls
import Derived.RangeFuncLeaves
import Derived.RangeFuncBox
import Derived.Shelf.Abstract
import Derived.Shelf.RegionOpen
import Derived.OwnWalkIn
import Derived.TacticsInMore
import Derived.LoopNIn
import Derived.LoopIn
import Derived.Test.YtjpoebmjfedecaaProg
import Derived.Maps.OwnSet
import Derived.Maps.OwnOps
import Derived.Maps.OwnIn
import Derived.ProofKit
import Derived.OpenShut
import Derived.Deep.Grids

/-
  Small laws that all walks of this seat share: frames, rows that came in, numbers.
-/
namespace Go.Proofs.Ytjpoebmjfedecaa
open Go.RowKit

theorem ret_int {k : IntKind} {a b : Int} (h : a = b) : Ending.returned (.int k a) = .returned (.int k b) := by rw [h]
theorem ret_bool {a b : Bool} (h : a = b) : Ending.returned (.bool a) = .returned (.bool b) := by rw [h]

theorem gb_refl (w : World) (row : Option Nat) : w.grownBy w row := ⟨rfl, rfl, rfl, Nat.le_refl _, fun _ _ _ => rfl⟩
theorem gb_trans {a b c : World} {row : Option Nat} (h : a.grownBy b row) (k : b.grownBy c row) : a.grownBy c row :=
  ⟨k.os.trans h.os, k.tape.trans h.tape, k.output.trans h.output, Nat.le_trans h.size k.size, fun i hi hn => (k.block i (Nat.lt_of_lt_of_le hi h.size) hn).trans (h.block i hi hn)⟩
theorem gb_drew {a w : World} {row : Option Nat} (h : a.grownBy w row) : a.grownBy w.drew row := ⟨h.os, h.tape, h.output, h.size, h.block⟩
theorem gb_drewN {a w : World} {row : Option Nat} (h : a.grownBy w row) (n : Nat) : a.grownBy (w.drewN n) row := ⟨h.os, h.tape, h.output, h.size, h.block⟩
theorem gb_set {a w : World} {g : Nat} (h : a.grownBy w (some g)) (o : Nat) (u : Value) : a.grownBy (w.setCell ⟨g, o, none⟩ u) (some g) :=
  gb_trans h ⟨rfl, rfl, rfl, by simp [World.setCell], fun i _ hn => Below.heap_setCell w ⟨g, o, none⟩ u i (fun e => hn (by rw [e]))⟩
theorem gb_below {a w : World} (h : Below a.heap.size a w) (row : Option Nat) : a.grownBy w row := ⟨h.os, h.tape, h.output, h.size, fun i hi _ => h.block i hi⟩
theorem row_gb {w w' : World} {row : Option Nat} {b : Nat} {t : TypeId} {n : Nat} {f : Nat → Value} (h : w.rowIs b t n f) (hg : w.grownBy w' row) (hne : some b ≠ row) : w'.rowIs b t n f :=
  h.of_block (hg.block b h.lt hne)
theorem row_below {w w' : World} {B b : Nat} {t : TypeId} {n : Nat} {f : Nat → Value} (h : w.rowIs b t n f) (hb : Below B w w') (hlt : b < B) : w'.rowIs b t n f := h.of_block (hb.block b hlt)
theorem row_drewN {w : World} {b : Nat} {t : TypeId} {n : Nat} {f : Nat → Value} (h : w.rowIs b t n f) (k : Nat) : (w.drewN k).rowIs b t n f := h
theorem below_drewN {B : Nat} {a w : World} (h : Below B a w) (n : Nat) : Below B a (w.drewN n) := ⟨h.os, h.tape, h.output, h.size, h.block⟩
theorem below_gb {B : Nat} {a w w' : World} {g : Nat} (h : Below B a w) (hg : w.grownBy w' (some g)) (hB : B ≤ w.heap.size) (hr : B ≤ g) : Below B a w' :=
  h.grown hg hB (fun k e => by cases e; exact hr)
theorem below_next {B : Nat} {a w w' : World} (h : Below B a w) (hb : Below w.heap.size w w') (hB : B ≤ w.heap.size) : Below B a w' := h.trans (hb.mono hB)

/-- and with a mask, of whatever int -/
theorem i64_mask (x : Int) (j : Nat) (hj : j < 63) : bits .and .i64 x (2 ^ j - 1) = x % 2 ^ j := by
  have hp : (0 : Nat) < 2 ^ j := Nat.two_pow_pos j
  have hp2 : (2 : Nat) ^ j < 2 ^ 63 := Nat.pow_lt_pow_right (by omega) hj
  have ei : ((2 : Int) ^ j) = ((2 ^ j : Nat) : Int) := by simp
  show IntKind.i64.wrap ((BitVec.ofInt 64 x &&& BitVec.ofInt 64 (2 ^ j - 1)).toNat : Int) = _
  rw [BitVec.toNat_and]
  have e1 : (BitVec.ofInt 64 ((2 : Int) ^ j - 1)).toNat = 2 ^ j - 1 := by
    rw [ei, show ((2 ^ j : Nat) : Int) - 1 = ((2 ^ j - 1 : Nat) : Int) by omega, BitVec.ofInt_natCast, BitVec.toNat_ofNat]
    exact Nat.mod_eq_of_lt (by omega)
  rw [e1, Nat.and_two_pow_sub_one_eq_mod]
  have e2 : (((BitVec.ofInt 64 x).toNat : Nat) : Int) = x % 18446744073709551616 := by
    rw [BitVec.toNat_ofInt]
    have := Int.emod_nonneg x (show (18446744073709551616 : Int) ≠ 0 by omega)
    simp
    omega
  rw [Int.natCast_emod, e2, ← ei]
  have hd : ((2 : Int) ^ j) ∣ 18446744073709551616 := ⟨2 ^ (64 - j), by rw [← Int.pow_add, show j + (64 - j) = 64 by omega]; rfl⟩
  rw [Int.emod_emod_of_dvd _ hd]
  have h0 := Int.emod_nonneg x (show ((2 : Int) ^ j) ≠ 0 by omega)
  have h1 := Int.emod_lt_of_pos x (show (0 : Int) < 2 ^ j by omega)
  exact IntWalk.i64_in _ (by omega)

/-- the block and the place of a slice's address (nought where there is none) -/
def bOf (a : Option Addr) : Nat := (a.map Addr.block).getD 0
def oOf (a : Option Addr) : Nat := (a.map Addr.off).getD 0

/-- a slice that is read: n cells, f's; nil or not -/
structure Row (w : World) (a : Option Addr) (n : Nat) (f : Nat → Value) : Prop where
  at_ : n = 0 ∨ a = some ⟨bOf a, oOf a, none⟩
  cell : ∀ k, k < n → w.cell? ⟨bOf a, oOf a + k, none⟩ = some (f k)

theorem Row.lt {w : World} {a : Option Addr} {n : Nat} {f : Nat → Value} (h : Row w a n f) (hn : 0 < n) : bOf a < w.heap.size := World.block_lt_of_cell? w _ (h.cell 0 hn)
theorem Row.below {w w' : World} {B : Nat} {a : Option Addr} {n : Nat} {f : Nat → Value} (h : Row w a n f) (hb : Below B w w') (hB : n = 0 ∨ bOf a < B) : Row w' a n f := by
  refine ⟨h.at_, fun k hk => ?_⟩
  rcases hB with e | e
  · omega
  · exact (hb.cell (p := ⟨bOf a, oOf a + k, none⟩) e).trans (h.cell k hk)
theorem Row.kept {w w' : World} {a : Option Addr} {n : Nat} {f : Nat → Value} (h : Row w a n f) (hb : Below w.heap.size w w') : Row w' a n f :=
  h.below hb (by rcases Nat.eq_zero_or_pos n with e | e; · exact .inl e
                 · exact .inr (h.lt e))
theorem Row.drewN {w : World} {a : Option Addr} {n : Nat} {f : Nat → Value} (h : Row w a n f) (k : Nat) : Row (w.drewN k) a n f := ⟨h.at_, h.cell⟩
theorem Row.drew {w : World} {a : Option Addr} {n : Nat} {f : Nat → Value} (h : Row w a n f) : Row w.drew a n f := ⟨h.at_, h.cell⟩
theorem Row.gb {w w' : World} {row : Option Nat} {a : Option Addr} {n : Nat} {f : Nat → Value} (h : Row w a n f) (hg : w.grownBy w' row) (hne : n = 0 ∨ some (bOf a) ≠ row) : Row w' a n f := by
  refine ⟨h.at_, fun k hk => ?_⟩
  rcases hne with e | e
  · omega
  · exact hg.cell (h.cell k hk) e
theorem Row.congr {w : World} {a : Option Addr} {n : Nat} {f g : Nat → Value} (h : Row w a n f) (e : ∀ k, k < n → f k = g k) : Row w a n g := ⟨h.at_, fun k hk => by rw [h.cell k hk, e k hk]⟩
theorem Row.nil (w : World) (a : Option Addr) (f : Nat → Value) : Row w a 0 f := ⟨.inl rfl, fun k hk => by omega⟩
theorem Row.take {w : World} {a : Option Addr} {n m : Nat} {f : Nat → Value} (h : Row w a n f) (hm : m ≤ n) : Row w a m f :=
  ⟨by rcases h.at_ with e | e; · exact .inl (by omega)
      · exact .inr e, fun k hk => h.cell k (by omega)⟩
theorem Row.of_row {w : World} {b : Nat} {t : TypeId} {n m : Nat} {f : Nat → Value} (h : w.rowIs b t n f) (hm : m ≤ n) : Row w (some ⟨b, 0, none⟩) m f :=
  ⟨.inr rfl, fun k hk => by have := h.cell (i := k) (by omega); simpa [bOf, oOf] using this⟩

/-- what append leaves is a row that is read -/
theorem Row.of_owns {w : World} {base : Nat} {e : TypeId} {v : Value} {n : Nat} {xs : List Value} (h : w.ownsRow base e 1 v n xs) :
    ∃ a cap, v = .slice a n cap ∧ n ≤ cap ∧ Row w a n (fun k => xs.getD k undef) ∧ (n = 0 ∨ base ≤ bOf a) ∧ (0 < n → a = some ⟨bOf a, 0, none⟩) := by
  obtain ⟨hl, h⟩ := h
  rcases h with ⟨rfl, rfl⟩ | ⟨g, cap, cur, rfl, hb, hh, hn, hc, hs, ht⟩
  · exact ⟨none, 0, rfl, Nat.le_refl _, Row.nil _ _ _, .inl rfl, by omega⟩
  · refine ⟨some ⟨g, 0, none⟩, cap, rfl, hn, ⟨.inr rfl, fun k hk => ?_⟩, .inr hb, fun _ => rfl⟩
    have hx : xs[k]? = cur[k]? := by rw [← ht, List.getElem?_take_of_lt (by omega)]; simp
    have hc1 : k < cur.size := by omega
    simp only [bOf, oOf, Option.map_some, Option.getD_some, Nat.zero_add]
    rw [cell_of_row w g k cur e (0, 0) hh]
    rw [List.getD_eq_getElem?_getD, hx, Array.getElem?_eq_getElem hc1]; rfl

theorem run_ix {P : Program} (t : TypeId) (hu : P.underlying t = some (.slice (P.elem t))) (hsz : ∀ w, (sizeOf (P.elem t)).run P w = .ok 1 w) (a : Option Addr) (n cap : Nat) (h : n = 0 ∨ a = some ⟨bOf a, oOf a, none⟩) (kd : IntKind) :
    ∀ (w : World) (k : Nat), k < n → (Instr.indexAt t (.slice a n cap) (.int kd (k : Int))).run P w = .ok (.pointer (some ⟨bOf a, oOf a + k, none⟩)) w := by
  intro w k hk
  rcases h with e | e
  · omega
  · rw [e, run_indexAt_slice _ _ _ _ _ _ _ hu, if_pos (by omega), hsz]
    simp [bOf, oOf, Addr.add]

/-- what a round of a loop over an iterator keeps: all blocks below n₀ but those of x -/
def KpX (n₀ : Nat) (x : Nat → Prop) (W W' : World) : Prop := ∀ b, b < n₀ → ¬ x b → W'.heap[b]? = W.heap[b]?
theorem kpX_t {n₀ : Nat} {x : Nat → Prop} : ∀ {A B C : World}, KpX n₀ x A B → KpX n₀ x B C → KpX n₀ x A C := fun h k b hb hx => (k b hb hx).trans (h b hb hx)
theorem kpX_b {n₀ : Nat} {x : Nat → Prop} {w : World} (hn : n₀ ≤ w.heap.size) : ∀ (W : World) (l : Nat) (o o' : Obj), w.heap.size ≤ l → W.heap[l]? = some o → o.isCells = false → o.isWalk = false → KpX n₀ x W (W.putObj l o') :=
  fun W l o o' hl _ _ _ b hb _ => World.putObj_heap_other (by omega)
theorem kpX_refl {n₀ : Nat} {x : Nat → Prop} (W : World) : KpX n₀ x W W := fun _ _ _ => rfl
theorem kpX_below {n₀ B : Nat} {x : Nat → Prop} {W W' : World} (h : Below B W W') (hB : n₀ ≤ B) : KpX n₀ x W W' := fun b hb _ => h.block b (by omega)
theorem kpX_set {n₀ : Nat} {x : Nat → Prop} {W W' : World} (h : KpX n₀ x W W') (p : Addr) (hp : x p.block ∨ n₀ ≤ p.block) (v : Value) : KpX n₀ x W (W'.setCell p v) :=
  fun b hb hx => (Below.heap_setCell W' p v b (fun e => by subst e; exact hp.elim hx (fun h => by omega))).trans (h b hb hx)
theorem kpX_gb {n₀ g : Nat} {x : Nat → Prop} {A W W' : World} (h : KpX n₀ x A W) (hg : W.grownBy W' (some g)) (hs : n₀ ≤ W.heap.size) (hp : x g ∨ n₀ ≤ g) : KpX n₀ x A W' :=
  fun b hb hx => (hg.block b (by omega) (fun e => by cases e; exact hp.elim hx (fun h => by omega))).trans (h b hb hx)
theorem abides_drewN {β : Type} {B : Nat} {J : β → World → Prop} (h : AbidesFrom B J) {s : β} {W : World} (hs : J s W) (k : Nat) : J s (W.drewN k) :=
  h s W _ none hs (gb_drewN (gb_refl _ _) k) (fun r e => by cases e)
theorem cell_kpX {n₀ : Nat} {x : Nat → Prop} {W W' : World} (h : KpX n₀ x W W') {p : Addr} (hb : p.block < n₀) (hx : ¬ x p.block) : W'.cell? p = W.cell? p := World.cell?_of_block (h p.block hb hx)
/-- a boxed slice, appended to and stored back, its rows above all boxes -/
theorem boxed_appended {W w1 : World} {r0 B n0 : Nat} {t e : TypeId} {size : Nat} {v v' : Value} {k m : Nat} {xs ys : List Value} {tmp : Obj}
    (hv : Boxed W B t v) (hrow : W.ownsRow r0 e size v k xs) (hr0 : r0 ≤ W.heap.size) (hB : B < r0) (hn0 : n0 ≤ B)
    (hown' : w1.ownsRow r0 e size v' m ys) (hgrow : (W.alloc tmp).grownBy w1 v.ownBlock) :
    Boxed w1 B t v ∧ Boxed (w1.setCell ⟨B, 0, none⟩ v') B t v' ∧ (w1.setCell ⟨B, 0, none⟩ v').ownsRow r0 e size v' m ys ∧ KeepsOthers W (w1.setCell ⟨B, 0, none⟩ v') ∧
      (∀ b, b < r0 → b ≠ B → (w1.setCell ⟨B, 0, none⟩ v').heap[b]? = W.heap[b]?) ∧ Below n0 W (w1.setCell ⟨B, 0, none⟩ v') := by
  have hlt := hrow.lt
  have hne : some B ≠ v.ownBlock := fun h => by have := (hlt B h.symm).1; omega
  have hv1 : Boxed w1 B t v := (hv.alloc tmp).kept hgrow hne
  have hlt' := hown'.lt
  have hblk : ∀ b, b < r0 → b ≠ B → (w1.setCell ⟨B, 0, none⟩ v').heap[b]? = W.heap[b]? := fun b hb hbB => by
    rw [Below.heap_setCell w1 ⟨B, 0, none⟩ v' b hbB, hgrow.block b (by simp; omega) (fun h => by have := (hlt b h.symm).1; omega), Below.heap_alloc W tmp b (by omega)]
  refine ⟨hv1, hv1.set v', hown'.kept (grownBy_setCell' w1 B v') (.inr (fun h => by have := (hlt' B h).1; omega)), ?_, hblk, ?_⟩
  · refine ((KeepsOthers.alloc W tmp).trans (KeepsOthers.of_grownBy hgrow fun j o ej hj => ?_)).trans (KeepsOthers.setCell _ _ _)
    rcases (hrow.alloc tmp).2 with ⟨rfl, _⟩ | ⟨g, cap, cur, rfl, _, hgb, _⟩
    · simp [Value.ownBlock] at ej
    · obtain rfl : g = j := by simpa [Value.ownBlock] using ej
      rw [hgb] at hj; cases hj; rfl
  · exact (((Below.refl n0 W).alloc (by omega) tmp).grown hgrow (by simp; omega) fun j ej => by have := (hlt j ej).1; omega).setCell (p := ⟨B, 0, none⟩) hn0 v'

end Go.Proofs.Ytjpoebmjfedecaa

/-
  The map of the samples: rows to places.
-/
namespace Go.Proofs.Ytjpoebmjfedecaa
open Go.RowKit Go.Maps

def plL : List Value → Option (DataW Unit × List MemPlace)
  | [.int .i64 a, .int .i64 b] => some (.agg [.lit (.int .i64 a), .lit (.int .i64 b)], [])
  | _ => none
def plR : Value → Option (DataW Unit × List MemPlace)
  | .agg cs => plL cs.toList
  | _ => none
def plD (p : Nat × Nat) : DataW Unit := .agg [.lit (.int .i64 (p.1 : Int)), .lit (.int .i64 (p.2 : Int))]
theorem plR_some {v : Value} {z : DataW Unit × List MemPlace} (h : plR v = some z) : ∃ a b : Int, v = .agg #[.int .i64 a, .int .i64 b] ∧ z = (.agg [.lit (.int .i64 a), .lit (.int .i64 b)], []) := by
  unfold plR at h
  split at h
  · rename_i cs
    unfold plL at h
    split at h
    · rename_i a b hc
      refine ⟨a, b, ?_, (Option.some.inj h).symm⟩
      have : cs = #[.int .i64 a, .int .i64 b] := by rw [← Array.toArray_toList (xs := cs), hc]
      rw [this]
    · cases h
  · cases h
theorem keyI : Keyed Try.prog 3 := int_keyed Try.underlying3
theorem keyLitI (r : Int) : WideAt.IsKeyLit (.int .i64 r) := by first | trivial | simp [WideAt.IsKeyLit] | exact .inl ⟨_, _, rfl⟩
theorem plZero (w : World) : (zeroValue 84).run Try.prog w = .ok (.agg #[.int .i64 0, .int .i64 0]) w := by kernel_rfl
/-- block b is a map of at most n entries: f's -/
def PMap (W : World) (b n : Nat) (f : Int → Option (Nat × Nat)) : Prop := ∃ D : DataW Unit, W.ownsMap Try.prog 3 plR b n D ∧ IsMap D ∧
  ∀ r : Int, (Lit.int .i64 r).wf = true → match f r with
    | some p => Maps.has D (.int .i64 r) = true ∧ ∀ z, D.atKey (.int .i64 r) z = plD p
    | none => Maps.has D (.int .i64 r) = false
theorem PMap.made (w : World) : PMap (w.alloc (.map #[] 0)) w.heap.size 0 (fun _ => none) :=
  ⟨.map [], World.ownsMap_made w _ _ _, ⟨_, rfl⟩, fun r _ => rfl⟩
def updI (f : Int → Option (Nat × Nat)) (r : Int) (p : Nat × Nat) : Int → Option (Nat × Nat) := fun s => if s = r then some p else f s
theorem PMap.put {W : World} {b n : Nat} {f : Int → Option (Nat × Nat)} (h : PMap W b n f) (hn : n ≤ 1000000) (r : Int) (hr : (Lit.int .i64 r).wf = true) (p : Nat × Nat) :
    ∃ w', (Instr.mapUpdate 76 (.map (some b)) (.int .i64 r) (.agg #[.int .i64 (p.1 : Int), .int .i64 (p.2 : Int)])).run Try.prog W = .ok () w' ∧ PMap w' b (n + 1) (updI f r p) ∧ W.grownBy w' (some b) := by
  obtain ⟨D, hD, hm, hf⟩ := h
  obtain ⟨w', hrun, hown, hg⟩ := hD.update (t := 76) (e := 84) keyI Try.underlying76 (by unfold maxLen; omega) (key := .int .i64 r) (val := .agg #[.int .i64 (p.1 : Int), .int .i64 (p.2 : Int)]) (d := plD p) (ps := []) (keyOf_int_mk Try.underlying3 hr) rfl
  refine ⟨w', hrun, ⟨_, hown, ?_, fun s hs => ?_⟩, hg⟩
  · exact hm.put _ _
  · unfold updI
    by_cases e : s = r
    · subst e
      rw [if_pos rfl]
      exact ⟨has_put_same hm (keyLitI _) _, fun z => atKey_put_same hm (keyLitI _) _ z⟩
    · rw [if_neg e]
      have hne : (Lit.int .i64 s) ≠ (Lit.int .i64 r) := fun h => e (by injection h)
      have := hf s hs
      cases hfs : f s with
      | none => rw [hfs] at this; simpa [has_put_other hne] using this
      | some q =>
        rw [hfs] at this
        refine ⟨by rw [has_put_other hne]; exact this.1, fun z => by rw [atKey_put_other hne]; exact this.2 z⟩
theorem PMap.look {W : World} {b n : Nat} {f : Int → Option (Nat × Nat)} (h : PMap W b n f) (r : Int) (hr : (Lit.int .i64 r).wf = true) :
    ∃ x y : Int, (Instr.lookup 76 (.map (some b)) (.int .i64 r) true).run Try.prog W = .ok (.tuple #[.agg #[.int .i64 x, .int .i64 y], .bool (f r).isSome]) W ∧ ∀ p, f r = some p → x = (p.1 : Int) ∧ y = (p.2 : Int) := by
  obtain ⟨D, hD, hm, hf⟩ := h
  obtain ⟨v, ps, hrun, hv⟩ := hD.look_ok (t := 76) (e := 84) keyI Try.underlying76 (plZero W) (zd := plD (0, 0)) (zp := []) rfl (key := .int .i64 r) (keyOf_int_mk Try.underlying3 hr)
  obtain ⟨x, y, rfl, hz⟩ := plR_some hv
  have := hf r hr
  cases hfr : f r with
  | none =>
    rw [hfr] at this
    refine ⟨x, y, ?_, fun p hp => by cases hp⟩
    rw [hrun, this]; rfl
  | some p =>
    rw [hfr] at this
    rw [this.2] at hz
    have e : ((p.1 : Int) = x) ∧ ((p.2 : Int) = y) := by unfold plD at hz; simp at hz; exact hz.1
    refine ⟨x, y, ?_, fun q hq => by cases hq; exact ⟨e.1.symm, e.2.symm⟩⟩
    rw [hrun, this.1]; rfl
theorem PMap.kept {W W' : World} {b n : Nat} {f : Int → Option (Nat × Nat)} (h : PMap W b n f) (hb : W'.heap[b]? = W.heap[b]?) : PMap W' b n f := by
  obtain ⟨D, ⟨es, clock, h1, h2⟩, h3⟩ := h
  exact ⟨D, ⟨es, clock, hb.trans h1, h2⟩, h3⟩
end Go.Proofs.Ytjpoebmjfedecaa

/-
  append onto a row of the call's own, from whatever source; as an equation on the operation's run.
-/
namespace Go.Proofs.Ytjpoebmjfedecaa
open Go.RowKit

section
variable {P : Program} (w : World)

theorem run_append_nilsrc (base : Nat) (t ty e : TypeId) (i : TypeInfo) (ht : P.underlying t = some (.slice e)) (hi : P.info? e = some i)
    (v : Value) (n : Nat) (xs : List Value) (hown : w.ownsRow base e 1 v n xs) (c : Nat) : (Builtin.append_ #[t, t] ty #[v, .slice none 0 c]).run P w = .ok v w := by
  rcases hown.2 with ⟨rfl, rfl⟩ | ⟨g, cap, cur, rfl, _, _, hnc, _⟩
  · simp [Builtin.append_, run_underlying ht, sizeOf, typeInfo, hi, Builtin.lenOf, Builtin.firstCells]
  · simp [Builtin.append_, run_underlying ht, sizeOf, typeInfo, hi, Builtin.lenOf, Builtin.firstCells, hnc, storeCells]

/-- append(v, x...): v a row of the call's own, x whatever row is read -/
theorem run_append_row (base : Nat) (t ty e : TypeId) (i : TypeInfo) (z : Value) (bytes : Nat) (ht : P.underlying t = some (.slice e)) (hi : P.info? e = some i) (hz : i.zero = some z)
    (hsize : i.size = 1) (hby : i.bytes = bytes) (hzs : z.cells.size = 1)
    (v : Value) (n : Nat) (xs : List Value) (hown : w.ownsRow base e 1 v n xs)
    (A : Option Addr) (m c : Nat) (f : Nat → Value) (hr : Row w A m f) (h1 : ∀ k, k < m → (f k).oneCell' = true)
    (h63 : n + m ≤ maxLen) (hbytes : (n + m) * bytes ≤ 140737488355328) (hbase : base ≤ w.heap.size) :
    ∃ v' w', (Builtin.append_ #[t, t] ty #[v, .slice A m c]).run P w = .ok v' w' ∧ w'.ownsRow base e 1 v' (n + m) (xs ++ (List.range m).map f) ∧ w.grownBy w' v.ownBlock ∧
      (v'.ownBlock = v.ownBlock ∨ v'.ownBlock = some w.heap.size) := by
  cases A with
  | none =>
    have hm : m = 0 := by rcases hr.at_ with h | h; · exact h
                          · cases h
    subst hm
    refine ⟨v, w, run_append_nilsrc w base t ty e i ht hi v n xs hown c, by simpa using hown, gb_refl _ _, .inl rfl⟩
  | some ad =>
    obtain ⟨v', w', hrun, h2, h3, _, h5⟩ := run_append_own_at (P := P) w base t ty e i z 1 bytes ht hi hz hsize hby hzs (by omega) v n xs hown ad m c ((List.range m).map f) (by simp)
      (fun j u hu => by
        have hj : j < m := by
          rcases Nat.lt_or_ge j m with h | h
          · exact h
          · rw [List.getElem?_eq_none (by simpa using h)] at hu; cases hu
        rcases hr.at_ with h | h
        · omega
        · have hc := hr.cell j hj
          simp only [List.getElem?_map, List.getElem?_range hj, Option.map_some, Option.some.injEq] at hu
          subst hu
          have h' : ad = ⟨bOf (some ad), oOf (some ad), none⟩ := by injection h
          have e : ad.add j = ⟨bOf (some ad), oOf (some ad) + j, none⟩ := by
            conv => lhs; rw [h']
            exact Addr.add_lit _ _ _
          rw [e]
          exact hc)
      (fun u hu => by
        obtain ⟨k, hk, rfl⟩ := List.mem_map.1 hu
        exact h1 k (List.mem_range.1 hk)) h63 hbytes hbase
    exact ⟨v', w', hrun, h2, h3, h5⟩
end

/-- an append whose run is known, in a walk; the operation may be guarded -/
theorem wpList_append_run {P : Program} {w : World} {ops : Array Oper} {rest : List Oper} {o : Oper} {a : Act} {Q : Exit → Act → World → Prop} (hw : Region.wanted o (yielded ops a.tmps) = true) (s x : Operand) (t : TypeId)
    (ho : o.op = .call { callee := .builtin .append, args := #[s, x], argTypes := #[t, t] }) {v xv v' : Value} {w' : World} (hrun : (Builtin.append_ #[t, t] o.type #[v, xv]).run P w = .ok v' w')
    (hs : a.eval s = v) (hx : a.eval x = xv) (h : wpList P ops Q rest (a.put o.dst v') w') : wpList P ops Q (o :: rest) a w := by
  unfold wpList
  rw [if_pos hw]
  refine .inl ?_
  unfold Oper.wp execOp
  simp only [ho, resolve, invoke, builtin, Sem.run_bind, Sem.run_pure, Result.andThen_ok, List.map_toArray, List.map_cons, List.map_nil, hs, hx, hrun]
  exact h

theorem owns_below {w w' : World} {base n : Nat} {e : TypeId} {v : Value} {xs : List Value} (h : w.ownsRow base e 1 v n xs) (hb : Below w.heap.size w w') : w'.ownsRow base e 1 v n xs :=
  h.kept (gb_below hb none) (by cases hv : v.ownBlock <;> simp)
theorem owns_drewN {w : World} {base n : Nat} {e : TypeId} {v : Value} {xs : List Value} (h : w.ownsRow base e 1 v n xs) (k : Nat) : (w.drewN k).ownsRow base e 1 v n xs := h
theorem owns_lower {w : World} {base base' n : Nat} {e : TypeId} {v : Value} {xs : List Value} (h : w.ownsRow base e 1 v n xs) (hb : base' ≤ base) : w.ownsRow base' e 1 v n xs := by
  refine ⟨h.1, ?_⟩
  rcases h.2 with h2 | ⟨g, cap, cur, hv, hg, r⟩
  · exact .inl h2
  · exact .inr ⟨g, cap, cur, hv, Nat.le_trans hb hg, r⟩
theorem owns_row {w : World} {base n cap : Nat} {e : TypeId} {A : Option Addr} {xs : List Value} (h : w.ownsRow base e 1 (.slice A n cap) n xs) : Row w A n (fun k => xs.getD k undef) ∧ (n = 0 ∨ base ≤ bOf A) := by
  obtain ⟨a, cap', hv, _, hr, hlow, hA⟩ := Row.of_owns h
  cases hv
  exact ⟨hr, hlow⟩
/-- a store into a row of the call's own, by its slice -/
theorem owns_store {w : World} {base n cap : Nat} {e : TypeId} {A : Option Addr} {xs : List Value} (h : w.ownsRow base e 1 (.slice A n cap) n xs) (j : Nat) (hj : j < n) :
    w.cell? ⟨bOf A, oOf A + j, none⟩ = xs[j]? ∧ w.frozen? ⟨bOf A, oOf A + j, none⟩ = false ∧ (n = 0 ∨ A = some ⟨bOf A, oOf A, none⟩) ∧ base ≤ bOf A ∧
    ∀ u, (w.setCell ⟨bOf A, oOf A + j, none⟩ u).ownsRow base e 1 (.slice A n cap) n (xs.set j u) ∧ w.grownBy (w.setCell ⟨bOf A, oOf A + j, none⟩ u) (some (bOf A)) := by
  obtain ⟨a, cap', hv, _, hr, hlow, hA⟩ := Row.of_owns h
  injection hv with h1 h2 h3
  subst h1
  have hA' := hA (by omega)
  have ho : oOf A = 0 := by rw [hA']; rfl
  have hg := bOf A
  rw [ho, Nat.zero_add]
  generalize hgg : bOf A = g at *
  subst hA'
  exact ⟨h.cellAt j (by omega), h.frozenAt j, .inr rfl, by omega, fun u => h.stored j u⟩

/-- two slices of the call's own share no array -/
def Apart (u v : Value) : Prop := u.ownBlock = none ∨ v.ownBlock = none ∨ u.ownBlock ≠ v.ownBlock
theorem Apart.symm {u v : Value} (h : Apart u v) : Apart v u := by
  rcases h with h | h | h
  · exact .inr (.inl h)
  · exact .inl h
  · exact .inr (.inr (Ne.symm h))
theorem owns_two {W w1 : World} {base n : Nat} {e : TypeId} {u v v' : Value} {xs : List Value} {tmp : Obj} (hu : W.ownsRow base e 1 u n xs) (hap : Apart u v)
    (hgrow : (W.alloc tmp).grownBy w1 v.ownBlock) (hat : v'.ownBlock = v.ownBlock ∨ v'.ownBlock = some (W.alloc tmp).heap.size) : w1.ownsRow base e 1 u n xs ∧ Apart u v' := by
  refine ⟨(hu.alloc tmp).kept hgrow ?_, ?_⟩
  · rcases hap with h | h | h
    · exact .inl h
    · by_cases hn : u.ownBlock = none
      · exact .inl hn
      · exact .inr (by rw [h]; exact hn)
    · exact .inr h
  · rcases hat with h | h
    · unfold Apart; rw [h]; exact hap
    · cases hb : u.ownBlock with
      | none => exact .inl hb
      | some k =>
        have := (hu.lt k hb).2
        refine .inr (.inr ?_)
        rw [hb, h]
        simp
        omega

/-- a fresh empty row -/
theorem owns_empty (w : World) (base : Nat) (e : TypeId) (hb : base ≤ w.heap.size) : (w.alloc (.cells #[] e)).ownsRow base e 1 (.slice (some ⟨w.heap.size, 0, none⟩) 0 0) 0 [] :=
  World.ownsRow_made w #[] 0 hb (by simp [maxLen]) (by simp)
end Go.Proofs.Ytjpoebmjfedecaa

/-
  The contract of an iterator that lays blocks of its own and turns them (it may itself range over another iterator): the caller's words speak of the set X of the blocks that are the iterator's. The caller's law over it.
-/
namespace Go.Proofs.Ytjpoebmjfedecaa
open Go.RowKit

/-- no block but those of X is turned -/
structure StepX (X : Nat → Prop) (W W' : World) : Prop where
  os : W'.os = W.os
  tape : W'.tape = W.tape
  output : W'.output = W.output
  size : W.heap.size ≤ W'.heap.size
  block : ∀ b, b < W.heap.size → ¬ X b → W'.heap[b]? = W.heap[b]?
/-- all blocks of X are kept -/
structure KeepX (X : Nat → Prop) (W W' : World) : Prop where
  size : W.heap.size ≤ W'.heap.size
  block : ∀ b, b < W.heap.size → X b → W'.heap[b]? = W.heap[b]?

theorem StepX.refl (X : Nat → Prop) (W : World) : StepX X W W := ⟨rfl, rfl, rfl, Nat.le_refl _, fun _ _ _ => rfl⟩
theorem StepX.trans {X : Nat → Prop} {A B C : World} (h : StepX X A B) (k : StepX X B C) : StepX X A C :=
  ⟨k.os.trans h.os, k.tape.trans h.tape, k.output.trans h.output, Nat.le_trans h.size k.size, fun b hb hx => (k.block b (Nat.lt_of_lt_of_le hb h.size) hx).trans (h.block b hb hx)⟩
theorem StepX.mono {X Y : Nat → Prop} {A B : World} (h : StepX X A B) (hy : ∀ b, b < A.heap.size → X b → Y b) : StepX Y A B :=
  ⟨h.os, h.tape, h.output, h.size, fun b hb hn => h.block b hb (fun hx => hn (hy b hb hx))⟩
theorem StepX.of_below {X : Nat → Prop} {A B : World} (h : Below A.heap.size A B) : StepX X A B := ⟨h.os, h.tape, h.output, h.size, fun b hb _ => h.block b hb⟩
theorem StepX.drewN {X : Nat → Prop} {A B : World} (h : StepX X A B) (k : Nat) : StepX X A (B.drewN k) := ⟨h.os, h.tape, h.output, h.size, h.block⟩
theorem StepX.drew {X : Nat → Prop} {A B : World} (h : StepX X A B) : StepX X A B.drew := ⟨h.os, h.tape, h.output, h.size, h.block⟩
theorem StepX.alloc (X : Nat → Prop) (A : World) (o : Obj) : StepX X A (A.alloc o) := StepX.of_below ((Below.refl _ _).alloc (Nat.le_refl _) _)
theorem StepX.gb {X : Nat → Prop} {A B : World} {row : Option Nat} (h : A.grownBy B row) (hr : ∀ r, row = some r → r < A.heap.size → X r) : StepX X A B :=
  ⟨h.os, h.tape, h.output, h.size, fun b hb hn => h.block b hb (fun e => hn (hr b e.symm hb))⟩
theorem StepX.putObj {X : Nat → Prop} (A : World) (l : Nat) (o : Obj) (hl : X l) : StepX X A (A.putObj l o) := StepX.gb (grownBy_putObj' A l o) (fun r e _ => by cases e; exact hl)
theorem StepX.setCell {X : Nat → Prop} (A : World) (p : Addr) (v : Value) (hl : X p.block) : StepX X A (A.setCell p v) :=
  ⟨rfl, rfl, rfl, by simp [World.setCell], fun b _ hn => Below.heap_setCell A p v b (fun e => hn (by rw [e]; exact hl))⟩
theorem StepX.below {X : Nat → Prop} {A B : World} (h : StepX X A B) {n₀ : Nat} (hn : n₀ ≤ A.heap.size) (hx : ∀ b, X b → n₀ ≤ b) : Below n₀ A B :=
  ⟨h.os, h.tape, h.output, h.size, fun b hb => h.block b (by omega) (fun hX => by have := hx b hX; omega)⟩
theorem KeepX.refl (X : Nat → Prop) (W : World) : KeepX X W W := ⟨Nat.le_refl _, fun _ _ _ => rfl⟩
theorem KeepX.trans {X : Nat → Prop} {A B C : World} (h : KeepX X A B) (k : KeepX X B C) : KeepX X A C :=
  ⟨Nat.le_trans h.size k.size, fun b hb hx => (k.block b (Nat.lt_of_lt_of_le hb h.size) hx).trans (h.block b hb hx)⟩
theorem KeepX.of_below {X : Nat → Prop} {A B : World} (h : Below A.heap.size A B) : KeepX X A B := ⟨h.size, fun b hb _ => h.block b hb⟩
theorem KeepX.mono {X Y : Nat → Prop} {A B : World} (h : KeepX X A B) (hy : ∀ b, b < A.heap.size → Y b → X b) : KeepX Y A B := ⟨h.size, fun b hb h' => h.block b hb (hy b hb h')⟩
theorem KeepX.drewN {X : Nat → Prop} {A B : World} (h : KeepX X A B) (k : Nat) : KeepX X A (B.drewN k) := ⟨h.size, h.block⟩
theorem KeepX.gb {X : Nat → Prop} {A B : World} {row : Option Nat} (h : A.grownBy B row) (hr : ∀ r, row = some r → ¬ X r) : KeepX X A B :=
  ⟨h.size, fun b hb hx => h.block b hb (fun e => hr b e.symm hx)⟩
theorem KeepX.setCell {X : Nat → Prop} (A : World) (p : Addr) (v : Value) (hl : ¬ X p.block) : KeepX X A (A.setCell p v) :=
  ⟨by simp [World.setCell], fun b _ hx => Below.heap_setCell A p v b (fun e => hl (by rw [← e]; exact hx))⟩
theorem KeepX.putObj {X : Nat → Prop} (A : World) (l : Nat) (o : Obj) (hl : ¬ X l) : KeepX X A (A.putObj l o) := KeepX.gb (grownBy_putObj' A l o) (fun r e => by cases e; exact hl)

/-- what is said by a caller, of a set of the iterator's blocks, abides the turn of these -/
def Fr {β : Type} (J : (Nat → Prop) → β → World → Prop) : Prop :=
  ∀ (X X' : Nat → Prop) (s : β) (W W' : World), J X s W → StepX X W W' → (∀ b, X' b → X b ∨ (W.heap.size ≤ b ∧ b < W'.heap.size)) → J X' s W'
theorem Fr.step {β : Type} {J : (Nat → Prop) → β → World → Prop} (h : Fr J) {X : Nat → Prop} {s : β} {W W' : World} (hs : J X s W) (hst : StepX X W W') : J X s W' := h X X s W W' hs hst (fun _ hb => .inl hb)
theorem Fr.and {β : Type} {J J' : (Nat → Prop) → β → World → Prop} (h : Fr J) (h' : Fr J') : Fr (fun X s W => J X s W ∧ J' X s W) := fun X X' s W W' hs st hx => ⟨h X X' s W W' hs.1 st hx, h' X X' s W W' hs.2 st hx⟩
theorem Fr.pure {β : Type} (p : β → Prop) : Fr (fun _ (s : β) _ => p s) := fun _ _ _ _ _ hs _ _ => hs
theorem Fr.boxed {β : Type} (B : Nat) (t : TypeId) (f : β → Value) : Fr (fun X s W => Boxed W B t (f s) ∧ ¬ X B) := fun X X' s W W' hs st hx =>
  ⟨(st.block B hs.1.lt hs.2).trans hs.1, fun h => (hx B h).elim hs.2 (fun h => by have := hs.1.lt; omega)⟩
theorem ownsRow_stepX {X : Nat → Prop} {W W' : World} {base : Nat} {e : TypeId} {size : Nat} {v : Value} {k : Nat} {xs : List Value} (h : W.ownsRow base e size v k xs) (st : StepX X W W') (hx : ∀ g, v.ownBlock = some g → ¬ X g) : W'.ownsRow base e size v k xs := by
  refine ⟨h.1, ?_⟩
  rcases h.2 with hn | ⟨g, cap, cur, rfl, hb, hh, hr⟩
  · exact .inl hn
  · refine .inr ⟨g, cap, cur, rfl, hb, ?_, hr⟩
    exact (st.block g (Array.getElem?_eq_some_iff.1 hh).1 (hx g rfl)).trans hh
theorem Fr.row {β : Type} (B : Nat) (t : TypeId) (base : Nat) (e : TypeId) (size : Nat) (n : β → Nat) (xs : β → List Value) (p : β → Prop) :
    Fr (fun X s W => ∃ v, (Boxed W B t v ∧ ¬ X B) ∧ W.ownsRow base e size v (n s) (xs s) ∧ (∀ g, v.ownBlock = some g → ¬ X g) ∧ p s) := fun X X' s W W' ⟨v, hb, hr, hg, hp⟩ st hx =>
  ⟨v, Fr.boxed (β := Unit) B t (fun _ => v) X X' () W W' hb st hx, ownsRow_stepX hr st hg, fun g e h => by
    rcases hx g h with h | h
    · exact hg g e h
    · have := (hr.lt g e).2; omega, hp⟩
theorem Fr.below {β : Type} {n₀ : Nat} {w₀ : World} (hn : n₀ ≤ w₀.heap.size) : Fr (fun X (_ : β) W => Below n₀ w₀ W ∧ ∀ b, X b → n₀ ≤ b) := fun X X' s W W' hs st hx =>
  ⟨hs.1.trans (st.below (Nat.le_trans hn hs.1.size) hs.2), fun b h => (hx b h).elim (hs.2 b) (fun h => Nat.le_trans (Nat.le_trans hn hs.1.size) h.1)⟩
/-- the iterator's blocks lie in the heap -/
theorem Fr.bd {β : Type} : Fr (fun X (_ : β) W => ∀ b, X b → b < W.heap.size) := fun X X' s W W' hs st hx b h => (hx b h).elim (fun h => Nat.lt_of_lt_of_le (hs b h) st.size) (fun h => h.2)

def SeqG {α : Type} (F : Fence) (n : Nat) (P : Program) (g : Nat) (lb : Array Value) (encs : α → Array Value) (K : Nat → Prop) (S Sp : List α → Prop) (Ok : List α → α → Prop) (w : World) : Prop :=
  ∀ (l : Nat) (J Jx : (Nat → Prop) → List α → World → Prop) (W : World), Below w.heap.size w W → Fr J → Fr Jx →
    (∀ X pre x W1, J X pre W1 → Ok pre x → YieldAt F (n - 1) P l (encs x) W1 fun e W' =>
      KeepX X W1 W' ∧ KeepX K W1 W' ∧ ((e = .returned (.bool true) ∧ J X (pre ++ [x]) W') ∨ (e = .returned (.bool false) ∧ Jx X (pre ++ [x]) W'))) →
    J (fun _ => False) [] W →
    CallsIn F n P g (#[.func (.yield l) #[] #[]] ++ lb) W fun e W' => (∃ v, e = .returned v) ∧ ((∃ xs X, S xs ∧ J X xs W') ∨ (∃ pre X, Sp pre ∧ Jx X pre W'))
/-- a round is owed where so many have been told -/
def SeqX {α : Type} (F : Fence) (n : Nat) (P : Program) (g : Nat) (lb : Array Value) (encs : α → Array Value) (K : Nat → Prop) (S Sp : List α → Prop) (N : Nat) (w : World) : Prop := SeqG F n P g lb encs K S Sp (fun pre _ => pre.length < N) w

/-- how the body of a round may be left -/
def ownPostX {α : Type} (K : Nat → Prop) (I : (Nat → Prop) → List α → World → Prop) (Ix : Code → (Nat → Prop) → List α → World → Prop) (X : Nat → Prop) (xs : List α) (W : World) : Exit → Act → World → Prop
  | .normal, _, W' => KeepX X W W' ∧ KeepX K W W' ∧ I X xs W'
  | .ret, _, W' => KeepX X W W' ∧ KeepX K W W' ∧ Ix .ret X xs W'
  | .exit id, _, W' => KeepX X W W' ∧ KeepX K W W' ∧ Ix (.exit id) X xs W'
  | .goto t, _, W' => KeepX X W W' ∧ KeepX K W W' ∧ Ix (.goto t) X xs W'
  | .panic _, _, _ => False
  | .outgrown, _, _ => False

theorem wpIn_rangeFunc_G {F : Fence} {n : Nat} {P : Program} {α : Type} {g : Operand} {ps : Array Tmp} {assign body : Code} {Q : Exit → Act → World → Prop} {a : Act} {w : World}
    (hro : F.round = none) (h1 : 1 ≤ n) {gf : Nat} {lb : Array Value} (hg : a.eval g = .func (.func gf) #[] lb) (hFg : F.fn gf) (eg : ∀ args w, (callFunc gf args).run P w = .ok (.enter gf args) w)
    {encs : α → Array Value} {K : Nat → Prop} {S Sp : List α → Prop} {Ok : List α → α → Prop} {w0 : World} (hseq : SeqG F (n - 1) P gf lb encs K S Sp Ok w0) (hK : ∀ b, K b → b < w.heap.size) (hb0 : Below w0.heap.size w0 w) (hps : ∀ x, (encs x).size = ps.size)
    (I : (Nat → Prop) → List α → World → Prop) (Ix : Code → (Nat → Prop) → List α → World → Prop) (hI : Fr I) (hIx : ∀ c, Fr (Ix c)) (h0 : I (fun _ => False) [] w) (a₁ : α → Act)
    (hassign : ∀ (l : Nat) (x : α) (W : World) (G : Act → World → Prop), G (a₁ x) W →
      assign.wpIn (F.inRound l) (n - 1 - 1) P (Exit.then G (fun _ _ _ => False)) { tmps := (ps.zip (encs x)).foldl (fun t (p, v) => t.setIfInBounds p v) a.tmps, defers := [] } W)
    (hbody : ∀ (l : Nat) (X : Nat → Prop) (pre : List α) (x : α) (W : World), (∃ r, W.heap[l]? = some (.loop r)) → X l → I X pre W → Ok pre x → body.wpIn (F.inRound l) (n - 1 - 1) P (ownPostX K I Ix X (pre ++ [x]) W) (a₁ x) W)
    (hdone : ∀ (D : Nat) (X : Nat → Prop) (xs : List α) (W : World), w.heap.size ≤ D → X D → S xs → I X xs W → W.heap[D]? = some (.deferred (some [])) → Q .normal { a with defers := { target := .collected D, args := #[] } :: a.defers } W)
    (hstop : ∀ (D : Nat) (X : Nat → Prop) (c : Code) (pre : List α) (W : World), w.heap.size ≤ D → X D → Sp pre → Ix c X pre W → W.heap[D]? = some (.deferred (some [])) → c.wpIn F n P Q { a with defers := { target := .collected D, args := #[] } :: a.defers } W) :
    (Code.rangeFunc g ps assign body).wpIn F n P Q a w := by
  refine wpIn_rangeFunc ?_
  intro fn hfn
  rw [hro]
  obtain ⟨rec, hrec⟩ : ∃ rec : LoopState → Option Code → Loop, rec = fun st pe => { state := st, pending := pe, fn, tmps := a.tmps, params := ps, assign, body, defers := w.heap.size } := ⟨_, rfl⟩
  obtain ⟨W1, hW1⟩ : ∃ W1, (w.alloc (.deferred (some []))).alloc (.loop (rec .ready none)) = W1 := ⟨_, rfl⟩
  have hL1 : W1.heap[w.heap.size + 1]? = some (.loop (rec .ready none)) := by
    rw [← hW1]; have := World.alloc_heap_new (w.alloc (.deferred (some []))) (.loop (rec .ready none)); rwa [World.size_alloc] at this
  have hK1 : W1.heap[w.heap.size]? = some (.deferred (some [])) := by
    rw [← hW1]; exact (Below.heap_alloc _ _ _ (by simp)).trans (World.alloc_heap_new w _)
  have hbw : Below w.heap.size w W1 := by rw [← hW1]; exact (((Below.refl _ w).alloc (Nat.le_refl _) _).alloc (by simp) _)
  have hb1 : Below w0.heap.size w0 W1 := hb0.trans (hbw.mono hb0.size)
  -- the set of the iterator's blocks, and the two of the loop's book-keeping
  obtain ⟨up, hup⟩ : ∃ up : (Nat → Prop) → Nat → Prop, up = fun X b => X b ∨ b = w.heap.size ∨ b = w.heap.size + 1 := ⟨_, rfl⟩
  have hu1 : ∀ X, up X w.heap.size := fun X => by rw [hup]; exact .inr (.inl rfl)
  have hu2 : ∀ X, up X (w.heap.size + 1) := fun X => by rw [hup]; exact .inr (.inr rfl)
  have hu0 : ∀ X b, X b → up X b := fun X b h => by rw [hup]; exact .inl h
  have hI1 : I (up fun _ => False) [] W1 := hI _ _ _ _ _ h0 (StepX.of_below hbw) (fun b hb => by rw [hup] at hb; have := (Array.getElem?_eq_some_iff.1 hL1).1; rcases hb with h | h | h; exact h.elim; all_goals exact .inr (by omega))
  have hfr : ∀ {J : (Nat → Prop) → List α → World → Prop}, Fr J → ∀ {X X' : Nat → Prop} {s : List α} {A B : World}, J (up X) s A → StepX X A B → (∀ b, X' b → X b ∨ (A.heap.size ≤ b ∧ b < B.heap.size)) → J (up X') s B := fun {J} hJ {X X' s A B} hs st hx =>
    hJ _ _ _ _ _ hs (st.mono fun b _ h => hu0 X b h) (fun b hb => by
      rw [hup] at hb
      rcases hb with h | h | h
      · exact (hx b h).imp (hu0 X b) id
      · rw [h]; exact .inl (hu1 X)
      · rw [h]; exact .inl (hu2 X))
  have hbk : ∀ {X X' : Nat → Prop} {A B : World} {k : Nat} {o : Obj}, StepX X A B → (∀ b, X' b → X b ∨ (A.heap.size ≤ b ∧ b < B.heap.size)) → ¬ X k → A.heap[k]? = some o → B.heap[k]? = some o ∧ ¬ X' k := fun {X X' A B k o} st hx hn ho => by
    have hlt := (Array.getElem?_eq_some_iff.1 ho).1
    exact ⟨(st.block k hlt hn).trans ho, fun h => by rcases hx k h with h | h; exact hn h; omega⟩
  refine ⟨w.heap.size + 1, [{ target := .collected w.heap.size, args := #[] }], W1, { target := .fn (.func gf) lb, args := #[.func (.yield (w.heap.size + 1)) #[] #[]] }, W1, gf,
    #[.func (.yield (w.heap.size + 1)) #[] #[]] ++ lb, W1, ?_, ?_, ?_, ?_, fun _ => h1, ?_⟩
  · rw [← hW1, hrec]; exact run_enterLoop_outer _ _ _ _ _
  · simp only [resolve, hg]
    simp [go_sem]
  · intro f' hf'; simp [Target.leads] at hf'; subst hf'; exact hFg
  · simp [invoke, go_sem, eg]
  · refine (hseq (w.heap.size + 1)
      (fun X pre W => I (up X) pre W ∧ (W.heap[w.heap.size + 1]? = some (.loop (rec .ready none)) ∧ ¬ X (w.heap.size + 1)) ∧ (W.heap[w.heap.size]? = some (.deferred (some [])) ∧ ¬ X w.heap.size))
      (fun X pre W => ∃ c, Ix c (up X) pre W ∧ (W.heap[w.heap.size + 1]? = some (.loop (rec .done (some c))) ∧ ¬ X (w.heap.size + 1)) ∧ (W.heap[w.heap.size]? = some (.deferred (some [])) ∧ ¬ X w.heap.size))
      W1 hb1
      (fun X X' s A B hs st hx => ⟨hfr hI hs.1 st hx, hbk st hx hs.2.1.2 hs.2.1.1, hbk st hx hs.2.2.2 hs.2.2.1⟩)
      (fun X X' s A B hs st hx => by
        obtain ⟨c, hc, hl, hk⟩ := hs
        exact ⟨c, hfr (hIx c) hc st hx, hbk st hx hl.2 hl.1, hbk st hx hk.2 hk.1⟩)
      ?_ ⟨hI1, ⟨hL1, fun h => h⟩, ⟨hK1, fun h => h⟩⟩).mono ?_
    · -- one round
      rintro X pre x W ⟨hi, ⟨hl, nl⟩, ⟨hk, nk⟩⟩ hlen
      have hlt : w.heap.size + 1 < W.heap.size := (Array.getElem?_eq_some_iff.1 hl).1
      have hy := run_yield (P := P) (args := encs x) hl (by rw [hrec]; exact hps x)
      rw [hrec] at hy
      refine ⟨fn, _, assign, body, hy, roundIn_of_wpIn hfn (hassign _ x W _ ⟨_, run_beginRound hl (by rw [hrec]), ?_⟩)⟩
      have hl2 : (W.putObj (w.heap.size + 1) (.loop { rec .ready none with state := .busy })).heap[w.heap.size + 1]? = some (.loop { rec .ready none with state := .busy }) := World.putObj_heap_same hlt
      have hk2 : (W.putObj (w.heap.size + 1) (.loop { rec .ready none with state := .busy })).heap[w.heap.size]? = some (.deferred (some [])) := (World.putObj_heap_other (by omega)).trans hk
      have hx2 : KeepX X W (W.putObj (w.heap.size + 1) (.loop { rec .ready none with state := .busy })) := KeepX.putObj _ _ _ nl
      have hq2 : KeepX K W (W.putObj (w.heap.size + 1) (.loop { rec .ready none with state := .busy })) := KeepX.putObj _ _ _ (fun h => by have := hK _ h; omega)
      refine wpIn_mono (hbody _ (up X) pre x _ ⟨_, hl2⟩ (hu2 X) (hI.step hi (StepX.putObj _ _ _ (hu2 X))) hlen) ?_
      have fin : ∀ (jump : Option Code) (W3 : World), KeepX (up X) (W.putObj (w.heap.size + 1) (.loop { rec .ready none with state := .busy })) W3 → KeepX K (W.putObj (w.heap.size + 1) (.loop { rec .ready none with state := .busy })) W3 →
          (Instr.endRound (w.heap.size + 1) jump).run P W3 = .ok (.bool jump.isNone) (W3.putObj (w.heap.size + 1) (.loop (rec (if jump.isNone then .ready else .done) jump))) ∧
          (W3.putObj (w.heap.size + 1) (.loop (rec (if jump.isNone then .ready else .done) jump))).heap[w.heap.size + 1]? = some (.loop (rec (if jump.isNone then .ready else .done) jump)) ∧
          (W3.putObj (w.heap.size + 1) (.loop (rec (if jump.isNone then .ready else .done) jump))).heap[w.heap.size]? = some (.deferred (some [])) ∧
          KeepX X W (W3.putObj (w.heap.size + 1) (.loop (rec (if jump.isNone then .ready else .done) jump))) ∧ KeepX K W (W3.putObj (w.heap.size + 1) (.loop (rec (if jump.isNone then .ready else .done) jump))) := fun jump W3 hk3 hq3 => by
        have hl3 := (hk3.block _ (by simpa using hlt) (hu2 X)).trans hl2
        have hd3 := (hk3.block _ (by simp; omega) (hu1 X)).trans hk2
        have := run_endRound (P := P) jump hl3
        rw [hrec] at this ⊢
        exact ⟨this, World.putObj_heap_same (Array.getElem?_eq_some_iff.1 hl3).1, (World.putObj_heap_other (by omega)).trans hd3,
          (hx2.trans (hk3.mono fun b _ h => hu0 X b h)).trans (KeepX.putObj _ _ _ nl), (hq2.trans hq3).trans (KeepX.putObj _ _ _ (fun h => by have := hK _ h; omega))⟩
      rintro e a3 W3 hp
      cases e with
      | normal =>
        obtain ⟨hk3, hq3, hi3⟩ := hp
        obtain ⟨hr, hl4, hk4, hx4, hq4⟩ := fin none W3 hk3 hq3
        exact ⟨_, _, hr, hx4, hq4, .inl ⟨rfl, hI.step hi3 (StepX.putObj _ _ _ (hu2 X)), ⟨hl4, nl⟩, ⟨hk4, nk⟩⟩⟩
      | ret =>
        obtain ⟨hk3, hq3, hi3⟩ := hp
        obtain ⟨hr, hl4, hk4, hx4, hq4⟩ := fin (some .ret) W3 hk3 hq3
        exact ⟨_, _, hr, hx4, hq4, .inr ⟨rfl, .ret, (hIx _).step hi3 (StepX.putObj _ _ _ (hu2 X)), ⟨hl4, nl⟩, ⟨hk4, nk⟩⟩⟩
      | exit id =>
        obtain ⟨hk3, hq3, hi3⟩ := hp
        obtain ⟨hr, hl4, hk4, hx4, hq4⟩ := fin (some (.exit id)) W3 hk3 hq3
        exact ⟨_, _, hr, hx4, hq4, .inr ⟨rfl, .exit id, (hIx _).step hi3 (StepX.putObj _ _ _ (hu2 X)), ⟨hl4, nl⟩, ⟨hk4, nk⟩⟩⟩
      | goto t =>
        obtain ⟨hk3, hq3, hi3⟩ := hp
        obtain ⟨hr, hl4, hk4, hx4, hq4⟩ := fin (some (.goto t)) W3 hk3 hq3
        exact ⟨_, _, hr, hx4, hq4, .inr ⟨rfl, .goto t, (hIx _).step hi3 (StepX.putObj _ _ _ (hu2 X)), ⟨hl4, nl⟩, ⟨hk4, nk⟩⟩⟩
      | panic ch => exact hp.elim
      | outgrown => exact hp.elim
    · -- behind the iterator
      rintro e W2 ⟨⟨v, rfl⟩, (⟨xs, X, hS, hi, ⟨hl, _⟩, ⟨hk, _⟩⟩ | ⟨pre, X, hSp, c, hi, ⟨hl, _⟩, ⟨hk, _⟩⟩)⟩
      · exact ⟨none, _, by have := run_endLoop (P := P) hl (by rw [hrec]; simp); rw [hrec] at this; exact this, hdone _ (up X) xs _ (Nat.le_refl _) (hu1 X) hS (hI.step hi (StepX.putObj _ _ _ (hu2 X))) ((World.putObj_heap_other (by omega)).trans hk)⟩
      · exact ⟨some c, _, by have := run_endLoop (P := P) hl (by rw [hrec]; simp); rw [hrec] at this; exact this, hstop _ (up X) c pre _ (Nat.le_refl _) (hu1 X) hSp ((hIx c).step hi (StepX.putObj _ _ _ (hu2 X))) ((World.putObj_heap_other (by omega)).trans hk)⟩
theorem wpIn_rangeFunc_X {F : Fence} {n : Nat} {P : Program} {α : Type} {g : Operand} {ps : Array Tmp} {assign body : Code} {Q : Exit → Act → World → Prop} {a : Act} {w : World}
    (hro : F.round = none) (h1 : 1 ≤ n) {gf : Nat} {lb : Array Value} (hg : a.eval g = .func (.func gf) #[] lb) (hFg : F.fn gf) (eg : ∀ args w, (callFunc gf args).run P w = .ok (.enter gf args) w)
    {encs : α → Array Value} {K : Nat → Prop} {S Sp : List α → Prop} {N : Nat} {w0 : World} (hseq : SeqX F (n - 1) P gf lb encs K S Sp N w0) (hK : ∀ b, K b → b < w.heap.size) (hb0 : Below w0.heap.size w0 w) (hps : ∀ x, (encs x).size = ps.size)
    (I : (Nat → Prop) → List α → World → Prop) (Ix : Code → (Nat → Prop) → List α → World → Prop) (hI : Fr I) (hIx : ∀ c, Fr (Ix c)) (h0 : I (fun _ => False) [] w) (a₁ : α → Act)
    (hassign : ∀ (l : Nat) (x : α) (W : World) (G : Act → World → Prop), G (a₁ x) W →
      assign.wpIn (F.inRound l) (n - 1 - 1) P (Exit.then G (fun _ _ _ => False)) { tmps := (ps.zip (encs x)).foldl (fun t (p, v) => t.setIfInBounds p v) a.tmps, defers := [] } W)
    (hbody : ∀ (l : Nat) (X : Nat → Prop) (pre : List α) (x : α) (W : World), (∃ r, W.heap[l]? = some (.loop r)) → X l → I X pre W → pre.length < N → body.wpIn (F.inRound l) (n - 1 - 1) P (ownPostX K I Ix X (pre ++ [x]) W) (a₁ x) W)
    (hdone : ∀ (D : Nat) (X : Nat → Prop) (xs : List α) (W : World), w.heap.size ≤ D → X D → S xs → I X xs W → W.heap[D]? = some (.deferred (some [])) → Q .normal { a with defers := { target := .collected D, args := #[] } :: a.defers } W)
    (hstop : ∀ (D : Nat) (X : Nat → Prop) (c : Code) (pre : List α) (W : World), w.heap.size ≤ D → X D → Sp pre → Ix c X pre W → W.heap[D]? = some (.deferred (some [])) → c.wpIn F n P Q { a with defers := { target := .collected D, args := #[] } :: a.defers } W) :
    (Code.rangeFunc g ps assign body).wpIn F n P Q a w :=
  wpIn_rangeFunc_G hro h1 hg hFg eg hseq hK hb0 hps I Ix hI hIx h0 a₁ hassign hbody hdone hstop
/-- a boxed slice, appended to and stored back, within a round of an iterator whose blocks are X -/
theorem boxed_appX {X : Nat → Prop} {W w1 : World} {r0 B : Nat} {t e : TypeId} {size : Nat} {v v' : Value} {k m : Nat} {xs ys : List Value} {tmp : Obj}
    (hv : Boxed W B t v ∧ ¬ X B) (hrow : W.ownsRow r0 e size v k xs) (hg : ∀ g, v.ownBlock = some g → ¬ X g) (hbd : ∀ b, X b → b < W.heap.size) (hr0 : r0 ≤ W.heap.size) (hB : B < r0)
    (hown' : w1.ownsRow r0 e size v' m ys) (hgrow : (W.alloc tmp).grownBy w1 v.ownBlock) (hat : v'.ownBlock = v.ownBlock ∨ v'.ownBlock = some (W.alloc tmp).heap.size) :
    Boxed w1 B t v ∧ (Boxed (w1.setCell ⟨B, 0, none⟩ v') B t v' ∧ ¬ X B) ∧ (w1.setCell ⟨B, 0, none⟩ v').ownsRow r0 e size v' m ys ∧ (∀ g, v'.ownBlock = some g → ¬ X g) ∧ KeepX X W (w1.setCell ⟨B, 0, none⟩ v') ∧
      (∀ b, b < r0 → b ≠ B → (w1.setCell ⟨B, 0, none⟩ v').heap[b]? = W.heap[b]?) ∧ (∀ n0, n0 ≤ B → Below n0 W (w1.setCell ⟨B, 0, none⟩ v')) ∧ W.heap.size ≤ (w1.setCell ⟨B, 0, none⟩ v').heap.size := by
  have hlt := hrow.lt
  have hlt' := hown'.lt
  have hsz : W.heap.size + 1 ≤ w1.heap.size := by have := hgrow.size; rw [World.size_alloc] at this; exact this
  have hsz2 : (w1.setCell ⟨B, 0, none⟩ v').heap.size = w1.heap.size := by simp [World.setCell]
  have hne : some B ≠ v.ownBlock := fun h => by have := (hlt B h.symm).1; omega
  have hv1 : Boxed w1 B t v := (hv.1.alloc tmp).kept hgrow hne
  have hblk : ∀ b, b < W.heap.size → b ≠ B → some b ≠ v.ownBlock → (w1.setCell ⟨B, 0, none⟩ v').heap[b]? = W.heap[b]? := fun b hb hbB hbo => by
    rw [Below.heap_setCell w1 ⟨B, 0, none⟩ v' b hbB, hgrow.block b (by rw [World.size_alloc]; omega) hbo, Below.heap_alloc W tmp b hb]
  have hlow : ∀ b, b < r0 → some b ≠ v.ownBlock := fun b hb h => by have := (hlt b h.symm).1; omega
  refine ⟨hv1, ⟨hv1.set v', hv.2⟩, hown'.kept (grownBy_setCell' w1 B v') (.inr (fun h => by have := (hlt' B h).1; omega)), fun g hg' => ?_, ⟨by omega, fun b hb hx => ?_⟩, fun b hb hbB => hblk b (by omega) hbB (hlow b hb), fun n0 hn0 => ⟨hgrow.os, hgrow.tape, hgrow.output, by omega, fun b hb => hblk b (by omega) (by omega) (hlow b (by omega))⟩, by omega⟩
  · rcases hat with h | h
    · rw [h] at hg'; exact hg g hg'
    · rw [h] at hg'
      have := Option.some.inj hg'
      rw [World.size_alloc] at this
      exact fun hx => by have := hbd g hx; omega
  · exact hblk b hb (fun e => hv.2 (by rw [← e]; exact hx)) (fun e => hg b e.symm hx)
theorem roundIn_wide {m n : Nat} {P : Program} {l l0 : Nat} {f : FuncId} {tmps : Array Value} {assign body : Code} {w : World} {R : Ending → World → Prop} (h : RoundIn Fence.wide n P l f tmps assign body w R) : RoundIn (Fence.wide.inRound l0) m P l f tmps assign body w R :=
  ⟨h.1, fun c cs _ => h.2 c cs (fun d hd => by cases hd)⟩
theorem roundIn_any {m n : Nat} {P : Program} {l : Nat} {f : FuncId} {tmps : Array Value} {assign body : Code} {w : World} {R : Ending → World → Prop} (h : RoundIn Fence.wide n P l f tmps assign body w R) : RoundIn Fence.wide m P l f tmps assign body w R :=
  ⟨h.1, fun c cs _ => h.2 c cs (fun d hd => by cases hd)⟩
/-- the caller's word, of a set that grows by the iterator's -/
theorem Fr.or {β γ : Type} {J : (Nat → Prop) → β → World → Prop} (h : Fr J) (X1 : Nat → Prop) (f : γ → β) : Fr (fun Xi (s : γ) W => J (fun b => X1 b ∨ Xi b) (f s) W) := fun X X' s W W' hs st hx =>
  h _ _ _ _ _ hs (st.mono fun b _ hb => .inr hb) (fun b hb => by
    rcases hb with hb | hb
    · exact .inl (.inl hb)
    · exact (hx b hb).imp .inr id)
/-- what lay when the iterator began, and is none of its blocks, abides -/
theorem Fr.keep {β : Type} (Y : Nat → Prop) (w₀ : World) : Fr (fun X (_ : β) W => KeepX Y w₀ W ∧ ∀ b, X b → w₀.heap.size ≤ b) := fun X X' s W W' hs st hx =>
  ⟨⟨Nat.le_trans hs.1.size st.size, fun b hb hy => (st.block b (Nat.lt_of_lt_of_le hb hs.1.size) (fun h => by have := hs.2 b h; omega)).trans (hs.1.block b hb hy)⟩,
   fun b h => (hx b h).elim (fun h => hs.2 b h) (fun h => Nat.le_trans hs.1.size h.1)⟩
/-- the marks of loops that are through are taken in -/
theorem leaves_marks {F : Fence} {n : Nat} {P : Program} {fn : Func} {tmps : Array Value} {R : Ending → World → Prop} (X : Nat → Prop) (G : World → Prop) (hG : ∀ W W', G W → StepX X W W' → G W')
    (hend : ∀ W, G W → LeavesInM F n P fn tmps R [] .returning W) : ∀ (Ms : List Nat) (W : World), Ms.Nodup → (∀ D ∈ Ms, X D ∧ W.heap[D]? = some (.deferred (some []))) → G W →
    LeavesInM F n P fn tmps R (Ms.map fun D => ({ target := .collected D, args := #[] } : Deferred)) .returning W
  | [], W, _, _, hg => hend W hg
  | D :: Ms, W, hn, hd, hg => by
    obtain ⟨hx, hk⟩ := hd D (by simp)
    obtain ⟨hn1, hn2⟩ := List.nodup_cons.1 hn
    refine ⟨by simp, .inl ⟨D, _, rfl, run_takeDeferred hk, ?_⟩⟩
    refine leaves_marks X G hG hend Ms _ hn2 (fun E hE => ⟨(hd E (by simp [hE])).1, ?_⟩) (hG _ _ hg (StepX.putObj _ _ _ hx))
    exact (World.putObj_heap_other (fun e => hn1 (by rw [← e]; exact hE))).trans (hd E (by simp [hE])).2
abbrev mkD (D : Nat) : Deferred := { target := .collected D, args := #[] }
end Go.Proofs.Ytjpoebmjfedecaa

/-
  A block whose cells are slices of the call's own, each over an array of its own; one of them is appended to and stored back.
-/
namespace Go.Proofs.Ytjpoebmjfedecaa
open Go.RowKit

def upd {α : Type} (f : Nat → α) (j : Nat) (x : α) : Nat → α := fun i => if i = j then x else f i
theorem upd_self {α : Type} (f : Nat → α) (j : Nat) (x : α) : upd f j x j = x := by unfold upd; rw [if_pos rfl]
theorem upd_ne {α : Type} (f : Nat → α) (j : Nat) (x : α) {i : Nat} (h : i ≠ j) : upd f j x i = f i := by unfold upd; rw [if_neg h]

structure Fam (w : World) (base bt : Nat) (T : TypeId) (m : Nat) (E : Nat → TypeId) (V : Nat → Value) (X : Nat → List Value) (K : Nat → Prop) : Prop where
  cells : w.rowIs bt T m V
  own : ∀ j, j < m → w.ownsRow base (E j) 1 (V j) (X j).length (X j)
  apart : ∀ i j, i < m → j < m → i ≠ j → Apart (V i) (V j)
  safe : ∀ j, j < m → (V j).ownBlock ≠ some bt
  keep : ∀ b, K b → b < w.heap.size ∧ b ≠ bt ∧ ∀ j, j < m → (V j).ownBlock ≠ some b
  low : base ≤ w.heap.size

theorem Fam.kept {w w' : World} {base bt : Nat} {T : TypeId} {m : Nat} {E : Nat → TypeId} {V : Nat → Value} {X : Nat → List Value} {K : Nat → Prop} (h : Fam w base bt T m E V X K) (hb : Below w.heap.size w w') : Fam w' base bt T m E V X K :=
  ⟨row_below h.cells hb h.cells.lt, fun j hj => owns_below (h.own j hj) hb, h.apart, h.safe, fun b hb' => ⟨Nat.lt_of_lt_of_le (h.keep b hb').1 hb.size, (h.keep b hb').2⟩, Nat.le_trans h.low hb.size⟩
theorem Fam.drewN {w : World} {base bt : Nat} {T : TypeId} {m : Nat} {E : Nat → TypeId} {V : Nat → Value} {X : Nat → List Value} {K : Nat → Prop} (h : Fam w base bt T m E V X K) (n : Nat) : Fam (w.drewN n) base bt T m E V X K :=
  ⟨h.cells, h.own, h.apart, h.safe, h.keep, h.low⟩
theorem Fam.drew {w : World} {base bt : Nat} {T : TypeId} {m : Nat} {E : Nat → TypeId} {V : Nat → Value} {X : Nat → List Value} {K : Nat → Prop} (h : Fam w base bt T m E V X K) : Fam w.drew base bt T m E V X K :=
  ⟨h.cells, h.own, h.apart, h.safe, h.keep, h.low⟩
/-- a block more that is to be kept: new since a world in which the family stood -/
theorem Fam.more {w w' : World} {base bt : Nat} {T : TypeId} {m : Nat} {E : Nat → TypeId} {V : Nat → Value} {X : Nat → List Value} {K : Nat → Prop} (h : Fam w base bt T m E V X K) (hb : Below w.heap.size w w') (g : Nat) (h1 : w.heap.size ≤ g) (h2 : g < w'.heap.size) :
    Fam w' base bt T m E V X (fun b => K b ∨ b = g) := by
  have h' := h.kept hb
  refine ⟨h'.cells, h'.own, h'.apart, h'.safe, fun b hk => ?_, h'.low⟩
  rcases hk with hk | hk
  · exact h'.keep b hk
  · subst hk
    have := h.cells.lt
    refine ⟨h2, by omega, fun j hj e => ?_⟩
    have := ((h.own j hj).lt _ e).2
    omega
theorem Fam.fewer {w : World} {base bt : Nat} {T : TypeId} {m : Nat} {E : Nat → TypeId} {V : Nat → Value} {X : Nat → List Value} {K K' : Nat → Prop} (h : Fam w base bt T m E V X K) (hk : ∀ b, K' b → K b) : Fam w base bt T m E V X K' :=
  ⟨h.cells, h.own, h.apart, h.safe, fun b hb => h.keep b (hk b hb), h.low⟩

/-- between the append and the store -/
theorem Fam.mid {w w1 : World} {base bt : Nat} {T : TypeId} {m : Nat} {E : Nat → TypeId} {V : Nat → Value} {X : Nat → List Value} {K : Nat → Prop} (h : Fam w base bt T m E V X K) (j : Nat) (hj : j < m) {tmp : Obj}
    (hgrow : (w.alloc tmp).grownBy w1 (V j).ownBlock) : w1.rowIs bt T m V :=
  (h.cells.alloc tmp).of_block (hgrow.block bt (by rw [World.size_alloc]; have := h.cells.lt; omega) (fun e => h.safe j hj e.symm))
theorem Fam.app {w w1 : World} {base bt : Nat} {T : TypeId} {m : Nat} {E : Nat → TypeId} {V : Nat → Value} {X : Nat → List Value} {K : Nat → Prop} (h : Fam w base bt T m E V X K) (j : Nat) (hj : j < m) {tmp : Obj} {v' : Value} {n : Nat} {Y : List Value}
    (hown : w1.ownsRow base (E j) 1 v' n Y) (hn : n = Y.length) (hgrow : (w.alloc tmp).grownBy w1 (V j).ownBlock) (hat : v'.ownBlock = (V j).ownBlock ∨ v'.ownBlock = some (w.alloc tmp).heap.size) :
    Fam (w1.setCell ⟨bt, j, none⟩ v') base bt T m E (upd V j v') (upd X j Y) K ∧
    (∀ b, b < w.heap.size → b ≠ bt → (V j).ownBlock ≠ some b → (w1.setCell ⟨bt, j, none⟩ v').heap[b]? = w.heap[b]?) ∧
    (∀ B, B ≤ base → B ≤ bt → Below B w (w1.setCell ⟨bt, j, none⟩ v')) := by
  subst hn
  have hlt := (h.own j hj).lt
  have hbt := h.cells.lt
  have hsz : w.heap.size + 1 ≤ w1.heap.size := by have := hgrow.size; rw [World.size_alloc] at this; exact this
  have hsz2 : (w1.setCell ⟨bt, j, none⟩ v').heap.size = w1.heap.size := by simp [World.setCell]
  have blk : ∀ b, b < w.heap.size → b ≠ bt → (V j).ownBlock ≠ some b → (w1.setCell ⟨bt, j, none⟩ v').heap[b]? = w.heap[b]? := fun b hb hbt hne => by
    rw [Below.heap_setCell w1 ⟨bt, j, none⟩ v' b (by simpa using hbt), hgrow.block b (by rw [World.size_alloc]; omega) (fun e => hne e.symm), Below.heap_alloc w tmp b hb]
  have hbt1 : w1.heap[bt]? = w.heap[bt]? := by
    rw [hgrow.block bt (by rw [World.size_alloc]; omega) (fun e => h.safe j hj e.symm), Below.heap_alloc w tmp bt hbt]
  have hv' : v'.ownBlock ≠ some bt := by
    rcases hat with e | e
    · rw [e]; exact h.safe j hj
    · rw [e, World.size_alloc]; intro e2; injection e2; omega
  refine ⟨⟨?_, fun i hi => ?_, fun i k hi hk hik => ?_, fun i hi => ?_, fun b hb => ?_, ?_⟩, blk, fun B hB1 hB2 => ?_⟩
  · exact (h.cells.of_block hbt1).set j v'
  · by_cases e : i = j
    · subst e
      rw [upd_self, upd_self]
      exact hown.kept (grownBy_setCell' w1 bt v' |> fun g => (show w1.grownBy (w1.setCell ⟨bt, i, none⟩ v') (some bt) from gb_set (gb_refl _ _) i v')) (.inr (fun e => hv' e))
    · rw [upd_ne _ _ _ e, upd_ne _ _ _ e]
      have h2 := (owns_two (h.own i hi) (h.apart i j hi hj e) hgrow hat).1
      exact h2.kept (show w1.grownBy (w1.setCell ⟨bt, j, none⟩ v') (some bt) from gb_set (gb_refl _ _) j v') (.inr (h.safe i hi))
  · by_cases e : i = j
    · subst e
      rw [upd_self, upd_ne _ _ _ (Ne.symm hik)]
      exact (owns_two (h.own k hk) (h.apart k i hk hj (Ne.symm hik)) hgrow hat).2.symm
    · rw [upd_ne _ _ _ e]
      by_cases e2 : k = j
      · subst e2
        rw [upd_self]
        exact (owns_two (h.own i hi) (h.apart i k hi hj hik) hgrow hat).2
      · rw [upd_ne _ _ _ e2]; exact h.apart i k hi hk hik
  · by_cases e : i = j
    · subst e; rw [upd_self]; exact hv'
    · rw [upd_ne _ _ _ e]; exact h.safe i hi
  · obtain ⟨k1, k2, k3⟩ := h.keep b hb
    refine ⟨by rw [hsz2]; omega, k2, fun i hi => ?_⟩
    by_cases e : i = j
    · subst e
      rw [upd_self]
      rcases hat with e | e
      · rw [e]; exact k3 i hi
      · rw [e, World.size_alloc]; intro e2; injection e2; omega
    · rw [upd_ne _ _ _ e]; exact k3 i hi
  · rw [hsz2]; have := h.low; omega
  · exact ((((Below.refl B w).alloc (by have := h.low; omega) tmp).grown hgrow (by rw [World.size_alloc]; have := h.low; omega) (fun g hg => by have := (hlt g hg).1; omega))).setCell (p := ⟨bt, j, none⟩) hB2 v'
end Go.Proofs.Ytjpoebmjfedecaa

/-
  Arguments opened to rows: what a slice that came in holds, nil or not.
-/
namespace Go.Proofs.Ytjpoebmjfedecaa
open Go.ChangeShapes Go.WideShapes Go.ChangeAt Go.RowKit Go.Deep

section
variable {H : Type} {enc : TypeId × Value → H} {P : Program} {w : World} {base : Nat} {held : Bool}

theorem row_of_cells {a : Addr} {len : Nat} {V : Nat → Value} (h : ∀ i, i < len → w.cell? (a.add i) = some (V i)) : Row w (some a) len V := by
  rcases Nat.eq_zero_or_pos len with e | e
  · subst e; exact Row.nil _ _ _
  · obtain ⟨b, off, spot⟩ := a
    have hc := h 0 e
    have hspot : spot = none := by simpa [Addr.add] using World.cell?_spot hc
    subst hspot
    exact ⟨.inr rfl, fun k hk => by have := h k hk; rw [Addr.add_lit] at this; exact this⟩

theorem open_boolRow {t e : TypeId} {r : Reach} {b0 : Nat} {v : Value} {d : DataW H} {p : List MemPlace} (ht : P.underlying t = some (.slice e)) (he : P.underlying e = some .bool) (hc : P.cellsOf e = 1)
    (hv : Value.okWide P w r b0 t v) (h : DataW.Trod enc P w base (fun _ => true) held t v d p) :
    ∃ (a : Option Addr) (len cap : Nat) (f : Nat → Bool), v = .slice a len cap ∧ len ≤ maxLen ∧ Row w a len (fun k => .bool (f k)) := by
  obtain ⟨a0, len, cap, rfl⟩ := okWide_slice ht hv
  obtain ⟨fuel, hf⟩ := h
  rcases open_bools ht he hc hf with ⟨hcs, _⟩ | ⟨a, l, c, B, hcs, _, hl, hm, _, hcell⟩
  · simp [Value.cells] at hcs
    obtain ⟨rfl, rfl, rfl⟩ := hcs
    exact ⟨none, 0, 0, fun _ => false, rfl, Nat.zero_le _, Row.nil _ _ _⟩
  · simp [Value.cells] at hcs
    obtain ⟨rfl, rfl, rfl⟩ := hcs
    exact ⟨some a, len, cap, B, rfl, Nat.le_trans hl hm, row_of_cells fun i hi => hcell i (by omega)⟩

theorem open_intRow {t e : TypeId} {kd : IntKind} {r : Reach} {b0 : Nat} {v : Value} {d : DataW H} {p : List MemPlace} (ht : P.underlying t = some (.slice e)) (he : P.underlying e = some (.int kd)) (hc : P.cellsOf e = 1)
    (hv : Value.okWide P w r b0 t v) (h : DataW.Trod enc P w base (fun _ => true) held t v d p) :
    ∃ (a : Option Addr) (len cap : Nat) (f : Nat → Int), v = .slice a len cap ∧ len ≤ maxLen ∧ Row w a len (fun k => .int kd (f k)) ∧ ∀ k, k < len → (Lit.int kd (f k)).wf = true := by
  obtain ⟨a0, len, cap, rfl⟩ := okWide_slice ht hv
  obtain ⟨fuel, hf⟩ := h
  rcases open_ints ht he hc hf with ⟨hcs, _⟩ | ⟨a, l, c, zs, hcs, _, hl, hm, hz, _, hcell, hwz⟩
  · simp [Value.cells] at hcs
    obtain ⟨rfl, rfl, rfl⟩ := hcs
    exact ⟨none, 0, 0, fun _ => 0, rfl, Nat.zero_le _, Row.nil _ _ _, fun k hk => by omega⟩
  · simp [Value.cells] at hcs
    obtain ⟨rfl, rfl, rfl⟩ := hcs
    have hz' : zs.length = cap := by simpa using hz
    refine ⟨some a, len, cap, fun k => zs.getD k 0, rfl, Nat.le_trans hl hm, row_of_cells fun i hi => hcell i (by omega), fun k hk => hwz _ ?_⟩
    show zs.getD k 0 ∈ zs
    rw [List.getD_eq_getElem?_getD, List.getElem?_eq_getElem (by omega)]
    exact List.getElem_mem _
end
end Go.Proofs.Ytjpoebmjfedecaa

/-
  Rows of two-cell structs (hits): read, cut, appended to.
-/
namespace Go.Proofs.Ytjpoebmjfedecaa
open Go.RowKit

def hitVs (l : List (Nat × Nat)) : List Value := l.flatMap fun p => [.int .i64 (p.1 : Int), .int .i64 (p.2 : Int)]
theorem hitVs_cons (p : Nat × Nat) (l : List (Nat × Nat)) : hitVs (p :: l) = .int .i64 (p.1 : Int) :: .int .i64 (p.2 : Int) :: hitVs l := rfl
theorem hitVs_nil : hitVs [] = [] := rfl
theorem hitVs_append (a b : List (Nat × Nat)) : hitVs (a ++ b) = hitVs a ++ hitVs b := by unfold hitVs; exact List.flatMap_append
theorem hitVs_len (l : List (Nat × Nat)) : (hitVs l).length = l.length * 2 := by
  induction l with
  | nil => rfl
  | cons p l ih => rw [hitVs_cons, List.length_cons, List.length_cons, ih, List.length_cons]; omega
theorem hitVs_at (l : List (Nat × Nat)) : ∀ k, k < l.length → (hitVs l)[2 * k]? = some (.int .i64 ((l.getD k (0, 0)).1 : Int)) ∧ (hitVs l)[2 * k + 1]? = some (.int .i64 ((l.getD k (0, 0)).2 : Int)) := by
  induction l with
  | nil => intro k hk; simp at hk
  | cons p l ih =>
    intro k hk
    rw [hitVs_cons]
    cases k with
    | zero => exact ⟨rfl, rfl⟩
    | succ k =>
      have h := ih k (by simpa using hk)
      rw [show 2 * (k + 1) = 2 * k + 1 + 1 by omega]
      simpa using h
theorem hitVs_drop (l : List (Nat × Nat)) : ∀ k, (hitVs l).drop (2 * k) = hitVs (l.drop k) := by
  induction l with
  | nil => intro k; simp [hitVs]
  | cons p l ih =>
    intro k
    cases k with
    | zero => rfl
    | succ k => rw [hitVs_cons, show 2 * (k + 1) = 2 * k + 1 + 1 by omega, List.drop_succ_cons, List.drop_succ_cons, ih k, List.drop_succ_cons]
theorem hitVs_one (l : List (Nat × Nat)) : ∀ u ∈ hitVs l, u.oneCell' = true := by
  intro u hu
  obtain ⟨p, _, hp⟩ := List.mem_flatMap.1 hu
  simp at hp
  rcases hp with rfl | rfl <;> rfl
structure HRow (w : World) (a : Option Addr) (l : List (Nat × Nat)) : Prop where
  row : Row w a (2 * l.length) (fun j => (hitVs l).getD j undef)
theorem HRow.kept {w w' : World} {a : Option Addr} {l : List (Nat × Nat)} (h : HRow w a l) (hb : Below w.heap.size w w') : HRow w' a l := ⟨h.row.kept hb⟩
theorem HRow.drewN {w : World} {a : Option Addr} {l : List (Nat × Nat)} (h : HRow w a l) (k : Nat) : HRow (w.drewN k) a l := ⟨h.row.drewN k⟩
theorem HRow.drew {w : World} {a : Option Addr} {l : List (Nat × Nat)} (h : HRow w a l) : HRow w.drew a l := ⟨h.row.drew⟩
theorem HRow.nil (w : World) (a : Option Addr) : HRow w a [] := ⟨Row.nil _ _ _⟩
theorem HRow.c0 {w : World} {a : Option Addr} {l : List (Nat × Nat)} (h : HRow w a l) (k : Nat) (hk : k < l.length) : w.cell? ⟨bOf a, oOf a + 2 * k, none⟩ = some (.int .i64 ((l.getD k (0, 0)).1 : Int)) := by
  rw [h.row.cell (2 * k) (by omega), List.getD_eq_getElem?_getD, (hitVs_at l k hk).1]; rfl
theorem HRow.c1 {w : World} {a : Option Addr} {l : List (Nat × Nat)} (h : HRow w a l) (k : Nat) (hk : k < l.length) : w.cell? ⟨bOf a, oOf a + 2 * k + 1, none⟩ = some (.int .i64 ((l.getD k (0, 0)).2 : Int)) := by
  have := h.row.cell (2 * k + 1) (by omega)
  rw [← Nat.add_assoc] at this
  rw [this, List.getD_eq_getElem?_getD, (hitVs_at l k hk).2]; rfl
theorem HRow.at_ {w : World} {a : Option Addr} {l : List (Nat × Nat)} (h : HRow w a l) : l.length = 0 ∨ a = some ⟨bOf a, oOf a, none⟩ := by
  rcases h.row.at_ with e | e
  · exact .inl (by omega)
  · exact .inr e
theorem HRow.take {w : World} {a : Option Addr} {l : List (Nat × Nat)} (h : HRow w a l) (m : Nat) : HRow w a (l.take m) := by
  refine ⟨?_⟩
  have e : hitVs l = hitVs (l.take m) ++ hitVs (l.drop m) := by rw [← hitVs_append, List.take_append_drop]
  refine (h.row.take (m := 2 * (l.take m).length) (by rw [List.length_take]; omega)).congr fun k hk => ?_
  rw [e, List.getD_eq_getElem?_getD, List.getElem?_append_left (by rw [hitVs_len]; omega), List.getD_eq_getElem?_getD]
/-- where a row goes on behind k elements -/
def cutA (a : Option Addr) (cap k : Nat) : Option Addr := if cap = k then a else a.map (·.add (k * 2))
theorem HRow.drop {w : World} {a : Option Addr} {l : List (Nat × Nat)} (h : HRow w a l) (cap k : Nat) (hc : l.length ≤ cap) (hk : k ≤ l.length) : HRow w (cutA a cap k) (l.drop k) := by
  refine ⟨?_⟩
  by_cases e : cap = k
  · have : l.drop k = [] := List.drop_of_length_le (by omega)
    rw [this]; exact Row.nil _ _ _
  · unfold cutA
    rw [if_neg e]
    rcases h.row.at_ with e0 | e0
    · have : l.drop k = [] := List.drop_of_length_le (by omega)
      rw [this]; exact Row.nil _ _ _
    · have e1 : a.map (·.add (k * 2)) = some ⟨bOf a, oOf a + k * 2, none⟩ := by
        conv => lhs; rw [e0]
        simp [Addr.add]
      rw [e1]
      refine ⟨.inr rfl, fun j hj => ?_⟩
      rw [List.length_drop] at hj
      have := h.row.cell (2 * k + j) (by omega)
      show w.cell? ⟨bOf a, oOf a + k * 2 + j, none⟩ = _
      rw [show oOf a + k * 2 + j = oOf a + (2 * k + j) by omega, this, ← hitVs_drop]
      rw [List.getD_eq_getElem?_getD, List.getD_eq_getElem?_getD, List.getElem?_drop]
theorem run_ix2 {P : Program} (t : TypeId) (hu : P.underlying t = some (.slice (P.elem t))) (hsz : ∀ w, (sizeOf (P.elem t)).run P w = .ok 2 w) (a : Option Addr) (n cap : Nat) (h : n = 0 ∨ a = some ⟨bOf a, oOf a, none⟩) :
    ∀ (w : World) (k : Nat), k < n → (Instr.indexAt t (.slice a n cap) (.int .i64 (k : Int))).run P w = .ok (.pointer (some ⟨bOf a, oOf a + 2 * k, none⟩)) w := by
  intro w k hk
  rcases h with e | e
  · omega
  · rw [e, run_indexAt_slice _ _ _ _ _ _ _ hu, if_pos (by omega), hsz]
    simp [bOf, oOf, Addr.add, Nat.mul_comm]
theorem hrow_of_owns {w : World} {base : Nat} {e : TypeId} {v : Value} {l : List (Nat × Nat)} {n : Nat} (h : w.ownsRow base e 2 v n (hitVs l)) (hn : n = l.length) :
    ∃ a cap, v = .slice a l.length cap ∧ l.length ≤ cap ∧ HRow w a l ∧ (l.length = 0 ∨ base ≤ bOf a) := by
  subst hn
  obtain ⟨hl, h⟩ := h
  rcases h with ⟨rfl, h0⟩ | ⟨g, cap, cur, rfl, hb, hh, hn, hc, hs, ht⟩
  · have : l = [] := List.eq_nil_of_length_eq_zero h0
    subst this
    exact ⟨none, 0, rfl, Nat.le_refl _, HRow.nil _ _, .inl rfl⟩
  · refine ⟨some ⟨g, 0, none⟩, cap, rfl, hn, ⟨.inr rfl, fun k hk => ?_⟩, .inr hb⟩
    have hx : (hitVs l)[k]? = cur[k]? := by rw [← ht, List.getElem?_take_of_lt (by omega)]; simp
    have hc1 : k < cur.size := by omega
    simp only [bOf, oOf, Option.map_some, Option.getD_some, Nat.zero_add]
    rw [cell_of_row w g k cur e (0, 0) hh, List.getD_eq_getElem?_getD, hx, Array.getElem?_eq_getElem hc1]; rfl
theorem run_append_hits {P : Program} (w : World) (base : Nat) (t ty e : TypeId) (i : TypeInfo) (z : Value) (bytes : Nat) (ht : P.underlying t = some (.slice e)) (hi : P.info? e = some i) (hz : i.zero = some z)
    (hsize : i.size = 2) (hby : i.bytes = bytes) (hzs : z.cells.size = 2) (v : Value) (n : Nat) (xs : List Value) (hown : w.ownsRow base e 2 v n xs)
    (A : Option Addr) (c : Nat) (l : List (Nat × Nat)) (hr : HRow w A l) (h63 : n + l.length ≤ maxLen) (hbytes : (n + l.length) * bytes ≤ 140737488355328) (hbase : base ≤ w.heap.size) :
    ∃ v' w', (Builtin.append_ #[t, t] ty #[v, .slice A l.length c]).run P w = .ok v' w' ∧ w'.ownsRow base e 2 v' (n + l.length) (xs ++ hitVs l) ∧ w.grownBy w' v.ownBlock ∧ (v'.ownBlock = v.ownBlock ∨ v'.ownBlock = some w.heap.size) := by
  cases A with
  | none =>
    have hm : l.length = 0 := by rcases hr.at_ with h | h; · exact h
                                 · cases h
    have : l = [] := List.eq_nil_of_length_eq_zero hm
    subst this
    refine ⟨v, w, ?_, by simpa [hitVs] using hown, gb_refl _ _, .inl rfl⟩
    rcases hown.2 with ⟨rfl, rfl⟩ | ⟨g, cap, cur, rfl, _, _, hnc, _⟩
    · simp [Builtin.append_, run_underlying ht, sizeOf, typeInfo, hi, Builtin.lenOf, Builtin.firstCells]
    · simp [Builtin.append_, run_underlying ht, sizeOf, typeInfo, hi, Builtin.lenOf, Builtin.firstCells, hnc, storeCells]
  | some ad =>
    obtain ⟨v', w', hrun, h2, h3, _, h5⟩ := run_append_own_at (P := P) w base t ty e i z 2 bytes ht hi hz hsize hby hzs (by omega) v n xs hown ad l.length c (hitVs l) (hitVs_len l)
      (fun j u hu => by
        have hj : j < 2 * l.length := by
          rcases Nat.lt_or_ge j (2 * l.length) with h | h
          · exact h
          · rw [List.getElem?_eq_none (by rw [hitVs_len]; omega)] at hu; cases hu
        rcases hr.at_ with h | h
        · omega
        · have hc := hr.row.cell j hj
          rw [List.getD_eq_getElem?_getD, hu] at hc
          have h' : ad = ⟨bOf (some ad), oOf (some ad), none⟩ := by injection h
          have e : ad.add j = ⟨bOf (some ad), oOf (some ad) + j, none⟩ := by
            conv => lhs; rw [h']
            exact Addr.add_lit _ _ _
          rw [e]
          exact hc)
      (hitVs_one l) h63 hbytes hbase
    exact ⟨v', w', hrun, h2, h3, h5⟩
attribute [irreducible] hitVs cutA
end Go.Proofs.Ytjpoebmjfedecaa

/-
  The contract of an iterator whose rounds hand over memory: what is known of a round may speak of the world in which it is owed. The caller's law over it.
-/
namespace Go.Proofs.Ytjpoebmjfedecaa
open Go.RowKit

/-- a round is owed where Ok holds of what was told, of what comes, and of the world -/
def SeqW {α : Type} (F : Fence) (n : Nat) (P : Program) (g : Nat) (lb : Array Value) (encs : α → Array Value) (K : Nat → Prop) (S Sp : List α → Prop) (Ok : List α → α → World → Prop) (w : World) : Prop :=
  ∀ (l : Nat) (J Jx : (Nat → Prop) → List α → World → Prop) (W : World), Below w.heap.size w W → Fr J → Fr Jx →
    (∀ X pre x W1, J X pre W1 → Ok pre x W1 → YieldAt F (n - 1) P l (encs x) W1 fun e W' =>
      KeepX X W1 W' ∧ KeepX K W1 W' ∧ ((e = .returned (.bool true) ∧ J X (pre ++ [x]) W') ∨ (e = .returned (.bool false) ∧ Jx X (pre ++ [x]) W'))) →
    J (fun _ => False) [] W →
    CallsIn F n P g (#[.func (.yield l) #[] #[]] ++ lb) W fun e W' => (∃ v, e = .returned v) ∧ ((∃ xs X, S xs ∧ J X xs W') ∨ (∃ pre X, Sp pre ∧ Jx X pre W'))
theorem wpIn_rangeFunc_W {F : Fence} {n : Nat} {P : Program} {α : Type} {g : Operand} {ps : Array Tmp} {assign body : Code} {Q : Exit → Act → World → Prop} {a : Act} {w : World}
    (hro : F.round = none) (h1 : 1 ≤ n) {gf : Nat} {lb : Array Value} (hg : a.eval g = .func (.func gf) #[] lb) (hFg : F.fn gf) (eg : ∀ args w, (callFunc gf args).run P w = .ok (.enter gf args) w)
    {encs : α → Array Value} {K : Nat → Prop} {S Sp : List α → Prop} {Ok : List α → α → World → Prop} {w0 : World} (hseq : SeqW F (n - 1) P gf lb encs K S Sp Ok w0) (hK : ∀ b, K b → b < w.heap.size) (hb0 : Below w0.heap.size w0 w) (hps : ∀ x, (encs x).size = ps.size)
    (I : (Nat → Prop) → List α → World → Prop) (Ix : Code → (Nat → Prop) → List α → World → Prop) (hI : Fr I) (hIx : ∀ c, Fr (Ix c)) (h0 : I (fun _ => False) [] w) (a₁ : α → Act)
    (hOk : ∀ (pre : List α) (x : α) (W : World) (l : Nat) (r : Loop) (o : Obj), Ok pre x W → W.heap[l]? = some (.loop r) → Ok pre x (W.putObj l o))
    (hassign : ∀ (l : Nat) (x : α) (W : World) (G : Act → World → Prop), G (a₁ x) W →
      assign.wpIn (F.inRound l) (n - 1 - 1) P (Exit.then G (fun _ _ _ => False)) { tmps := (ps.zip (encs x)).foldl (fun t (p, v) => t.setIfInBounds p v) a.tmps, defers := [] } W)
    (hbody : ∀ (l : Nat) (X : Nat → Prop) (pre : List α) (x : α) (W : World), (∃ r, W.heap[l]? = some (.loop r)) → X l → I X pre W → Ok pre x W → body.wpIn (F.inRound l) (n - 1 - 1) P (ownPostX K I Ix X (pre ++ [x]) W) (a₁ x) W)
    (hdone : ∀ (D : Nat) (X : Nat → Prop) (xs : List α) (W : World), w.heap.size ≤ D → X D → S xs → I X xs W → W.heap[D]? = some (.deferred (some [])) → Q .normal { a with defers := { target := .collected D, args := #[] } :: a.defers } W)
    (hstop : ∀ (D : Nat) (X : Nat → Prop) (c : Code) (pre : List α) (W : World), w.heap.size ≤ D → X D → Sp pre → Ix c X pre W → W.heap[D]? = some (.deferred (some [])) → c.wpIn F n P Q { a with defers := { target := .collected D, args := #[] } :: a.defers } W) :
    (Code.rangeFunc g ps assign body).wpIn F n P Q a w := by
  refine wpIn_rangeFunc ?_
  intro fn hfn
  rw [hro]
  obtain ⟨rec, hrec⟩ : ∃ rec : LoopState → Option Code → Loop, rec = fun st pe => { state := st, pending := pe, fn, tmps := a.tmps, params := ps, assign, body, defers := w.heap.size } := ⟨_, rfl⟩
  obtain ⟨W1, hW1⟩ : ∃ W1, (w.alloc (.deferred (some []))).alloc (.loop (rec .ready none)) = W1 := ⟨_, rfl⟩
  have hL1 : W1.heap[w.heap.size + 1]? = some (.loop (rec .ready none)) := by
    rw [← hW1]; have := World.alloc_heap_new (w.alloc (.deferred (some []))) (.loop (rec .ready none)); rwa [World.size_alloc] at this
  have hK1 : W1.heap[w.heap.size]? = some (.deferred (some [])) := by
    rw [← hW1]; exact (Below.heap_alloc _ _ _ (by simp)).trans (World.alloc_heap_new w _)
  have hbw : Below w.heap.size w W1 := by rw [← hW1]; exact (((Below.refl _ w).alloc (Nat.le_refl _) _).alloc (by simp) _)
  have hb1 : Below w0.heap.size w0 W1 := hb0.trans (hbw.mono hb0.size)
  -- the set of the iterator's blocks, and the two of the loop's book-keeping
  obtain ⟨up, hup⟩ : ∃ up : (Nat → Prop) → Nat → Prop, up = fun X b => X b ∨ b = w.heap.size ∨ b = w.heap.size + 1 := ⟨_, rfl⟩
  have hu1 : ∀ X, up X w.heap.size := fun X => by rw [hup]; exact .inr (.inl rfl)
  have hu2 : ∀ X, up X (w.heap.size + 1) := fun X => by rw [hup]; exact .inr (.inr rfl)
  have hu0 : ∀ X b, X b → up X b := fun X b h => by rw [hup]; exact .inl h
  have hI1 : I (up fun _ => False) [] W1 := hI _ _ _ _ _ h0 (StepX.of_below hbw) (fun b hb => by rw [hup] at hb; have := (Array.getElem?_eq_some_iff.1 hL1).1; rcases hb with h | h | h; exact h.elim; all_goals exact .inr (by omega))
  have hfr : ∀ {J : (Nat → Prop) → List α → World → Prop}, Fr J → ∀ {X X' : Nat → Prop} {s : List α} {A B : World}, J (up X) s A → StepX X A B → (∀ b, X' b → X b ∨ (A.heap.size ≤ b ∧ b < B.heap.size)) → J (up X') s B := fun {J} hJ {X X' s A B} hs st hx =>
    hJ _ _ _ _ _ hs (st.mono fun b _ h => hu0 X b h) (fun b hb => by
      rw [hup] at hb
      rcases hb with h | h | h
      · exact (hx b h).imp (hu0 X b) id
      · rw [h]; exact .inl (hu1 X)
      · rw [h]; exact .inl (hu2 X))
  have hbk : ∀ {X X' : Nat → Prop} {A B : World} {k : Nat} {o : Obj}, StepX X A B → (∀ b, X' b → X b ∨ (A.heap.size ≤ b ∧ b < B.heap.size)) → ¬ X k → A.heap[k]? = some o → B.heap[k]? = some o ∧ ¬ X' k := fun {X X' A B k o} st hx hn ho => by
    have hlt := (Array.getElem?_eq_some_iff.1 ho).1
    exact ⟨(st.block k hlt hn).trans ho, fun h => by rcases hx k h with h | h; exact hn h; omega⟩
  refine ⟨w.heap.size + 1, [{ target := .collected w.heap.size, args := #[] }], W1, { target := .fn (.func gf) lb, args := #[.func (.yield (w.heap.size + 1)) #[] #[]] }, W1, gf,
    #[.func (.yield (w.heap.size + 1)) #[] #[]] ++ lb, W1, ?_, ?_, ?_, ?_, fun _ => h1, ?_⟩
  · rw [← hW1, hrec]; exact run_enterLoop_outer _ _ _ _ _
  · simp only [resolve, hg]
    simp [go_sem]
  · intro f' hf'; simp [Target.leads] at hf'; subst hf'; exact hFg
  · simp [invoke, go_sem, eg]
  · refine (hseq (w.heap.size + 1)
      (fun X pre W => I (up X) pre W ∧ (W.heap[w.heap.size + 1]? = some (.loop (rec .ready none)) ∧ ¬ X (w.heap.size + 1)) ∧ (W.heap[w.heap.size]? = some (.deferred (some [])) ∧ ¬ X w.heap.size))
      (fun X pre W => ∃ c, Ix c (up X) pre W ∧ (W.heap[w.heap.size + 1]? = some (.loop (rec .done (some c))) ∧ ¬ X (w.heap.size + 1)) ∧ (W.heap[w.heap.size]? = some (.deferred (some [])) ∧ ¬ X w.heap.size))
      W1 hb1
      (fun X X' s A B hs st hx => ⟨hfr hI hs.1 st hx, hbk st hx hs.2.1.2 hs.2.1.1, hbk st hx hs.2.2.2 hs.2.2.1⟩)
      (fun X X' s A B hs st hx => by
        obtain ⟨c, hc, hl, hk⟩ := hs
        exact ⟨c, hfr (hIx c) hc st hx, hbk st hx hl.2 hl.1, hbk st hx hk.2 hk.1⟩)
      ?_ ⟨hI1, ⟨hL1, fun h => h⟩, ⟨hK1, fun h => h⟩⟩).mono ?_
    · -- one round
      rintro X pre x W ⟨hi, ⟨hl, nl⟩, ⟨hk, nk⟩⟩ hlen
      have hlt : w.heap.size + 1 < W.heap.size := (Array.getElem?_eq_some_iff.1 hl).1
      have hy := run_yield (P := P) (args := encs x) hl (by rw [hrec]; exact hps x)
      rw [hrec] at hy
      refine ⟨fn, _, assign, body, hy, roundIn_of_wpIn hfn (hassign _ x W _ ⟨_, run_beginRound hl (by rw [hrec]), ?_⟩)⟩
      have hl2 : (W.putObj (w.heap.size + 1) (.loop { rec .ready none with state := .busy })).heap[w.heap.size + 1]? = some (.loop { rec .ready none with state := .busy }) := World.putObj_heap_same hlt
      have hk2 : (W.putObj (w.heap.size + 1) (.loop { rec .ready none with state := .busy })).heap[w.heap.size]? = some (.deferred (some [])) := (World.putObj_heap_other (by omega)).trans hk
      have hx2 : KeepX X W (W.putObj (w.heap.size + 1) (.loop { rec .ready none with state := .busy })) := KeepX.putObj _ _ _ nl
      have hq2 : KeepX K W (W.putObj (w.heap.size + 1) (.loop { rec .ready none with state := .busy })) := KeepX.putObj _ _ _ (fun h => by have := hK _ h; omega)
      refine wpIn_mono (hbody _ (up X) pre x _ ⟨_, hl2⟩ (hu2 X) (hI.step hi (StepX.putObj _ _ _ (hu2 X))) (hOk _ _ _ _ _ _ hlen hl)) ?_
      have fin : ∀ (jump : Option Code) (W3 : World), KeepX (up X) (W.putObj (w.heap.size + 1) (.loop { rec .ready none with state := .busy })) W3 → KeepX K (W.putObj (w.heap.size + 1) (.loop { rec .ready none with state := .busy })) W3 →
          (Instr.endRound (w.heap.size + 1) jump).run P W3 = .ok (.bool jump.isNone) (W3.putObj (w.heap.size + 1) (.loop (rec (if jump.isNone then .ready else .done) jump))) ∧
          (W3.putObj (w.heap.size + 1) (.loop (rec (if jump.isNone then .ready else .done) jump))).heap[w.heap.size + 1]? = some (.loop (rec (if jump.isNone then .ready else .done) jump)) ∧
          (W3.putObj (w.heap.size + 1) (.loop (rec (if jump.isNone then .ready else .done) jump))).heap[w.heap.size]? = some (.deferred (some [])) ∧
          KeepX X W (W3.putObj (w.heap.size + 1) (.loop (rec (if jump.isNone then .ready else .done) jump))) ∧ KeepX K W (W3.putObj (w.heap.size + 1) (.loop (rec (if jump.isNone then .ready else .done) jump))) := fun jump W3 hk3 hq3 => by
        have hl3 := (hk3.block _ (by simpa using hlt) (hu2 X)).trans hl2
        have hd3 := (hk3.block _ (by simp; omega) (hu1 X)).trans hk2
        have := run_endRound (P := P) jump hl3
        rw [hrec] at this ⊢
        exact ⟨this, World.putObj_heap_same (Array.getElem?_eq_some_iff.1 hl3).1, (World.putObj_heap_other (by omega)).trans hd3,
          (hx2.trans (hk3.mono fun b _ h => hu0 X b h)).trans (KeepX.putObj _ _ _ nl), (hq2.trans hq3).trans (KeepX.putObj _ _ _ (fun h => by have := hK _ h; omega))⟩
      rintro e a3 W3 hp
      cases e with
      | normal =>
        obtain ⟨hk3, hq3, hi3⟩ := hp
        obtain ⟨hr, hl4, hk4, hx4, hq4⟩ := fin none W3 hk3 hq3
        exact ⟨_, _, hr, hx4, hq4, .inl ⟨rfl, hI.step hi3 (StepX.putObj _ _ _ (hu2 X)), ⟨hl4, nl⟩, ⟨hk4, nk⟩⟩⟩
      | ret =>
        obtain ⟨hk3, hq3, hi3⟩ := hp
        obtain ⟨hr, hl4, hk4, hx4, hq4⟩ := fin (some .ret) W3 hk3 hq3
        exact ⟨_, _, hr, hx4, hq4, .inr ⟨rfl, .ret, (hIx _).step hi3 (StepX.putObj _ _ _ (hu2 X)), ⟨hl4, nl⟩, ⟨hk4, nk⟩⟩⟩
      | exit id =>
        obtain ⟨hk3, hq3, hi3⟩ := hp
        obtain ⟨hr, hl4, hk4, hx4, hq4⟩ := fin (some (.exit id)) W3 hk3 hq3
        exact ⟨_, _, hr, hx4, hq4, .inr ⟨rfl, .exit id, (hIx _).step hi3 (StepX.putObj _ _ _ (hu2 X)), ⟨hl4, nl⟩, ⟨hk4, nk⟩⟩⟩
      | goto t =>
        obtain ⟨hk3, hq3, hi3⟩ := hp
        obtain ⟨hr, hl4, hk4, hx4, hq4⟩ := fin (some (.goto t)) W3 hk3 hq3
        exact ⟨_, _, hr, hx4, hq4, .inr ⟨rfl, .goto t, (hIx _).step hi3 (StepX.putObj _ _ _ (hu2 X)), ⟨hl4, nl⟩, ⟨hk4, nk⟩⟩⟩
      | panic ch => exact hp.elim
      | outgrown => exact hp.elim
    · -- behind the iterator
      rintro e W2 ⟨⟨v, rfl⟩, (⟨xs, X, hS, hi, ⟨hl, _⟩, ⟨hk, _⟩⟩ | ⟨pre, X, hSp, c, hi, ⟨hl, _⟩, ⟨hk, _⟩⟩)⟩
      · exact ⟨none, _, by have := run_endLoop (P := P) hl (by rw [hrec]; simp); rw [hrec] at this; exact this, hdone _ (up X) xs _ (Nat.le_refl _) (hu1 X) hS (hI.step hi (StepX.putObj _ _ _ (hu2 X))) ((World.putObj_heap_other (by omega)).trans hk)⟩
      · exact ⟨some c, _, by have := run_endLoop (P := P) hl (by rw [hrec]; simp); rw [hrec] at this; exact this, hstop _ (up X) c pre _ (Nat.le_refl _) (hu1 X) hSp ((hIx c).step hi (StepX.putObj _ _ _ (hu2 X))) ((World.putObj_heap_other (by omega)).trans hk)⟩
theorem row_putLoop {W : World} {a : Option Addr} {n : Nat} {f : Nat → Value} (h : Row W a n f) {l : Nat} {r : Loop} (o : Obj) (hl : W.heap[l]? = some (.loop r)) : Row (W.putObj l o) a n f := by
  refine ⟨h.at_, fun k hk => ?_⟩
  have h0 := h.cell k hk
  refine (World.cell?_of_block (a := ⟨bOf a, oOf a + k, none⟩) ?_).trans h0
  refine World.putObj_heap_other fun e => ?_
  have e' : bOf a = l := e
  rw [e'] at h0
  simp [World.cell?, hl] at h0
end Go.Proofs.Ytjpoebmjfedecaa
