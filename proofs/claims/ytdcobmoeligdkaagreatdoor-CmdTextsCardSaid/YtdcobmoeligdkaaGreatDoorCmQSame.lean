/-
  query.Same: at any two queries.
-/
import Derived.Test.YtdcobmoeligdkaaGreatDoorCmQTree
import Derived.Shelf.Bytes.SlEqualAll
namespace Go.Proofs.YtdcobmoeligdkaaGreatDoor
open Go.RowKit Go.Shelf

theorem QT.ind {Pp : QT → Prop} (h : ∀ k t l, (∀ x, x ∈ l → Pp x) → Pp (.node k t l)) : ∀ q, Pp q
  | .node k t l => h k t l (fun x hx => QT.ind h x)
termination_by q => SizeOf.sizeOf q
decreasing_by
  have := List.sizeOf_lt_of_mem hx
  simp only [QT.node.sizeOf_spec]
  omega
def numQ (l : List UInt8) : List Int := l.map fun x => (x.toNat : Int)
theorem numQ_length (l : List UInt8) : (numQ l).length = l.length := by simp [numQ]
theorem bytesOf_numQ (l : List UInt8) : Lib.bytesOf (numQ l) = l := by
  unfold Lib.bytesOf numQ
  rw [List.map_map]
  conv => rhs; rw [← List.map_id l]
  apply List.map_congr_left
  intro x _
  simp
theorem bytesIn_row {w : World} {a : Option Addr} {l : List UInt8} (h : Row w a l.length (bV l)) : Lib.BytesIn w a l.length (numQ l) := fun hn =>
  ⟨bOf a, oOf a, h.at_.resolve_left (by omega), fun i hi => by
    rw [h.cell i hi]
    unfold bV numQ
    simp [List.getD_eq_getElem?_getD, hi]⟩
theorem beq_any (w : World) (a b : Option Addr) (c d : Nat) (L M : List UInt8) (ha : Row w a L.length (bV L)) (hb : Row w b M.length (bV M)) :
    Calls Tryz.prog 52 #[.slice a L.length c, .slice b M.length d] w fun e w' => e = .returned (.bool (decide (L = M))) ∧ w = w' := by
  refine (Tryz.bytes_Equal_all a b L.length c M.length d (numQ L) (numQ M) w (numQ_length L) (numQ_length M) (bytesIn_row ha) (bytesIn_row hb)).mono ?_
  rintro e w' ⟨rfl, hw⟩
  refine ⟨?_, hw.symm⟩
  rw [bytesOf_numQ, bytesOf_numQ]
  congr 2
  rw [Bool.eq_iff_iff]; simp
/-- whether two queries are one -/
def SP (w : World) (q r : QT) (e : Ending) (w' : World) : Prop := ∃ b : Bool, e = .returned (.bool b) ∧ (b = true ↔ q = r) ∧ Below w.heap.size w w'
def QSame (q : QT) : Prop := ∀ (W : World) (G G' : Nat → Prop) (r : QT) (v0 v1 v2 u0 u1 u2 : Value), QAt W G q v0 v1 v2 → QAt W G' r u0 u1 u2 →
  Calls Tryz.prog 34 #[.agg #[v0, v1, v2], .agg #[u0, u1, u2]] W (SP W q r)
theorem take_all {l m : List QT} (hl : l.length = m.length) (h : ∀ i (h1 : i < l.length) (h2 : i < m.length), l[i] = m[i]) : l = m := List.ext_getElem hl h
set_option maxRecDepth 100000 in
set_option maxHeartbeats 4000000 in
theorem same_step (k : Int) (t : List UInt8) (l : List QT) (ih : ∀ x, x ∈ l → QSame x) : QSame (.node k t l) := by
  intro w G G' r v0 v1 v2 u0 u1 u2 h h'
  cases h with
  | mk k t l a1 c1 a2 c2 V h1 g1 m1 h2 g2 m2 hs =>
  cases h' with
  | mk k' t' l' b1 d1 b2 d2 U h1' g1' m1' h2' g2' m2' hs' =>
  have HBA : Hid (∀ o1 o2, Below w.heap.size w ((w.alloc o1).alloc o2)) := fun o1 o2 => ((Below.refl _ _).alloc (Nat.le_refl _) _).alloc (by simp) _
  have HEQ : Hid (∀ W, Below w.heap.size w W → Calls Tryz.prog 52 #[.slice a1 t.length c1, .slice b1 t'.length d1] W fun e w' => e = .returned (.bool (decide (t = t'))) ∧ W = w') := fun W hW => beq_any W a1 b1 c1 d1 t t' (h1.kept hW) (h1'.kept hW)
  have HNE : Hid (QT.node k t l = QT.node k' t' l' ↔ (k = k' ∧ t = t' ∧ l = l')) := by show _ ↔ _; simp
  clear h1 g1 m1 g2 h1' g1' m1' g2'
  by_cases hk : k = k'
  rotate_left
  · have hkb : (k != k') = true := by rw [bne_iff_ne]; exact hk
    have HF : Hid ((false = true) ↔ QT.node k t l = QT.node k' t' l') := by show _ ↔ _; rw [HNE.out]; simp [hk]
    generalize t.length = n at *
    generalize t'.length = n' at *
    clear hk
    go_enter Tryz.func34, Tryz.ntmps34
    go_wp2
    go_ret
    exact ⟨false, rfl, HF.out, HBA.out _ _⟩
  have HK := Lib.hid hk
  subst hk
  by_cases ht : t = t'
  rotate_left
  · have hd : decide (t = t') = false := decide_eq_false ht
    rw [hd] at HEQ
    have HF : Hid ((false = true) ↔ QT.node k t l = QT.node k t' l') := by show _ ↔ _; rw [HNE.out]; simp [ht]
    generalize t.length = n at *
    generalize t'.length = n' at *
    clear ht hd
    go_enter Tryz.func34, Tryz.ntmps34
    go_wp2_with (go_at_call 52; refine (HEQ.out _ (HBA.out _ _)).mono ?_; rintro e w4 ⟨rfl, rfl⟩)
    go_ret
    exact ⟨false, rfl, HF.out, HBA.out _ _⟩
  have hd : decide (t = t') = true := decide_eq_true ht
  rw [hd] at HEQ
  have HT := Lib.hid ht
  clear ht hd
  by_cases hl : l.length = l'.length
  rotate_left
  · have hlb : ((l.length : Int) != (l'.length : Int)) = true := by rw [bne_iff_ne]; omega
    have HF : Hid ((false = true) ↔ QT.node k t l = QT.node k t' l') := by show _ ↔ _; rw [HNE.out]; simp; intro _ e; exact hl (by rw [e])
    generalize t.length = n at *
    generalize t'.length = n' at *
    clear hl
    go_enter Tryz.func34, Tryz.ntmps34
    go_wp2_with (go_at_call 52; refine (HEQ.out _ (HBA.out _ _)).mono ?_; rintro e w4 ⟨rfl, rfl⟩)
    go_ret
    exact ⟨false, rfl, HF.out, HBA.out _ _⟩
  have HIH : Hid (∀ i (hi : i < l.length) (hi' : i < l'.length) W, Below w.heap.size w W → Calls Tryz.prog 34 #[.agg #[V (i * 3), V (i * 3 + 1), V (i * 3 + 2)], .agg #[U (i * 3), U (i * 3 + 1), U (i * 3 + 2)]] W (SP W l[i] l'[i])) :=
    fun i hi hi' W hW => ih _ (List.getElem_mem hi) W G G' l'[i] _ _ _ _ _ _ ((hs i hi).kept hW) ((hs' i hi').kept hW)
  have HIX := Lib.hid (run_ixQ (P := Tryz.prog) 23 3 (by kernel_rfl) (fun w => by kernel_rfl) a2 l.length c2 (h2.at_.imp (fun e => by omega) id))
  have HIX' := Lib.hid (run_ixQ (P := Tryz.prog) 23 3 (by kernel_rfl) (fun w => by kernel_rfl) b2 l'.length d2 (h2'.at_.imp (fun e => by omega) id))
  have HR := Lib.hid h2
  have HR' := Lib.hid h2'
  have HL : Hid (l.length = l'.length) := hl
  have HLL : Hid ((∀ i (h1 : i < l.length) (h2 : i < l'.length), l[i] = l'[i]) → QT.node k t l = QT.node k t' l') := fun h => HNE.out.2 ⟨rfl, HT.out, take_all hl h⟩
  have HLN : Hid (∀ i (h1 : i < l.length) (h2 : i < l'.length), l[i] ≠ l'[i] → QT.node k t l ≠ QT.node k t' l') := fun i h1 h2 hne he => hne (by have := (HNE.out.1 he).2.2; simp [this])
  clear ih hs hs' h2 h2' hl HNE HK
  have hm2 : l.length ≤ 9223372036854775807 := m2
  have hm2' : l'.length ≤ 9223372036854775807 := m2'
  have hll : ((l.length : Int) != (l'.length : Int)) = false := by rw [HL.out]; simp
  generalize t.length = n at *
  generalize t'.length = n' at *
  clear m2 m2'
  go_enter Tryz.func34, Tryz.ntmps34
  go_wp2_with (go_at_call 52; refine (HEQ.out _ (HBA.out _ _)).mono ?_; rintro e w4 ⟨rfl, rfl⟩)
  have x0 : ((w.alloc (.cells #[.int .i64 k, .slice a1 n c1, .slice a2 l.length c2] 25)).alloc (.cells #[.int .i64 k, .slice b1 n' d1, .slice b2 l'.length d2] 25)).heap[w.heap.size]? = some (.cells #[.int .i64 k, .slice a1 n c1, .slice a2 l.length c2] 25 (0, 0)) := (Below.heap_alloc _ _ _ (by rw [World.size_alloc]; omega)).trans (World.alloc_heap_new w _)
  have x1 : ((w.alloc (.cells #[.int .i64 k, .slice a1 n c1, .slice a2 l.length c2] 25)).alloc (.cells #[.int .i64 k, .slice b1 n' d1, .slice b2 l'.length d2] 25)).heap[w.heap.size + 1]? = some (.cells #[.int .i64 k, .slice b1 n' d1, .slice b2 l'.length d2] 25 (0, 0)) := by
    have := World.alloc_heap_new (w.alloc (.cells #[.int .i64 k, .slice a1 n c1, .slice a2 l.length c2] 25)) (.cells #[.int .i64 k, .slice b1 n' d1, .slice b2 l'.length d2] 25)
    rwa [World.size_alloc] at this
  have HB2 := Lib.hid (HBA.out (.cells #[.int .i64 k, .slice a1 n c1, .slice a2 l.length c2] 25) (.cells #[.int .i64 k, .slice b1 n' d1, .slice b2 l'.length d2] 25))
  have HX0 := Lib.hid x0
  have HX1 := Lib.hid x1
  clear x0 x1 HEQ
  generalize ((w.alloc (.cells #[.int .i64 k, .slice a1 n c1, .slice a2 l.length c2] 25)).alloc (.cells #[.int .i64 k, .slice b1 n' d1, .slice b2 l'.length d2] 25)) = w2 at *
  go_loopw [5, 31] (fun _ v31 wr => ∃ (i : Nat), i ≤ l.length ∧ v31 = .int .i64 (i : Int) ∧ Below w2.heap.size w2 wr ∧ Hid (∀ j (h1 : j < l.length) (h2 : j < l'.length), j < i → l[j] = l'[j])) (fun _ v31 _ => l.length - (intOf v31).toNat)
  case atStart => exact ⟨0, Nat.zero_le _, rfl, Below.refl _ _, fun j _ _ h => absurd h (Nat.not_lt_zero j)⟩
  case round =>
    obtain ⟨i, hi, rfl, hb, HAL⟩ := hrel
    have HB := Lib.hid hb
    clear hb
    by_cases hlt : i < l.length
    · have hlt' : i < l'.length := by rw [← HL.out]; exact hlt
      have q0 := cell_of_row wr _ 2 _ _ _ ((HB.out.block _ (Array.getElem?_eq_some_iff.1 HX0.out).1).trans HX0.out)
      have q1 := cell_of_row wr _ 2 _ _ _ ((HB.out.block _ (Array.getElem?_eq_some_iff.1 HX1.out).1).trans HX1.out)
      simp only [List.getElem?_toArray, List.getElem?_cons_succ, List.getElem?_cons_zero] at q0 q1
      have hbw : Below w.heap.size w wr := below_next HB2.out HB.out HB2.out.size
      have hr2 := HR.out.kept hbw
      have hr2' := HR'.out.kept hbw
      have e0 : oOf a2 + i * 3 + 1 = oOf a2 + (i * 3 + 1) := by omega
      have e1 : oOf a2 + i * 3 + 2 = oOf a2 + (i * 3 + 2) := by omega
      have f0 : oOf b2 + i * 3 + 1 = oOf b2 + (i * 3 + 1) := by omega
      have f1 : oOf b2 + i * 3 + 2 = oOf b2 + (i * 3 + 2) := by omega
      have p0 : wr.cell? ⟨bOf a2, oOf a2 + i * 3, none⟩ = some (V (i * 3)) := hr2.cell (i * 3) (by omega)
      have p1 : wr.cell? ⟨bOf a2, oOf a2 + i * 3 + 1, none⟩ = some (V (i * 3 + 1)) := by rw [e0]; exact hr2.cell _ (by omega)
      have p2 : wr.cell? ⟨bOf a2, oOf a2 + i * 3 + 2, none⟩ = some (V (i * 3 + 2)) := by rw [e1]; exact hr2.cell _ (by omega)
      have r0 : wr.cell? ⟨bOf b2, oOf b2 + i * 3, none⟩ = some (U (i * 3)) := hr2'.cell (i * 3) (by omega)
      have r1 : wr.cell? ⟨bOf b2, oOf b2 + i * 3 + 1, none⟩ = some (U (i * 3 + 1)) := by rw [f0]; exact hr2'.cell _ (by omega)
      have r2 : wr.cell? ⟨bOf b2, oOf b2 + i * 3 + 2, none⟩ = some (U (i * 3 + 2)) := by rw [f1]; exact hr2'.cell _ (by omega)
      have HK : Hid (∀ W, Below wr.heap.size wr W → Calls Tryz.prog 34 #[.agg #[V (i * 3), V (i * 3 + 1), V (i * 3 + 2)], .agg #[U (i * 3), U (i * 3 + 1), U (i * 3 + 2)]] W (SP W l[i] l'[i])) :=
        fun W hW => HIH.out i hlt hlt' W (below_next hbw hW hbw.size)
      have hx := fun W => HIX.out W i hlt
      have hx' := fun W => HIX'.out W i hlt'
      have HFI : Hid (l[i] ≠ l'[i] → (false = true ↔ QT.node k t l = QT.node k t' l')) := fun hne => ⟨fun h => Bool.noConfusion h, fun h => absurd h (HLN.out i hlt hlt' hne)⟩
      have HNX : Hid (l[i] = l'[i] → ∀ j (h1 : j < l.length) (h2 : j < l'.length), j < i + 1 → l[j] = l'[j]) := fun he j h1 h2 hj => by
        rcases Nat.lt_or_ge j i with h | h
        · exact HAL.out j h1 h2 h
        · obtain rfl : j = i := by omega
          exact he
      have HBW := Lib.hid hbw
      clear e0 e1 f0 f1 hr2 hr2' hbw HAL
      generalize l[i] = x at *
      generalize l'[i] = y at *
      generalize V (i * 3) = u0 at *
      generalize V (i * 3 + 1) = u1 at *
      generalize V (i * 3 + 2) = u2 at *
      generalize U (i * 3) = z0 at *
      generalize U (i * 3 + 1) = z1 at *
      generalize U (i * 3 + 2) = z2 at *
      go_wp2_with fail
      go_region_with (go_at_call 34; refine (HK.out _ (Below.refl _ _).drew).mono ?_; rintro e w4 ⟨bb, rfl, hbb, hb4⟩; have HBB := Lib.hid hbb; have HB4 : Hid (Below wr.heap.size wr w4) := ((Below.refl wr.heap.size wr).drew).trans hb4; clear hbb hb4)
      all_goals
        cases bb with
        | true =>
          have HN2 := Lib.hid (HNX.out (HBB.out.1 rfl))
          clear HBB HNX HFI hx hx' q0 q1 p0 p1 p2 r0 r1 r2
          go_wp2
          go_roundw
          case rel => exact ⟨i + 1, by omega, by go_num, below_next HB.out HB4.out HB.out.size, HN2⟩
          case measure => simp [intOf]; omega
        | false =>
          have HF2 := Lib.hid (HFI.out (fun h => Bool.noConfusion (HBB.out.2 h)))
          clear HBB HNX HFI hx hx' q0 q1 p0 p1 p2 r0 r1 r2
          go_wp2
          go_ret
          exact ⟨false, rfl, HF2.out, below_next HBW.out HB4.out HBW.out.size⟩
    · obtain rfl : i = l.length := by omega
      have hd : decide ((l.length : Int) < (l.length : Int)) = false := by simp
      have HY : Hid (QT.node k t l = QT.node k t' l') := HLL.out (fun j h1 h2 => HAL.out j h1 h2 h1)
      have HBW : Hid (Below w.heap.size w wr) := below_next HB2.out HB.out HB2.out.size
      clear HAL
      go_wp2
      go_ret
      exact ⟨true, rfl, ⟨fun _ => HY.out, fun _ => rfl⟩, HBW.out⟩
theorem qsame_any (q : QT) : QSame q := QT.ind (Pp := QSame) same_step q
end Go.Proofs.YtdcobmoeligdkaaGreatDoor
