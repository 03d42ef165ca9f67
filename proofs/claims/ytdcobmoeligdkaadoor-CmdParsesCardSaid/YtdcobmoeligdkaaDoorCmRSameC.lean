/-
  concordanceref23.Same, SameCmd: at any two queries, commands.
-/
import Derived.Test.YtdcobmoeligdkaaDoorCmRUnq
import Derived.Test.YtdcobmoeligdkaaDoorCmQSame
import Derived.Test.YtdcobmoeligdkaaDoorCmSame
namespace Go.Proofs.YtdcobmoeligdkaaDoor
open Go.RowKit Go.Shelf

def QRSame (q : QT) : Prop := ∀ (W : World) (G G' : Nat → Prop) (r : QT) (v0 v1 v2 u0 u1 u2 : Value), QAt W G q v0 v1 v2 → QAt W G' r u0 u1 u2 →
  Calls Tryd.prog 26 #[.agg #[v0, v1, v2], .agg #[u0, u1, u2]] W (SP W q r)
set_option maxRecDepth 100000 in
set_option maxHeartbeats 4000000 in
theorem rsame_step (k : Int) (t : List UInt8) (l : List QT) (ih : ∀ x, x ∈ l → QRSame x) : QRSame (.node k t l) := by
  intro w G G' r v0 v1 v2 u0 u1 u2 h h'
  cases h with
  | mk k t l a1 c1 a2 c2 V h1 g1 m1 h2 g2 m2 hs =>
  cases h' with
  | mk k' t' l' b1 d1 b2 d2 U h1' g1' m1' h2' g2' m2' hs' =>
  have HBA : Hid (∀ o1 o2, Below w.heap.size w ((w.alloc o1).alloc o2)) := fun o1 o2 => ((Below.refl _ _).alloc (Nat.le_refl _) _).alloc (by simp) _
  have HCA : Hid (∀ W, Below w.heap.size w W → (convert 22 9 (.slice a1 t.length c1)).run Tryd.prog W = .ok (.string (uS t)) W) := fun W hW => convA W a1 t c1 (h1.kept hW)
  have HCB : Hid (∀ W, Below w.heap.size w W → (convert 22 9 (.slice b1 t'.length d1)).run Tryd.prog W = .ok (.string (uS t')) W) := fun W hW => convA W b1 t' d1 (h1'.kept hW)
  have HNE : Hid (QT.node k t l = QT.node k' t' l' ↔ (k = k' ∧ t = t' ∧ l = l')) := by show _ ↔ _; simp
  clear h1 g1 m1 g2 h1' g1' m1' g2'
  by_cases hk : k = k'
  rotate_left
  · have hkb : (k != k') = true := by rw [bne_iff_ne]; exact hk
    have HF : Hid ((false = true) ↔ QT.node k t l = QT.node k' t' l') := by show _ ↔ _; rw [HNE.out]; simp [hk]
    generalize t.length = n at *
    generalize t'.length = n' at *
    clear hk
    go_enter Tryd.func26, Tryd.ntmps26
    go_wp2
    go_ret
    exact ⟨false, rfl, HF.out, HBA.out _ _⟩
  have HK := Lib.hid hk
  subst hk
  have hcv1 := fun o1 o2 => HCA.out _ (HBA.out o1 o2)
  have hcv2 := fun o1 o2 => HCB.out _ (HBA.out o1 o2)
  have hqe := uS_eq t t'
  by_cases ht : t = t'
  rotate_left
  · rw [decide_eq_false ht] at hqe
    have HF : Hid ((false = true) ↔ QT.node k t l = QT.node k t' l') := by show _ ↔ _; rw [HNE.out]; simp [ht]
    generalize t.length = n at *
    generalize t'.length = n' at *
    clear ht
    go_enter Tryd.func26, Tryd.ntmps26
    go_wp2
    go_ret
    exact ⟨false, rfl, HF.out, HBA.out _ _⟩
  rw [decide_eq_true ht] at hqe
  have HT := Lib.hid ht
  clear ht
  by_cases hl : l.length = l'.length
  rotate_left
  · have hlb : ((l.length : Int) != (l'.length : Int)) = true := by rw [bne_iff_ne]; omega
    have HF : Hid ((false = true) ↔ QT.node k t l = QT.node k t' l') := by show _ ↔ _; rw [HNE.out]; simp; intro _ e; exact hl (by rw [e])
    generalize t.length = n at *
    generalize t'.length = n' at *
    clear hl
    go_enter Tryd.func26, Tryd.ntmps26
    go_wp2
    go_ret
    exact ⟨false, rfl, HF.out, HBA.out _ _⟩
  have HIH : Hid (∀ i (hi : i < l.length) (hi' : i < l'.length) W, Below w.heap.size w W → Calls Tryd.prog 26 #[.agg #[V (i * 3), V (i * 3 + 1), V (i * 3 + 2)], .agg #[U (i * 3), U (i * 3 + 1), U (i * 3 + 2)]] W (SP W l[i] l'[i])) :=
    fun i hi hi' W hW => ih _ (List.getElem_mem hi) W G G' l'[i] _ _ _ _ _ _ ((hs i hi).kept hW) ((hs' i hi').kept hW)
  have HIX := Lib.hid (run_ixQ (P := Tryd.prog) 27 3 (by kernel_rfl) (fun w => by kernel_rfl) a2 l.length c2 (h2.at_.imp (fun e => by omega) id))
  have HIX' := Lib.hid (run_ixQ (P := Tryd.prog) 27 3 (by kernel_rfl) (fun w => by kernel_rfl) b2 l'.length d2 (h2'.at_.imp (fun e => by omega) id))
  have HR := Lib.hid h2
  have HR' := Lib.hid h2'
  have HL : Hid (l.length = l'.length) := hl
  have HLL : Hid ((∀ i (h1 : i < l.length) (h2 : i < l'.length), l[i] = l'[i]) → QT.node k t l = QT.node k t' l') := fun h => HNE.out.2 ⟨rfl, HT.out, take_all hl h⟩
  have HLN : Hid (∀ i (h1 : i < l.length) (h2 : i < l'.length), l[i] ≠ l'[i] → QT.node k t l ≠ QT.node k t' l') := fun i h1 h2 hne he => hne (by have := (HNE.out.1 he).2.2; simp [this])
  clear ih hs hs' h2 h2' hl HNE HK
  have hm2 : l.length ≤ 9223372036854775807 := m2
  have hm2' : l'.length ≤ 9223372036854775807 := m2'
  have hll : ((l.length : Int) != (l'.length : Int)) = false := by rw [HL.out]; simp
  generalize t.length = n at *
  generalize t'.length = n' at *
  clear m2 m2'
  go_enter Tryd.func26, Tryd.ntmps26
  go_wp2
  have x0 : ((w.alloc (.cells #[.int .i64 k, .slice a1 n c1, .slice a2 l.length c2] 29)).alloc (.cells #[.int .i64 k, .slice b1 n' d1, .slice b2 l'.length d2] 29)).heap[w.heap.size]? = some (.cells #[.int .i64 k, .slice a1 n c1, .slice a2 l.length c2] 29 (0, 0)) := (Below.heap_alloc _ _ _ (by rw [World.size_alloc]; omega)).trans (World.alloc_heap_new w _)
  have x1 : ((w.alloc (.cells #[.int .i64 k, .slice a1 n c1, .slice a2 l.length c2] 29)).alloc (.cells #[.int .i64 k, .slice b1 n' d1, .slice b2 l'.length d2] 29)).heap[w.heap.size + 1]? = some (.cells #[.int .i64 k, .slice b1 n' d1, .slice b2 l'.length d2] 29 (0, 0)) := by
    have := World.alloc_heap_new (w.alloc (.cells #[.int .i64 k, .slice a1 n c1, .slice a2 l.length c2] 29)) (.cells #[.int .i64 k, .slice b1 n' d1, .slice b2 l'.length d2] 29)
    rwa [World.size_alloc] at this
  have HB2 := Lib.hid (HBA.out (.cells #[.int .i64 k, .slice a1 n c1, .slice a2 l.length c2] 29) (.cells #[.int .i64 k, .slice b1 n' d1, .slice b2 l'.length d2] 29))
  have HX0 := Lib.hid x0
  have HX1 := Lib.hid x1
  clear x0 x1 hcv1 hcv2 HCA HCB hqe
  generalize ((w.alloc (.cells #[.int .i64 k, .slice a1 n c1, .slice a2 l.length c2] 29)).alloc (.cells #[.int .i64 k, .slice b1 n' d1, .slice b2 l'.length d2] 29)) = w2 at *
  go_loopw [5] (fun v5 wr => ∃ (i : Nat), i ≤ l.length ∧ v5 = .int .i64 (i : Int) ∧ Below w2.heap.size w2 wr ∧ Hid (∀ j (h1 : j < l.length) (h2 : j < l'.length), j < i → l[j] = l'[j])) (fun v5 _ => l.length - (intOf v5).toNat)
  case atStart => exact ⟨0, Nat.zero_le _, rfl, Below.refl _ _, fun j _ _ h => absurd h (Nat.not_lt_zero j)⟩
  case round =>
    obtain ⟨i, hi, rfl, hb, HAL⟩ := hrel
    have HB := Lib.hid hb
    clear hb
    have q0 := cell_of_row wr _ 2 _ _ _ ((HB.out.block _ (Array.getElem?_eq_some_iff.1 HX0.out).1).trans HX0.out)
    have q1 := cell_of_row wr _ 2 _ _ _ ((HB.out.block _ (Array.getElem?_eq_some_iff.1 HX1.out).1).trans HX1.out)
    simp only [List.getElem?_toArray, List.getElem?_cons_succ, List.getElem?_cons_zero] at q0 q1
    by_cases hlt : i < l.length
    · have hlt' : i < l'.length := by rw [← HL.out]; exact hlt
      have hbw : Below w.heap.size w wr := below_next HB2.out HB.out HB2.out.size
      have hr2 := HR.out.kept hbw
      have hr2' := HR'.out.kept hbw
      have e0 : oOf a2 + i * 3 + 1 = oOf a2 + (i * 3 + 1) := by omega
      have e1 : oOf a2 + i * 3 + 2 = oOf a2 + (i * 3 + 2) := by omega
      have f0 : oOf b2 + i * 3 + 1 = oOf b2 + (i * 3 + 1) := by omega
      have f1 : oOf b2 + i * 3 + 2 = oOf b2 + (i * 3 + 2) := by omega
      have p0 : wr.cell? ⟨bOf a2, oOf a2 + i * 3, none⟩ = some (V (i * 3)) := hr2.cell (i * 3) (by omega)
      have p1 : wr.cell? ⟨bOf a2, oOf a2 + i * 3 + 1, none⟩ = some (V (i * 3 + 1)) := by rw [e0]; exact hr2.cell _ (by omega)
      have p2 : wr.cell? ⟨bOf a2, oOf a2 + i * 3 + 2, none⟩ = some (V (i * 3 + 2)) := by rw [e1]; exact hr2.cell _ (by omega)
      have r0 : wr.cell? ⟨bOf b2, oOf b2 + i * 3, none⟩ = some (U (i * 3)) := hr2'.cell (i * 3) (by omega)
      have r1 : wr.cell? ⟨bOf b2, oOf b2 + i * 3 + 1, none⟩ = some (U (i * 3 + 1)) := by rw [f0]; exact hr2'.cell _ (by omega)
      have r2 : wr.cell? ⟨bOf b2, oOf b2 + i * 3 + 2, none⟩ = some (U (i * 3 + 2)) := by rw [f1]; exact hr2'.cell _ (by omega)
      have HK : Hid (∀ W, Below wr.heap.size wr W → Calls Tryd.prog 26 #[.agg #[V (i * 3), V (i * 3 + 1), V (i * 3 + 2)], .agg #[U (i * 3), U (i * 3 + 1), U (i * 3 + 2)]] W (SP W l[i] l'[i])) :=
        fun W hW => HIH.out i hlt hlt' W (below_next hbw hW hbw.size)
      have hx := fun W => HIX.out W i hlt
      have hx' := fun W => HIX'.out W i hlt'
      have HFI : Hid (l[i] ≠ l'[i] → (false = true ↔ QT.node k t l = QT.node k t' l')) := fun hne => ⟨fun h => Bool.noConfusion h, fun h => absurd h (HLN.out i hlt hlt' hne)⟩
      have HNX : Hid (l[i] = l'[i] → ∀ j (h1 : j < l.length) (h2 : j < l'.length), j < i + 1 → l[j] = l'[j]) := fun he j h1 h2 hj => by
        rcases Nat.lt_or_ge j i with h | h
        · exact HAL.out j h1 h2 h
        · obtain rfl : j = i := by omega
          exact he
      have HBW := Lib.hid hbw
      clear e0 e1 f0 f1 hr2 hr2' hbw HAL
      generalize l[i] = x at *
      generalize l'[i] = y at *
      generalize V (i * 3) = u0 at *
      generalize V (i * 3 + 1) = u1 at *
      generalize V (i * 3 + 2) = u2 at *
      generalize U (i * 3) = z0 at *
      generalize U (i * 3 + 1) = z1 at *
      generalize U (i * 3 + 2) = z2 at *
      go_wp2_with fail
      go_region_with (go_at_call 26; refine (HK.out _ (Below.refl _ _).drew).mono ?_; rintro e w4 ⟨bb, rfl, hbb, hb4⟩; have HBB := Lib.hid hbb; have HB4 : Hid (Below wr.heap.size wr w4) := ((Below.refl wr.heap.size wr).drew).trans hb4; clear hbb hb4)
      all_goals
        cases bb with
        | true =>
          have HN2 := Lib.hid (HNX.out (HBB.out.1 rfl))
          clear HBB HNX HFI hx hx' q0 q1 p0 p1 p2 r0 r1 r2
          go_wp2
          go_roundw
          case rel => exact ⟨i + 1, by omega, by go_num, below_next HB.out HB4.out HB.out.size, HN2⟩
          case measure => simp [intOf]; omega
        | false =>
          have HF2 := Lib.hid (HFI.out (fun h => Bool.noConfusion (HBB.out.2 h)))
          clear HBB HNX HFI hx hx' q0 q1 p0 p1 p2 r0 r1 r2
          go_wp2
          go_ret
          exact ⟨false, rfl, HF2.out, below_next HBW.out HB4.out HBW.out.size⟩
    · obtain rfl : i = l.length := by omega
      have hd : decide ((l.length : Int) < (l.length : Int)) = false := by simp
      have HY : Hid (QT.node k t l = QT.node k t' l') := HLL.out (fun j h1 h2 => HAL.out j h1 h2 h1)
      have HBW : Hid (Below w.heap.size w wr) := below_next HB2.out HB.out HB2.out.size
      clear HAL
      go_wp2
      go_ret
      exact ⟨true, rfl, ⟨fun _ => HY.out, fun _ => rfl⟩, HBW.out⟩
theorem rsame_any (q : QT) : QRSame q := QT.ind (Pp := QRSame) rsame_step q
end Go.Proofs.YtdcobmoeligdkaaDoor
namespace Go.Proofs.YtdcobmoeligdkaaDoor
open Go.RowKit Go.Shelf

set_option maxRecDepth 100000 in
set_option maxHeartbeats 4000000 in
theorem rsamecmd_any (w : World) (k1 n1 m1 c1 k2 n2 m2 c2 : Int) (a b : Option Addr) (ca cb : Nat) (L M : List UInt8) (ha : Row w a L.length (bV L)) (hb : Row w b M.length (bV M))
    (G G' : Nat → Prop) (qa qb : QT) (u0 u1 u2 v0 v1 v2 : Value) (hqa : QAt w G qa u0 u1 u2) (hqb : QAt w G' qb v0 v1 v2) :
    Calls Tryd.prog 12 #[cmdI k1 n1 m1 c1 (.slice a L.length ca) u0 u1 u2, cmdI k2 n2 m2 c2 (.slice b M.length cb) v0 v1 v2] w (SameP w (k1 = k2 ∧ L = M ∧ n1 = n2 ∧ m1 = m2 ∧ c1 = c2 ∧ qa = qb)) := by
  have HQS : Hid (∀ W, Below w.heap.size w W → Calls Tryd.prog 26 #[.agg #[u0, u1, u2], .agg #[v0, v1, v2]] W (SP W qa qb)) := fun W hW => rsame_any qa W G G' qb _ _ _ _ _ _ (hqa.kept hW) (hqb.kept hW)
  obtain ⟨x1, x2, x3, x4, x5, x6, rfl, rfl, rfl⟩ := hqa.form
  obtain ⟨y1, y2, y3, y4, y5, y6, rfl, rfl, rfl⟩ := hqb.form
  clear hqa hqb
  generalize hx0 : qa.k = x0 at *
  generalize hy0 : qb.k = y0 at *
  clear hx0 hy0
  have hbb : ∀ o1 o2, Below w.heap.size w ((w.alloc o1).alloc o2) := fun o1 o2 => ((Below.refl _ _).alloc (Nat.le_refl _) _).alloc (by simp) _
  have hcv1 : ∀ o1 o2, (convert 22 9 (.slice a L.length ca)).run Tryd.prog ((w.alloc o1).alloc o2) = .ok (.string (uS L)) ((w.alloc o1).alloc o2) := fun o1 o2 => convA _ a L ca (ha.kept (hbb o1 o2))
  have hcv2 : ∀ o1 o2, (convert 22 9 (.slice b M.length cb)).run Tryd.prog ((w.alloc o1).alloc o2) = .ok (.string (uS M)) ((w.alloc o1).alloc o2) := fun o1 o2 => convA _ b M cb (hb.kept (hbb o1 o2))
  have hqe := uS_eq L M
  obtain ⟨P, hP⟩ : ∃ P : Prop, P = (k1 = k2 ∧ L = M ∧ n1 = n2 ∧ m1 = m2 ∧ c1 = c2 ∧ qa = qb) := ⟨_, rfl⟩
  rw [← hP]
  have HB := Lib.hid (hbb (.cells #[.int .i64 k1, .slice a L.length ca, .int .i64 n1, .int .i64 m1, .int .i64 c1, .int .i64 x0, .slice x1 x2 x3, .slice x4 x5 x6] 31) (.cells #[.int .i64 k2, .slice b M.length cb, .int .i64 n2, .int .i64 m2, .int .i64 c2, .int .i64 y0, .slice y1 y2 y3, .slice y4 y5 y6] 31))
  have HY : Hid (∀ (x : Bool) W, (x = true ↔ P) → Below w.heap.size w W → SameP w P (.returned (.bool x)) W) := fun x W hx hW => ⟨x, rfl, hx, hW⟩
  have hfa : ¬ (k1 = k2 ∧ L = M ∧ n1 = n2 ∧ m1 = m2 ∧ c1 = c2 ∧ qa = qb) → ((false = true) ↔ P) := fun hp => ⟨fun h => Bool.noConfusion h, fun h => absurd (hP ▸ h) hp⟩
  have HPP := Lib.hid hP
  clear ha hb hbb hP
  unfold cmdI
  by_cases hk : k1 = k2
  rotate_left
  · have HF : Hid (∀ W, Below w.heap.size w W → SameP w P (.returned (.bool false)) W) := fun W hW => HY.out false W (hfa (fun h => hk h.1)) hW
    have he : (k1 == k2) = false := by rw [beq_eq_false_iff_ne]; exact hk
    clear HY hfa HQS hk HPP
    go_enter Tryd.func12, Tryd.ntmps12
    go_wp2
    go_ret
    exact HF.out _ HB.out
  subst hk
  by_cases hk : L = M
  rotate_left
  · have HF : Hid (∀ W, Below w.heap.size w W → SameP w P (.returned (.bool false)) W) := fun W hW => HY.out false W (hfa (fun h => hk h.2.1)) hW
    rw [decide_eq_false hk] at hqe
    clear HY hfa HQS hk HPP
    go_enter Tryd.func12, Tryd.ntmps12
    go_wp2
    go_ret
    exact HF.out _ HB.out
  rw [decide_eq_true hk] at hqe
  have HL := Lib.hid hk
  clear hk
  by_cases hk : n1 = n2
  rotate_left
  · have HF : Hid (∀ W, Below w.heap.size w W → SameP w P (.returned (.bool false)) W) := fun W hW => HY.out false W (hfa (fun h => hk h.2.2.1)) hW
    have he : (n1 == n2) = false := by rw [beq_eq_false_iff_ne]; exact hk
    clear HY hfa HQS hk HPP
    go_enter Tryd.func12, Tryd.ntmps12
    go_wp2
    go_ret
    exact HF.out _ HB.out
  subst hk
  by_cases hk : m1 = m2
  rotate_left
  · have HF : Hid (∀ W, Below w.heap.size w W → SameP w P (.returned (.bool false)) W) := fun W hW => HY.out false W (hfa (fun h => hk h.2.2.2.1)) hW
    have he : (m1 == m2) = false := by rw [beq_eq_false_iff_ne]; exact hk
    clear HY hfa HQS hk HPP
    go_enter Tryd.func12, Tryd.ntmps12
    go_wp2
    go_ret
    exact HF.out _ HB.out
  subst hk
  by_cases hk : c1 = c2
  rotate_left
  · have HF : Hid (∀ W, Below w.heap.size w W → SameP w P (.returned (.bool false)) W) := fun W hW => HY.out false W (hfa (fun h => hk h.2.2.2.2.1)) hW
    have he : (c1 == c2) = false := by rw [beq_eq_false_iff_ne]; exact hk
    clear HY hfa HQS hk HPP
    go_enter Tryd.func12, Tryd.ntmps12
    go_wp2
    go_ret
    exact HF.out _ HB.out
  subst hk
  have HF : Hid (∀ (x : Bool) W, (x = true ↔ qa = qb) → Below w.heap.size w W → SameP w P (.returned (.bool x)) W) := fun x W hx hW => HY.out x W (by rw [HPP.out]; exact hx.trans ⟨fun h => ⟨rfl, HL.out, rfl, rfl, rfl, h⟩, fun h => h.2.2.2.2.2⟩) hW
  clear HY HL hfa HPP
  go_enter Tryd.func12, Tryd.ntmps12
  go_wp2_with (go_at_call 26; refine (HQS.out _ HB.out).mono ?_; rintro e w4 ⟨bq, rfl, hbq, hb4⟩; have HBQ := Lib.hid hbq; have HB4 := Lib.hid hb4; clear hbq hb4)
  go_ret
  exact HF.out _ _ HBQ.out (below_next HB.out HB4.out HB.out.size)
end Go.Proofs.YtdcobmoeligdkaaDoor
