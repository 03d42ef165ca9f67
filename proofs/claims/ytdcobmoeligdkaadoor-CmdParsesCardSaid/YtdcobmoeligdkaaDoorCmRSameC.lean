/-
  concordanceref23.SameCmd: at any two commands.
-/
import Derived.Test.YtdcobmoeligdkaaDoorCmRSame
import Derived.Test.YtdcobmoeligdkaaDoorCmSame
namespace Go.Proofs.YtdcobmoeligdkaaDoor
open Go.RowKit Go.Shelf

set_option maxRecDepth 100000 in
set_option maxHeartbeats 4000000 in
theorem rsamecmd_any (w : World) (k1 n1 m1 c1 k2 n2 m2 c2 : Int) (a b : Option Addr) (ca cb : Nat) (L M : List UInt8) (ha : Row w a L.length (bV L)) (hb : Row w b M.length (bV M))
    (G G' : Nat → Prop) (qa qb : QT) (u0 u1 u2 v0 v1 v2 : Value) (hqa : QAt w G qa u0 u1 u2) (hqb : QAt w G' qb v0 v1 v2) :
    Calls Tryd.prog 12 #[cmdI k1 n1 m1 c1 (.slice a L.length ca) u0 u1 u2, cmdI k2 n2 m2 c2 (.slice b M.length cb) v0 v1 v2] w (SameP w (k1 = k2 ∧ L = M ∧ n1 = n2 ∧ m1 = m2 ∧ c1 = c2 ∧ qa = qb)) := by
  have HQS : Hid (∀ W, Below w.heap.size w W → Calls Tryd.prog 26 #[.agg #[u0, u1, u2], .agg #[v0, v1, v2]] W (SP W qa qb)) := fun W hW => rsame_any qa W G G' qb _ _ _ _ _ _ (hqa.kept hW) (hqb.kept hW)
  obtain ⟨x1, x2, x3, x4, x5, x6, rfl, rfl, rfl⟩ := hqa.form
  obtain ⟨y1, y2, y3, y4, y5, y6, rfl, rfl, rfl⟩ := hqb.form
  clear hqa hqb
  generalize hx0 : qa.k = x0 at *
  generalize hy0 : qb.k = y0 at *
  clear hx0 hy0
  have hbb : ∀ o1 o2, Below w.heap.size w ((w.alloc o1).alloc o2) := fun o1 o2 => ((Below.refl _ _).alloc (Nat.le_refl _) _).alloc (by simp) _
  have hcv1 : ∀ o1 o2, (convert 22 9 (.slice a L.length ca)).run Tryd.prog ((w.alloc o1).alloc o2) = .ok (.string (uS L)) ((w.alloc o1).alloc o2) := fun o1 o2 => convA _ a L ca (ha.kept (hbb o1 o2))
  have hcv2 : ∀ o1 o2, (convert 22 9 (.slice b M.length cb)).run Tryd.prog ((w.alloc o1).alloc o2) = .ok (.string (uS M)) ((w.alloc o1).alloc o2) := fun o1 o2 => convA _ b M cb (hb.kept (hbb o1 o2))
  have hqe := uS_eq L M
  obtain ⟨P, hP⟩ : ∃ P : Prop, P = (k1 = k2 ∧ L = M ∧ n1 = n2 ∧ m1 = m2 ∧ c1 = c2 ∧ qa = qb) := ⟨_, rfl⟩
  rw [← hP]
  have HB := Lib.hid (hbb (.cells #[.int .i64 k1, .slice a L.length ca, .int .i64 n1, .int .i64 m1, .int .i64 c1, .int .i64 x0, .slice x1 x2 x3, .slice x4 x5 x6] 31) (.cells #[.int .i64 k2, .slice b M.length cb, .int .i64 n2, .int .i64 m2, .int .i64 c2, .int .i64 y0, .slice y1 y2 y3, .slice y4 y5 y6] 31))
  have HY : Hid (∀ (x : Bool) W, (x = true ↔ P) → Below w.heap.size w W → SameP w P (.returned (.bool x)) W) := fun x W hx hW => ⟨x, rfl, hx, hW⟩
  have hfa : ¬ (k1 = k2 ∧ L = M ∧ n1 = n2 ∧ m1 = m2 ∧ c1 = c2 ∧ qa = qb) → ((false = true) ↔ P) := fun hp => ⟨fun h => Bool.noConfusion h, fun h => absurd (hP ▸ h) hp⟩
  have HPP := Lib.hid hP
  clear ha hb hbb hP
  unfold cmdI
  by_cases hk : k1 = k2
  rotate_left
  · have HF : Hid (∀ W, Below w.heap.size w W → SameP w P (.returned (.bool false)) W) := fun W hW => HY.out false W (hfa (fun h => hk h.1)) hW
    have he : (k1 == k2) = false := by rw [beq_eq_false_iff_ne]; exact hk
    clear HY hfa HQS hk HPP
    go_enter Tryd.func12, Tryd.ntmps12
    go_wp2
    go_ret
    exact HF.out _ HB.out
  subst hk
  by_cases hk : L = M
  rotate_left
  · have HF : Hid (∀ W, Below w.heap.size w W → SameP w P (.returned (.bool false)) W) := fun W hW => HY.out false W (hfa (fun h => hk h.2.1)) hW
    rw [decide_eq_false hk] at hqe
    clear HY hfa HQS hk HPP
    go_enter Tryd.func12, Tryd.ntmps12
    go_wp2
    go_ret
    exact HF.out _ HB.out
  rw [decide_eq_true hk] at hqe
  have HL := Lib.hid hk
  clear hk
  by_cases hk : n1 = n2
  rotate_left
  · have HF : Hid (∀ W, Below w.heap.size w W → SameP w P (.returned (.bool false)) W) := fun W hW => HY.out false W (hfa (fun h => hk h.2.2.1)) hW
    have he : (n1 == n2) = false := by rw [beq_eq_false_iff_ne]; exact hk
    clear HY hfa HQS hk HPP
    go_enter Tryd.func12, Tryd.ntmps12
    go_wp2
    go_ret
    exact HF.out _ HB.out
  subst hk
  by_cases hk : m1 = m2
  rotate_left
  · have HF : Hid (∀ W, Below w.heap.size w W → SameP w P (.returned (.bool false)) W) := fun W hW => HY.out false W (hfa (fun h => hk h.2.2.2.1)) hW
    have he : (m1 == m2) = false := by rw [beq_eq_false_iff_ne]; exact hk
    clear HY hfa HQS hk HPP
    go_enter Tryd.func12, Tryd.ntmps12
    go_wp2
    go_ret
    exact HF.out _ HB.out
  subst hk
  by_cases hk : c1 = c2
  rotate_left
  · have HF : Hid (∀ W, Below w.heap.size w W → SameP w P (.returned (.bool false)) W) := fun W hW => HY.out false W (hfa (fun h => hk h.2.2.2.2.1)) hW
    have he : (c1 == c2) = false := by rw [beq_eq_false_iff_ne]; exact hk
    clear HY hfa HQS hk HPP
    go_enter Tryd.func12, Tryd.ntmps12
    go_wp2
    go_ret
    exact HF.out _ HB.out
  subst hk
  have HF : Hid (∀ (x : Bool) W, (x = true ↔ qa = qb) → Below w.heap.size w W → SameP w P (.returned (.bool x)) W) := fun x W hx hW => HY.out x W (by rw [HPP.out]; exact hx.trans ⟨fun h => ⟨rfl, HL.out, rfl, rfl, rfl, h⟩, fun h => h.2.2.2.2.2⟩) hW
  clear HY HL hfa HPP
  go_enter Tryd.func12, Tryd.ntmps12
  go_wp2_with (go_at_call 26; refine (HQS.out _ HB.out).mono ?_; rintro e w4 ⟨bq, rfl, hbq, hb4⟩; have HBQ := Lib.hid hbq; have HB4 := Lib.hid hb4; clear hbq hb4)
  go_ret
  exact HF.out _ _ HBQ.out (below_next HB.out HB4.out HB.out.size)
end Go.Proofs.YtdcobmoeligdkaaDoor
