/-
  slices.CompactFunc with the set's closure: what Compact leaves.
-/
import Derived.Test.YtoifmfdaghmleaaBagMath
import Derived.Test.YtoifmfdaghmleaaProg
import Derived.Lib.SliceRun
import Derived.Lib.SlicesCompact
import Derived.Deep.LoopGhost
import Derived.Sort.WalkB12
import Derived.BigQuiet
import Derived.WalkKit
namespace Go.Proofs.Ytoifmfdaghmleaa
open Go.RowKit Go.Lib Go.Sort

/-- the set's closure tells whether two are one -/
def EqC {α : Type} [DecidableEq α] (g : Nat) (mk : α → Value) : Prop := ∀ (x y : α) (W : World), Calls Try.prog g #[mk x, mk y] W fun e w' => e = .returned (.bool (decide (x = y))) ∧ ∃ q, w' = W.drewN q

theorem cpt_upTo {α : Type} [Inhabited α] [DecidableEq α] (l : List α) : ∀ m, m ≤ l.length → compactUpTo l.toArray m = cpt (l.take m)
  | 0, _ => rfl
  | m + 1, h => by
    have ih := cpt_upTo l m (by omega)
    have e : l.take (m + 1) = l.take m ++ [l[m]] := by rw [List.take_add_one, List.getElem?_eq_getElem (by omega)]; rfl
    have e1 : l.toArray[m]! = l[m] := by rw [getElem!_pos _ _ (by simp; omega)]; simp
    rw [compactUpTo_succ, ih, e, cpt_snoc, e1]
    cases m with
    | zero => simp [keeps]
    | succ j =>
      have e2 : l.toArray[j + 1 - 1]! = l[j] := by rw [Nat.add_sub_cancel, getElem!_pos _ _ (by simp; omega)]; simp
      have e3 : (l.take (j + 1)).getLast? = some l[j] := by
        rw [List.getLast?_eq_getElem?, List.length_take, Nat.min_eq_left (by omega), List.getElem?_take_of_lt (by omega), Nat.add_sub_cancel, List.getElem?_eq_getElem (by omega)]
      unfold keeps
      rw [e1, e2, e3]
      by_cases k : l[j] = l[j + 1]
      · simp [k]
      · have : ¬ l[j + 1] = l[j] := fun h => k h.symm
        simp [k, this]
theorem cpt_all {α : Type} [Inhabited α] [DecidableEq α] (l : List α) : compactUpTo l.toArray l.length = cpt l := by rw [cpt_upTo l l.length (Nat.le_refl _), List.take_length]

theorem size_cI (w : World) : (sizeOf (Try.prog.elem 31)).run Try.prog w = .ok 1 w := by kernel_rfl
theorem zero_cI (w : World) : (zeroValue 3).run Try.prog w = .ok (.int .i64 0) w := by kernel_rfl
set_option maxRecDepth 100000 in
set_option maxHeartbeats 2000000 in
theorem compactI (w : World) (g n cap : Nat) (d : Array Int) (hn : d.size = n) (hH : Holds (fun x : Int => (.int .i64 x : Value)) w g 0 d) (hcap : n ≤ cap) (hmax : cap ≤ 9223372036854775807) (heq : EqC 71 (fun x : Int => (.int .i64 x : Value))) :
    Calls Try.prog 70 #[.slice (some ⟨g, 0, none⟩) n cap, .func (.func 71) #[] #[]] w fun e w' => e = .returned (.slice (some ⟨g, 0, none⟩) (compactUpTo d n).length cap) ∧
      ∃ q, w' = putRow (fun x : Int => (.int .i64 x : Value)) (Sort.ahead w q) g 0 (compactUpTo d n ++ List.replicate (n - (compactUpTo d n).length) (0)).toArray := by
  have same : ∀ q, (∀ j, j < n → keeps d j = true) → (compactUpTo d n).length = n ∧ w.drewN q = putRow (fun x : Int => (.int .i64 x : Value)) (Sort.ahead w q) g 0 (compactUpTo d n ++ List.replicate (n - (compactUpTo d n).length) (0)).toArray := by
    intro q hall
    have e : compactUpTo d n = d.toList := by rw [compactUpTo_all d _ hall, ← hn, range_map_get]
    rw [e, ← hn]
    refine ⟨by simp, ?_⟩
    simp only [Array.length_toList, Nat.sub_self, List.replicate_zero, List.append_nil, Array.toArray_toList]
    exact (putRow_self _ (Sort.ahead w q) g 0 d (holds_ahead _ w q g 0 d hH)).symm
  have HS := Lib.hid same
  have HE := Lib.hid heq
  have HH := Lib.hid hH
  have HN := Lib.hid hn
  clear same heq hH hn
  by_cases h2 : n < 2
  · have t1 : (n : Int) < 2 := by omega
    go_enter Try.func70, Try.ntmps70
    go_wp2
    go_ret
    obtain ⟨e1, e2⟩ := HS.out 0 (fun j hj => keeps_lt_one d j (by omega))
    exact ⟨by rw [e1]; rfl, 0, e2⟩
  · have t1 : decide ((n : Int) < 2) = false := by simp; omega
    have t1n : decide (n < 2) = false := by simp; omega
    have hix := run_ix (P := Try.prog) 31 (by kernel_rfl) size_cI (some ⟨g, 0, none⟩) n cap (.inr rfl) .i64
    simp only [bOf, oOf, Option.map_some, Option.getD_some, Nat.zero_add] at hix
    have HIX := Lib.hid hix
    clear hix
    go_enter Try.func70, Try.ntmps70
    go_wp2
    clear t1 t1n
    go_loopg [5, 6, 7] n (fun g0 v5 _ _ wr => ∃ k q : Nat, 1 ≤ k ∧ k ≤ n ∧ n - k ≤ g0 ∧ v5 = .int .i64 (k : Int) ∧ wr = w.drewN q ∧ ∀ j, j < k → keeps d j = true)
    case atStart => exact ⟨1, 0, Nat.le_refl _, by omega, by omega, rfl, rfl, keeps_lt_one d⟩
    case round =>
      obtain ⟨k, q, hk1, hk, hg0, rfl, hwr, hall⟩ := hrel
      have HALL := Lib.hid hall
      have HWR := Lib.hid hwr
      clear hall
      by_cases hlt : k < n
      · obtain ⟨j, hj⟩ : ∃ j, j + 1 = k := ⟨k - 1, by omega⟩
        have hx : wr.cell? ⟨g, k, none⟩ = some (.int .i64 d[k]!) := by rw [hwr]; have := (HH.out k (by rw [HN.out]; exact hlt)).1; rwa [Nat.zero_add] at this
        have hy : wr.cell? ⟨g, j, none⟩ = some (.int .i64 d[k - 1]!) := by rw [hwr]; have := (HH.out (k - 1) (by rw [HN.out]; omega)).1; rw [Nat.zero_add] at this; rwa [show j = k - 1 by omega]
        have hxk := fun W => HIX.out W k hlt
        have hyk := fun W => HIX.out W j (by omega)
        have y1 : IntKind.i64.wrap ((k : Int) - 1) = (j : Int) := by rw [show (k : Int) - 1 = (j : Int) by omega]; exact IntWalk.i64_in _ (by omega)
        have tk : (k : Int) < (n : Int) := by omega
        generalize hX : d[k]! = x at *
        generalize hY : d[k - 1]! = y at *
        have HX := Lib.hid hX
        have HY := Lib.hid hY
        have HJ := Lib.hid hj
        have HEQ := Lib.hid (fun W => HE.out x y W)
        clear hX hY hj hwr
        go_upto_region 6 with fail
        go_quiet (exact Calls.quiet_of (HEQ.out _))
        have hR0 : wr.drewN nq = w.drewN (q + nq) := by rw [HWR.out]; simp
        have HR0 := Lib.hid hR0
        clear hR0 hx hy hxk hyk y1 HEQ
        by_cases hxy : x = y
        · have e1 : decide (x = y) = true := by simpa using hxy
          have HI0 : Hid (CompInv d (k + 1) k d) := CompInv.start HALL.out (keeps_neg (by omega) (by rw [HX.out, HY.out]; exact hxy))
          rw [e1]
          generalize wr.drewN nq = W0 at *
          clear hxy e1 tk HX HY HJ HWR
          have hix2 := run_ix (P := Try.prog) 31 (by kernel_rfl) size_cI (some ⟨g, k, none⟩) (n - k) (cap - k) (.inr rfl) .i64
          simp only [bOf, oOf, Option.map_some, Option.getD_some] at hix2
          have HIX2 := Lib.hid hix2
          obtain ⟨nk, hnk⟩ : ∃ nk, nk = n - k := ⟨_, rfl⟩
          rw [← hnk] at HIX2
          clear hix2
          go_wp2
          rw [← hnk]
          have HNK : Hid (nk + k = n ∧ 1 ≤ nk) := by show _ ∧ _; omega
          clear hnk
          go_loopg [5, 7] nk (fun g0 v5 v7 wr => ∃ (kk i2 q2 : Nat) (dk : Array Int), 1 ≤ i2 ∧ i2 ≤ nk ∧ nk - i2 ≤ g0 ∧ v7 = .int .i64 (i2 : Int) ∧ v5 = .int .i64 (kk : Int) ∧ wr = putRow (fun x : Int => (.int .i64 x : Value)) (Sort.ahead w q2) g 0 dk ∧ CompInv d (k + i2) kk dk)
          case atStart => exact ⟨k, 1, q + nq, d, Nat.le_refl _, HNK.out.2, by omega, rfl, rfl, by rw [HR0.out]; exact (putRow_self _ (Sort.ahead w (q + nq)) g 0 d (holds_ahead _ w (q + nq) g 0 d HH.out)).symm, HI0.out⟩
          case round =>
            clear HI0 HR0
            obtain ⟨kk, i2, q2, dk, h1, h2i, hg2, rfl, rfl, hwr2, hI⟩ := hrel
            have HI := Lib.hid hI
            have HW2 := Lib.hid hwr2
            have hkk := hI.lt
            have hds := hI.size
            have hHk : Holds (fun x : Int => (.int .i64 x : Value)) wr g 0 dk := by rw [hwr2]; exact holds_putRow _ _ g 0 d dk (holds_ahead _ w q2 g 0 d HH.out) hds
            have HHK := Lib.hid hHk
            have HDS := Lib.hid hds
            clear hwr2 hds hHk
            by_cases hi2 : i2 < nk
            · obtain ⟨p, hp⟩ : ∃ p, p = k + i2 := ⟨_, rfl⟩
              obtain ⟨i1, hi1⟩ : ∃ i1, i1 + 1 = i2 := ⟨i2 - 1, by omega⟩
              have hnk := HNK.out
              have hx : wr.cell? ⟨g, k + i2, none⟩ = some (.int .i64 d[p]!) := by rw [← hI.high p (by omega), ← hp]; have := (HHK.out p (by rw [HDS.out, HN.out]; omega)).1; rwa [Nat.zero_add] at this
              have hy : wr.cell? ⟨g, k + i1, none⟩ = some (.int .i64 d[p - 1]!) := by rw [← hI.high (p - 1) (by omega), show k + i1 = p - 1 by omega]; have := (HHK.out (p - 1) (by rw [HDS.out, HN.out]; omega)).1; rwa [Nat.zero_add] at this
              have hz : wr.cell? ⟨g, kk, none⟩ = some (.int .i64 dk[kk]!) := by have := (HHK.out kk (by rw [HDS.out, HN.out]; omega)).1; rwa [Nat.zero_add] at this
              have hfz : wr.frozen? ⟨g, kk, none⟩ = false := by have := (HHK.out kk (by rw [HDS.out, HN.out]; omega)).2; rwa [Nat.zero_add] at this
              have hxk := fun W => HIX2.out W i2 (by omega)
              have hyk := fun W => HIX2.out W i1 (by omega)
              have hzk := fun W => HIX.out W kk (by omega)
              have Y1 : Hid (IntKind.i64.wrap ((i2 : Int) - 1) = (i1 : Int)) := by show _ = _; rw [show (i2 : Int) - 1 = (i1 : Int) by omega]; exact IntWalk.i64_in _ (by omega)
              have Y3 : Hid (IntKind.i64.wrap ((kk : Int) + 1) = (kk : Int) + 1) := IntWalk.i64_in _ (by omega)
              have Y4 : Hid (IntKind.i64.wrap ((i2 : Int) + 1) = (i2 : Int) + 1) := IntWalk.i64_in _ (by omega)
              have Y5 : Hid (wrap64 ((i2 : Int) + 1) = (i2 : Int) + 1) := IntWalk.wrap64_in _ (by omega)
              have tk : (i2 : Int) < (nk : Int) := by omega
              have hps : p < d.size := by rw [HN.out]; omega
              have hks : kk < dk.size := by rw [HDS.out, HN.out]; omega
              have HPS := Lib.hid hps
              have HKS := Lib.hid hks
              have HP := Lib.hid hp
              have hp0 : 0 < p := by omega
              have HP0 := Lib.hid hp0
              rw [← hp] at HI
              generalize hX : d[p]! = x2 at *
              generalize hY : d[p - 1]! = y2 at *
              generalize dk[kk]! = old at *
              have HX := Lib.hid hX
              have HY := Lib.hid hY
              have HEQ := Lib.hid (fun W => HE.out x2 y2 W)
              clear hX hY hp hi1 hI hnk hps hks hp0 hkk
              by_cases hxy : x2 = y2
              · have e1 : decide (x2 = y2) = true := by simpa using hxy
                have HI2 : Hid (CompInv d (p + 1) kk dk) := HI.out.skip (keeps_neg HP0.out (by rw [HX.out, HY.out]; exact hxy))
                rw [e1] at HEQ
                clear hxy e1 hz hfz hzk
                have y1 := Y1.out
                have y4 := Y4.out
                have y5 := Y5.out
                go_upto_region 11 with fail
                go_quiet (exact Calls.quiet_of (HEQ.out _))
                clear hx hy hxk hyk y1 tk
                have HI3 : Hid (wr.drewN nq = putRow (fun x : Int => (.int .i64 x : Value)) (Sort.ahead w (q2 + nq)) g 0 dk) := by show _ = _; rw [HW2.out, ← ahead_ahead]; rfl
                go_wp2
                go_roundg (nk - (i2 + 1))
                case measure => have hn9 := HNK.out; (try clear y3); clear y4 y5; omega
                case rel =>
                  have hn9 := HNK.out
                  clear y4 y5
                  exact ⟨kk, i2 + 1, q2 + nq, dk, by omega, by omega, Nat.le_refl _, by go_num, rfl, HI3.out, by rw [show k + (i2 + 1) = p + 1 by rw [HP.out]; omega]; exact HI2.out⟩
              · have e1 : decide (x2 = y2) = false := by simpa using hxy
                have HI2 : Hid (CompInv d (p + 1) (kk + 1) (dk.setIfInBounds kk x2)) := by have := HI.out.keep HPS.out (keeps_pos (by rw [HX.out, HY.out]; exact hxy)); rwa [HX.out] at this
                rw [e1] at HEQ
                clear hxy e1
                have y1 := Y1.out
                have y3 := Y3.out
                have y4 := Y4.out
                have y5 := Y5.out
                go_upto_region 11 with fail
                go_quiet (exact Calls.quiet_of (HEQ.out _))
                clear hy hyk y1 tk
                have HI3 : Hid ((wr.setCell ⟨g, kk, none⟩ (.int .i64 x2)).drewN nq = putRow (fun x : Int => (.int .i64 x : Value)) (Sort.ahead w (q2 + nq)) g 0 (dk.setIfInBounds kk x2)) := by
                  show _ = _
                  rw [HW2.out, ← putRow_set _ _ g 0 dk kk x2 HKS.out, ← ahead_ahead, Nat.zero_add]
                  rfl
                go_wp2
                go_roundg (nk - (i2 + 1))
                case measure => have hn9 := HNK.out; (try clear y3); clear y4 y5; omega
                case rel =>
                  have hn9 := HNK.out
                  clear y3 y4 y5
                  exact ⟨kk + 1, i2 + 1, q2 + nq, dk.setIfInBounds kk x2, by omega, by omega, Nat.le_refl _, by go_num, by go_num, HI3.out, by rw [show k + (i2 + 1) = p + 1 by rw [HP.out]; omega]; exact HI2.out⟩
            · have hend : k + i2 = n := by have := HNK.out; omega
              have hcl : ∀ ty, (Builtin.clear_ #[31] ty #[.slice (some ⟨g, kk, none⟩) (n - kk) (cap - kk)]).run Try.prog wr = .ok (.tuple #[]) (wr.setCells g kk (List.replicate (n - kk) (.int .i64 0))) :=
                fun ty => Lib.run_clear_slice wr _ _ ty _ Try.underlying31 zero_cI rfl rfl g kk _ _ (by omega) (fun j hj => by have := (HHK.out (kk + j) (by rw [HDS.out, HN.out]; omega)).1; rw [Nat.zero_add] at this; rw [this]; rfl) (fun j hj => by have := (HHK.out (kk + j) (by rw [HDS.out, HN.out]; omega)).2; rwa [Nat.zero_add] at this)
              have hi2n : decide ((i2 : Int) < (nk : Int)) = false := by simp; omega
              have hkn : (kk : Int) ≤ (n : Int) := by omega
              have HKN : Hid (kk < n) := by show _ < _; omega
              have hck : ¬ (cap = kk) := by omega
              have HEND := Lib.hid hend
              clear hI hend
              go_wp2
              go_ret
              have hI := HI.out
              rw [HEND.out, ← HN.out] at hI
              have hl : (compactUpTo d n).length = kk := by rw [← HN.out]; exact hI.len
              refine ⟨by rw [hl]; rfl, q2, ?_⟩
              have hdn := hI.done 0
              rw [HN.out] at hdn
              rw [hl, ← hdn, ← putRow_setCells _ _ g 0 _ dk kk (by simp; rw [HDS.out, HN.out]; have := HKN.out; omega), ← HW2.out, List.map_replicate, Nat.zero_add]
        · have e1 : decide (x = y) = false := by simpa using hxy
          have HK : Hid (keeps d k = true) := keeps_pos (by rw [HX.out, HY.out]; exact hxy)
          rw [e1]
          clear hxy e1 tk
          go_wp2
          go_roundg (n - (k + 1))
          case measure => omega
          case rel =>
            refine ⟨k + 1, q + nq, by omega, by omega, Nat.le_refl _, by go_num, HR0.out, fun j hj => ?_⟩
            by_cases e : j = k
            · rw [e]; exact HK.out
            · exact HALL.out j (by omega)
      · obtain rfl : k = n := by omega
        have hd : decide ((k : Int) < (k : Int)) = false := by simp
        clear hwr hlt
        go_wp2
        go_ret
        obtain ⟨e1, e2⟩ := HS.out q HALL.out
        exact ⟨by rw [e1]; rfl, q, by rw [HWR.out]; exact e2⟩
theorem size_cS (w : World) : (sizeOf (Try.prog.elem 32)).run Try.prog w = .ok 1 w := by kernel_rfl
theorem zero_cS (w : World) : (zeroValue 9).run Try.prog w = .ok (.string (⟨#[]⟩ : ByteArray)) w := by kernel_rfl
set_option maxRecDepth 100000 in
set_option maxHeartbeats 2000000 in
theorem compactS (w : World) (g n cap : Nat) (d : Array ByteArray) (hn : d.size = n) (hH : Holds (fun x : ByteArray => (.string x : Value)) w g 0 d) (hcap : n ≤ cap) (hmax : cap ≤ 9223372036854775807) (heq : EqC 80 (fun x : ByteArray => (.string x : Value))) :
    Calls Try.prog 79 #[.slice (some ⟨g, 0, none⟩) n cap, .func (.func 80) #[] #[]] w fun e w' => e = .returned (.slice (some ⟨g, 0, none⟩) (compactUpTo d n).length cap) ∧
      ∃ q, w' = putRow (fun x : ByteArray => (.string x : Value)) (Sort.ahead w q) g 0 (compactUpTo d n ++ List.replicate (n - (compactUpTo d n).length) ((⟨#[]⟩ : ByteArray))).toArray := by
  have same : ∀ q, (∀ j, j < n → keeps d j = true) → (compactUpTo d n).length = n ∧ w.drewN q = putRow (fun x : ByteArray => (.string x : Value)) (Sort.ahead w q) g 0 (compactUpTo d n ++ List.replicate (n - (compactUpTo d n).length) ((⟨#[]⟩ : ByteArray))).toArray := by
    intro q hall
    have e : compactUpTo d n = d.toList := by rw [compactUpTo_all d _ hall, ← hn, range_map_get]
    rw [e, ← hn]
    refine ⟨by simp, ?_⟩
    simp only [Array.length_toList, Nat.sub_self, List.replicate_zero, List.append_nil, Array.toArray_toList]
    exact (putRow_self _ (Sort.ahead w q) g 0 d (holds_ahead _ w q g 0 d hH)).symm
  have HS := Lib.hid same
  have HE := Lib.hid heq
  have HH := Lib.hid hH
  have HN := Lib.hid hn
  clear same heq hH hn
  by_cases h2 : n < 2
  · have t1 : (n : Int) < 2 := by omega
    go_enter Try.func79, Try.ntmps79
    go_wp2
    go_ret
    obtain ⟨e1, e2⟩ := HS.out 0 (fun j hj => keeps_lt_one d j (by omega))
    exact ⟨by rw [e1]; rfl, 0, e2⟩
  · have t1 : decide ((n : Int) < 2) = false := by simp; omega
    have t1n : decide (n < 2) = false := by simp; omega
    have hix := run_ix (P := Try.prog) 32 (by kernel_rfl) size_cS (some ⟨g, 0, none⟩) n cap (.inr rfl) .i64
    simp only [bOf, oOf, Option.map_some, Option.getD_some, Nat.zero_add] at hix
    have HIX := Lib.hid hix
    clear hix
    go_enter Try.func79, Try.ntmps79
    go_wp2
    clear t1 t1n
    go_loopg [5, 6, 7] n (fun g0 v5 _ _ wr => ∃ k q : Nat, 1 ≤ k ∧ k ≤ n ∧ n - k ≤ g0 ∧ v5 = .int .i64 (k : Int) ∧ wr = w.drewN q ∧ ∀ j, j < k → keeps d j = true)
    case atStart => exact ⟨1, 0, Nat.le_refl _, by omega, by omega, rfl, rfl, keeps_lt_one d⟩
    case round =>
      obtain ⟨k, q, hk1, hk, hg0, rfl, hwr, hall⟩ := hrel
      have HALL := Lib.hid hall
      have HWR := Lib.hid hwr
      clear hall
      by_cases hlt : k < n
      · obtain ⟨j, hj⟩ : ∃ j, j + 1 = k := ⟨k - 1, by omega⟩
        have hx : wr.cell? ⟨g, k, none⟩ = some (.string d[k]!) := by rw [hwr]; have := (HH.out k (by rw [HN.out]; exact hlt)).1; rwa [Nat.zero_add] at this
        have hy : wr.cell? ⟨g, j, none⟩ = some (.string d[k - 1]!) := by rw [hwr]; have := (HH.out (k - 1) (by rw [HN.out]; omega)).1; rw [Nat.zero_add] at this; rwa [show j = k - 1 by omega]
        have hxk := fun W => HIX.out W k hlt
        have hyk := fun W => HIX.out W j (by omega)
        have y1 : IntKind.i64.wrap ((k : Int) - 1) = (j : Int) := by rw [show (k : Int) - 1 = (j : Int) by omega]; exact IntWalk.i64_in _ (by omega)
        have tk : (k : Int) < (n : Int) := by omega
        generalize hX : d[k]! = x at *
        generalize hY : d[k - 1]! = y at *
        have HX := Lib.hid hX
        have HY := Lib.hid hY
        have HJ := Lib.hid hj
        have HEQ := Lib.hid (fun W => HE.out x y W)
        clear hX hY hj hwr
        go_upto_region 6 with fail
        go_quiet (exact Calls.quiet_of (HEQ.out _))
        have hR0 : wr.drewN nq = w.drewN (q + nq) := by rw [HWR.out]; simp
        have HR0 := Lib.hid hR0
        clear hR0 hx hy hxk hyk y1 HEQ
        by_cases hxy : x = y
        · have e1 : decide (x = y) = true := by simpa using hxy
          have HI0 : Hid (CompInv d (k + 1) k d) := CompInv.start HALL.out (keeps_neg (by omega) (by rw [HX.out, HY.out]; exact hxy))
          rw [e1]
          generalize wr.drewN nq = W0 at *
          clear hxy e1 tk HX HY HJ HWR
          have hix2 := run_ix (P := Try.prog) 32 (by kernel_rfl) size_cS (some ⟨g, k, none⟩) (n - k) (cap - k) (.inr rfl) .i64
          simp only [bOf, oOf, Option.map_some, Option.getD_some] at hix2
          have HIX2 := Lib.hid hix2
          obtain ⟨nk, hnk⟩ : ∃ nk, nk = n - k := ⟨_, rfl⟩
          rw [← hnk] at HIX2
          clear hix2
          go_wp2
          rw [← hnk]
          have HNK : Hid (nk + k = n ∧ 1 ≤ nk) := by show _ ∧ _; omega
          clear hnk
          go_loopg [5, 7] nk (fun g0 v5 v7 wr => ∃ (kk i2 q2 : Nat) (dk : Array ByteArray), 1 ≤ i2 ∧ i2 ≤ nk ∧ nk - i2 ≤ g0 ∧ v7 = .int .i64 (i2 : Int) ∧ v5 = .int .i64 (kk : Int) ∧ wr = putRow (fun x : ByteArray => (.string x : Value)) (Sort.ahead w q2) g 0 dk ∧ CompInv d (k + i2) kk dk)
          case atStart => exact ⟨k, 1, q + nq, d, Nat.le_refl _, HNK.out.2, by omega, rfl, rfl, by rw [HR0.out]; exact (putRow_self _ (Sort.ahead w (q + nq)) g 0 d (holds_ahead _ w (q + nq) g 0 d HH.out)).symm, HI0.out⟩
          case round =>
            clear HI0 HR0
            obtain ⟨kk, i2, q2, dk, h1, h2i, hg2, rfl, rfl, hwr2, hI⟩ := hrel
            have HI := Lib.hid hI
            have HW2 := Lib.hid hwr2
            have hkk := hI.lt
            have hds := hI.size
            have hHk : Holds (fun x : ByteArray => (.string x : Value)) wr g 0 dk := by rw [hwr2]; exact holds_putRow _ _ g 0 d dk (holds_ahead _ w q2 g 0 d HH.out) hds
            have HHK := Lib.hid hHk
            have HDS := Lib.hid hds
            clear hwr2 hds hHk
            by_cases hi2 : i2 < nk
            · obtain ⟨p, hp⟩ : ∃ p, p = k + i2 := ⟨_, rfl⟩
              obtain ⟨i1, hi1⟩ : ∃ i1, i1 + 1 = i2 := ⟨i2 - 1, by omega⟩
              have hnk := HNK.out
              have hx : wr.cell? ⟨g, k + i2, none⟩ = some (.string d[p]!) := by rw [← hI.high p (by omega), ← hp]; have := (HHK.out p (by rw [HDS.out, HN.out]; omega)).1; rwa [Nat.zero_add] at this
              have hy : wr.cell? ⟨g, k + i1, none⟩ = some (.string d[p - 1]!) := by rw [← hI.high (p - 1) (by omega), show k + i1 = p - 1 by omega]; have := (HHK.out (p - 1) (by rw [HDS.out, HN.out]; omega)).1; rwa [Nat.zero_add] at this
              have hz : wr.cell? ⟨g, kk, none⟩ = some (.string dk[kk]!) := by have := (HHK.out kk (by rw [HDS.out, HN.out]; omega)).1; rwa [Nat.zero_add] at this
              have hfz : wr.frozen? ⟨g, kk, none⟩ = false := by have := (HHK.out kk (by rw [HDS.out, HN.out]; omega)).2; rwa [Nat.zero_add] at this
              have hxk := fun W => HIX2.out W i2 (by omega)
              have hyk := fun W => HIX2.out W i1 (by omega)
              have hzk := fun W => HIX.out W kk (by omega)
              have Y1 : Hid (IntKind.i64.wrap ((i2 : Int) - 1) = (i1 : Int)) := by show _ = _; rw [show (i2 : Int) - 1 = (i1 : Int) by omega]; exact IntWalk.i64_in _ (by omega)
              have Y3 : Hid (IntKind.i64.wrap ((kk : Int) + 1) = (kk : Int) + 1) := IntWalk.i64_in _ (by omega)
              have Y4 : Hid (IntKind.i64.wrap ((i2 : Int) + 1) = (i2 : Int) + 1) := IntWalk.i64_in _ (by omega)
              have Y5 : Hid (wrap64 ((i2 : Int) + 1) = (i2 : Int) + 1) := IntWalk.wrap64_in _ (by omega)
              have tk : (i2 : Int) < (nk : Int) := by omega
              have hps : p < d.size := by rw [HN.out]; omega
              have hks : kk < dk.size := by rw [HDS.out, HN.out]; omega
              have HPS := Lib.hid hps
              have HKS := Lib.hid hks
              have HP := Lib.hid hp
              have hp0 : 0 < p := by omega
              have HP0 := Lib.hid hp0
              rw [← hp] at HI
              generalize hX : d[p]! = x2 at *
              generalize hY : d[p - 1]! = y2 at *
              generalize dk[kk]! = old at *
              have HX := Lib.hid hX
              have HY := Lib.hid hY
              have HEQ := Lib.hid (fun W => HE.out x2 y2 W)
              clear hX hY hp hi1 hI hnk hps hks hp0 hkk
              by_cases hxy : x2 = y2
              · have e1 : decide (x2 = y2) = true := by simpa using hxy
                have HI2 : Hid (CompInv d (p + 1) kk dk) := HI.out.skip (keeps_neg HP0.out (by rw [HX.out, HY.out]; exact hxy))
                rw [e1] at HEQ
                clear hxy e1 hz hfz hzk
                have y1 := Y1.out
                have y4 := Y4.out
                have y5 := Y5.out
                go_upto_region 11 with fail
                go_quiet (exact Calls.quiet_of (HEQ.out _))
                clear hx hy hxk hyk y1 tk
                have HI3 : Hid (wr.drewN nq = putRow (fun x : ByteArray => (.string x : Value)) (Sort.ahead w (q2 + nq)) g 0 dk) := by show _ = _; rw [HW2.out, ← ahead_ahead]; rfl
                go_wp2
                go_roundg (nk - (i2 + 1))
                case measure => have hn9 := HNK.out; (try clear y3); clear y4 y5; omega
                case rel =>
                  have hn9 := HNK.out
                  clear y4 y5
                  exact ⟨kk, i2 + 1, q2 + nq, dk, by omega, by omega, Nat.le_refl _, by go_num, rfl, HI3.out, by rw [show k + (i2 + 1) = p + 1 by rw [HP.out]; omega]; exact HI2.out⟩
              · have e1 : decide (x2 = y2) = false := by simpa using hxy
                have HI2 : Hid (CompInv d (p + 1) (kk + 1) (dk.setIfInBounds kk x2)) := by have := HI.out.keep HPS.out (keeps_pos (by rw [HX.out, HY.out]; exact hxy)); rwa [HX.out] at this
                rw [e1] at HEQ
                clear hxy e1
                have y1 := Y1.out
                have y3 := Y3.out
                have y4 := Y4.out
                have y5 := Y5.out
                go_upto_region 11 with fail
                go_quiet (exact Calls.quiet_of (HEQ.out _))
                clear hy hyk y1 tk
                have HI3 : Hid ((wr.setCell ⟨g, kk, none⟩ (.string x2)).drewN nq = putRow (fun x : ByteArray => (.string x : Value)) (Sort.ahead w (q2 + nq)) g 0 (dk.setIfInBounds kk x2)) := by
                  show _ = _
                  rw [HW2.out, ← putRow_set _ _ g 0 dk kk x2 HKS.out, ← ahead_ahead, Nat.zero_add]
                  rfl
                go_wp2
                go_roundg (nk - (i2 + 1))
                case measure => have hn9 := HNK.out; (try clear y3); clear y4 y5; omega
                case rel =>
                  have hn9 := HNK.out
                  clear y3 y4 y5
                  exact ⟨kk + 1, i2 + 1, q2 + nq, dk.setIfInBounds kk x2, by omega, by omega, Nat.le_refl _, by go_num, by go_num, HI3.out, by rw [show k + (i2 + 1) = p + 1 by rw [HP.out]; omega]; exact HI2.out⟩
            · have hend : k + i2 = n := by have := HNK.out; omega
              have hcl : ∀ ty, (Builtin.clear_ #[32] ty #[.slice (some ⟨g, kk, none⟩) (n - kk) (cap - kk)]).run Try.prog wr = .ok (.tuple #[]) (wr.setCells g kk (List.replicate (n - kk) (.string (⟨#[]⟩ : ByteArray)))) :=
                fun ty => Lib.run_clear_slice wr _ _ ty _ Try.underlying32 zero_cS rfl rfl g kk _ _ (by omega) (fun j hj => by have := (HHK.out (kk + j) (by rw [HDS.out, HN.out]; omega)).1; rw [Nat.zero_add] at this; rw [this]; rfl) (fun j hj => by have := (HHK.out (kk + j) (by rw [HDS.out, HN.out]; omega)).2; rwa [Nat.zero_add] at this)
              have hi2n : decide ((i2 : Int) < (nk : Int)) = false := by simp; omega
              have hkn : (kk : Int) ≤ (n : Int) := by omega
              have HKN : Hid (kk < n) := by show _ < _; omega
              have hck : ¬ (cap = kk) := by omega
              have HEND := Lib.hid hend
              clear hI hend
              go_wp2
              go_ret
              have hI := HI.out
              rw [HEND.out, ← HN.out] at hI
              have hl : (compactUpTo d n).length = kk := by rw [← HN.out]; exact hI.len
              refine ⟨by rw [hl]; rfl, q2, ?_⟩
              have hdn := hI.done (⟨#[]⟩ : ByteArray)
              rw [HN.out] at hdn
              rw [hl, ← hdn, ← putRow_setCells _ _ g 0 _ dk kk (by simp; rw [HDS.out, HN.out]; have := HKN.out; omega), ← HW2.out, List.map_replicate, Nat.zero_add]
        · have e1 : decide (x = y) = false := by simpa using hxy
          have HK : Hid (keeps d k = true) := keeps_pos (by rw [HX.out, HY.out]; exact hxy)
          rw [e1]
          clear hxy e1 tk
          go_wp2
          go_roundg (n - (k + 1))
          case measure => omega
          case rel =>
            refine ⟨k + 1, q + nq, by omega, by omega, Nat.le_refl _, by go_num, HR0.out, fun j hj => ?_⟩
            by_cases e : j = k
            · rw [e]; exact HK.out
            · exact HALL.out j (by omega)
      · obtain rfl : k = n := by omega
        have hd : decide ((k : Int) < (k : Int)) = false := by simp
        clear hwr hlt
        go_wp2
        go_ret
        obtain ⟨e1, e2⟩ := HS.out q HALL.out
        exact ⟨by rw [e1]; rfl, q, by rw [HWR.out]; exact e2⟩
end Go.Proofs.Ytoifmfdaghmleaa
