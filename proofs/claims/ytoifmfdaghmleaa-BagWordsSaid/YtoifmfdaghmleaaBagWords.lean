/-
  BagWords: sets of texts are in the order of their bytes; what is joined of them is as many as it may be, and members.
-/
import Derived.Test.YtoifmfdaghmleaaBagStepS
import Derived.Test.YtoifmfdaghmleaaStrOpen
set_option linter.unusedVariables false
namespace Go.Proofs.Ytoifmfdaghmleaa
open Go.RowKit Go.Lib Go.Sort Go.Shelf
theorem take_allS {l : List ByteArray} {n : Nat} (h : l.length ≤ n) : l.take n = l := List.take_of_length_le h
theorem egPtrS (p : Nat) (W : World) : (binOp .eql 52 (.pointer (some ⟨p, 0, none⟩)) (.pointer none)).run Try.prog W = .ok (.bool false) W := by kernel_rfl
theorem row_listOfS {w : World} {a : Option Addr} {n : Nat} {f : Nat → ByteArray} (h : Row w a n (fun k => .string (f k))) : Row w a n (fun j => Value.string ((listOf f n).getD j ⟨#[]⟩)) := h.congr fun j hj => by
  show _ = Value.string _
  rw [listOf_getD f n j _ hj]
theorem getD_mem {α : Type} {l : List α} {k : Nat} {d : α} (h : k < l.length) : l.getD k d ∈ l := by
  rw [List.getD_eq_getElem?_getD, List.getElem?_eq_getElem h]; exact List.getElem_mem _
theorem rise_step {α : Type} {lt : α → α → Bool} {l : List α} (hl : Rise lt l) {k : Nat} {d : α} (h : k < l.length) (h0 : 0 < k) : lt (l.getD (k - 1) d) (l.getD k d) = true := by
  rw [List.getD_eq_getElem?_getD, List.getD_eq_getElem?_getD, List.getElem?_eq_getElem h, List.getElem?_eq_getElem (show k - 1 < l.length by omega)]
  exact (List.pairwise_iff_getElem.1 hl) (k - 1) k (by omega) h (by omega)
set_option maxRecDepth 100000 in
set_option maxHeartbeats 8000000 in
theorem bagWords_walk (w : World) (a : Option Addr) (n cap : Nat) (f : Nat → ByteArray) (hl : n ≤ maxLen) (h : Row w a n (fun k => .string (f k)) ∧ ∀ k, k < n → (f k).size ≤ maxLen) (b : Option Addr) (m cab : Nat) (g : Nat → ByteArray) (hl2 : m ≤ maxLen) (h2 : Row w b m (fun k => .string (g k)) ∧ ∀ k, k < m → (g k).size ≤ maxLen) :
    Calls Try.prog 7 #[.slice a n cap, .slice b m cab] w fun e w' => e = .returned (.bool true) ∧ Below w.heap.size w w' := by
  have HAW := Lib.hid (fun W => awake5_any W)
  by_cases h60 : (60 : Int) < (n : Int)
  · clear h h2
    go_enter Try.func7, Try.ntmps7
    go_wp2_with (go_at_call 23; refine (HAW.out _).mono ?_; rintro e w' ⟨rfl, hb⟩; have HB := Lib.hid hb; clear hb)
    go_ret
    exact ⟨rfl, HB.out⟩
  by_cases h61 : (60 : Int) < (m : Int)
  · clear h h2
    go_enter Try.func7, Try.ntmps7
    go_wp2_with (go_at_call 23; refine (HAW.out _).mono ?_; rintro e w' ⟨rfl, hb⟩; have HB := Lib.hid hb; clear hb)
    go_ret
    exact ⟨rfl, HB.out⟩
  have hr := row_listOfS h.1
  have hr2 := row_listOfS h2.1
  have hn : n ≤ 60 := by omega
  have hm : m ≤ 60 := by omega
  obtain ⟨L, hL⟩ : ∃ l, l = listOf f n := ⟨_, rfl⟩
  obtain ⟨M, hM⟩ : ∃ l, l = listOf g m := ⟨_, rfl⟩
  obtain rfl : n = L.length := by rw [hL]; exact (listOf_len f n).symm
  obtain rfl : m = M.length := by rw [hM]; exact (listOf_len g m).symm
  rw [← hL] at hr
  rw [← hM] at hr2
  clear h h2 hL hM hl hl2
  have HS : Hid (LwS w w [] [(a, L), (b, M)] []) := ⟨Below.refl _ _, fun s hs => (List.not_mem_nil hs).elim, fun r hr' => by
    rcases List.mem_cons.1 hr' with rfl | h'
    · exact hr
    · rcases List.mem_cons.1 h' with rfl | h''
      · exact hr2
      · exact (List.not_mem_nil h'').elim, fun s hs => (List.not_mem_nil hs).elim⟩
  have HLN := Lib.hid hn
  have HMN := Lib.hid hm
  clear hr hr2 hn hm
  go_enter Try.func7, Try.ntmps7
  go_wp2_with fail
  refine (stNewS HS.out a cap L (by simp only [List.mem_cons, eq_self, true_or, or_true]) (by have := HLN.out; omega)).mono ?_
  rintro e W ⟨p, vp, rfl, hs⟩
  replace HS := Lib.hid hs
  clear hs
  go_wp2_with fail
  refine (stNewS HS.out b cab M (by simp only [List.mem_cons, eq_self, true_or, or_true]) (by have := HMN.out; omega)).mono ?_
  rintro e W ⟨q, vq, rfl, hs⟩
  replace HS := Lib.hid hs
  clear hs
  have hA := setL_len (lt := ltT) L
  have hB := setL_len (lt := ltT) M
  have RA := Lib.hid (setL_is ordT L).1
  have RB := Lib.hid (setL_is ordT M).1
  have HA : Hid ((setL ltT L).length ≤ 60) := by have := HLN.out; show _ ≤ _; omega
  have HB : Hid ((setL ltT M).length ≤ 60) := by have := HMN.out; show _ ≤ _; omega
  obtain ⟨A, hA2⟩ : ∃ A, A = setL ltT L := ⟨_, rfl⟩
  obtain ⟨B, hB2⟩ : ∃ B, B = setL ltT M := ⟨_, rfl⟩
  rw [← hA2, ← hB2] at HS
  rw [← hA2] at HA RA
  rw [← hB2] at HB RB
  clear hA hB hA2 hB2
  have egP := fun W => egPtrS p W
  have egQ := fun W => egPtrS q W
  have HUM := Lib.hid (fun z => @un_mem _ _ ordT A B RA.out RB.out z)
  have HVM := Lib.hid (fun z => @bo_mem _ _ ordT A B RA.out RB.out z)
  have HWM := Lib.hid (fun z => @le_mem _ _ ordT A B RA.out RB.out z)
  have HUR := Lib.hid (joinL_rise ordT true true true RA.out RB.out)
  have HE1 := Lib.hid (un_len ordT _ A B (Nat.le_refl _) RA.out RB.out)
  have HE2 := Lib.hid (bo_le_len ordT RA.out RB.out)
  obtain ⟨U, hU⟩ : ∃ U, U = unL ltT A B := ⟨_, rfl⟩
  obtain ⟨V, hV⟩ : ∃ V, V = boL ltT A B := ⟨_, rfl⟩
  obtain ⟨Z, hZ⟩ : ∃ Z, Z = leL ltT A B := ⟨_, rfl⟩
  have HU := Lib.hid hU
  have HV := Lib.hid hV
  have HZ := Lib.hid hZ
  rw [← hU] at HUM HE1
  rw [show joinL ltT true true true A B = U from hU.symm] at HUR
  rw [← hV] at HVM HE1 HE2
  rw [← hZ] at HWM HE2
  clear hU hV hZ
  have HUL : Hid (U.length ≤ 120) := by have := HE1.out; have := HA.out; have := HB.out; show _ ≤ _; omega
  have HVL : Hid (V.length ≤ 60) := by have := HE2.out; have := HA.out; show _ ≤ _; omega
  have HZL : Hid (Z.length ≤ 60) := by have := HE2.out; have := HA.out; show _ ≤ _; omega
  go_wp2_with fail
  refine (stAllS HS.out p vp A (by simp only [List.mem_cons, eq_self, true_or, or_true]) (by have := HA.out; omega)).mono ?_
  rintro e W ⟨f1, rfl, hs⟩
  replace HS := Lib.hid hs
  clear hs
  go_wp2_with fail
  refine (stAllS HS.out q vq B (by simp only [List.mem_cons, eq_self, true_or, or_true]) (by have := HB.out; omega)).mono ?_
  rintro e W ⟨f2, rfl, hs⟩
  replace HS := Lib.hid hs
  clear hs
  go_wp2_with fail
  refine (stUnionS HS.out f1 f2 noB noB A B (by simp only [List.mem_cons, eq_self, true_or, or_true]) (by simp only [List.mem_cons, eq_self, true_or, or_true]) (by have := HA.out; omega) (by have := HB.out; omega)).mono ?_
  rintro e W ⟨f3, D3, rfl, hs⟩
  replace HS := Lib.hid hs
  clear hs
  go_wp2_with fail
  refine (stFirstS HS.out f3 D3 (unL ltT A B) U (by simp only [List.mem_cons, eq_self, true_or, or_true]) 1000 (by rw [← HU.out]; exact take_allS (by have := HUL.out; omega)) (by rw [← HU.out]; have := HUL.out; omega) (by omega)).mono ?_
  rintro e W ⟨au, cau, rfl, hs⟩
  replace HS := Lib.hid (hs.setI (Is' := []) (fun i hi => (List.not_mem_nil hi).elim))
  clear hs
  go_wp2_with fail
  refine (stAllS HS.out p vp A (by simp only [List.mem_cons, eq_self, true_or, or_true]) (by have := HA.out; omega)).mono ?_
  rintro e W ⟨f1, rfl, hs⟩
  replace HS := Lib.hid hs
  clear hs
  go_wp2_with fail
  refine (stAllS HS.out q vq B (by simp only [List.mem_cons, eq_self, true_or, or_true]) (by have := HB.out; omega)).mono ?_
  rintro e W ⟨f2, rfl, hs⟩
  replace HS := Lib.hid hs
  clear hs
  go_wp2_with fail
  refine (stBothS HS.out f1 f2 noB noB A B (by simp only [List.mem_cons, eq_self, true_or, or_true]) (by simp only [List.mem_cons, eq_self, true_or, or_true]) (by have := HA.out; omega) (by have := HB.out; omega)).mono ?_
  rintro e W ⟨f3, D3, rfl, hs⟩
  replace HS := Lib.hid hs
  clear hs
  go_wp2_with fail
  refine (stFirstS HS.out f3 D3 (boL ltT A B) V (by simp only [List.mem_cons, eq_self, true_or, or_true]) 1000 (by rw [← HV.out]; exact take_allS (by have := HVL.out; omega)) (by rw [← HV.out]; have := HVL.out; omega) (by omega)).mono ?_
  rintro e W ⟨av, cav, rfl, hs⟩
  replace HS := Lib.hid (hs.setI (Is' := []) (fun i hi => (List.not_mem_nil hi).elim))
  clear hs
  go_wp2_with fail
  refine (stAllS HS.out p vp A (by simp only [List.mem_cons, eq_self, true_or, or_true]) (by have := HA.out; omega)).mono ?_
  rintro e W ⟨f1, rfl, hs⟩
  replace HS := Lib.hid hs
  clear hs
  go_wp2_with fail
  refine (stAllS HS.out q vq B (by simp only [List.mem_cons, eq_self, true_or, or_true]) (by have := HB.out; omega)).mono ?_
  rintro e W ⟨f2, rfl, hs⟩
  replace HS := Lib.hid hs
  clear hs
  go_wp2_with fail
  refine (stLessS HS.out f1 f2 noB noB A B (by simp only [List.mem_cons, eq_self, true_or, or_true]) (by simp only [List.mem_cons, eq_self, true_or, or_true]) (by have := HA.out; omega) (by have := HB.out; omega)).mono ?_
  rintro e W ⟨f3, D3, rfl, hs⟩
  replace HS := Lib.hid hs
  clear hs
  go_wp2_with fail
  refine (stFirstS HS.out f3 D3 (leL ltT A B) Z (by simp only [List.mem_cons, eq_self, true_or, or_true]) 1000 (by rw [← HZ.out]; exact take_allS (by have := HZL.out; omega)) (by rw [← HZ.out]; have := HZL.out; omega) (by omega)).mono ?_
  rintro e w1 ⟨az, caz, rfl, hs⟩
  replace HS := Lib.hid (hs.setI (Is' := []) (fun i hi => (List.not_mem_nil hi).elim))
  clear hs
  have HP := Lib.hid (fun W (hW : Below w1.heap.size w1 W) x => hasS W p vp A ((HS.out.sets (p, vp, A) (by simp only [List.mem_cons, eq_self, true_or, or_true])).kept hW) (by have := HA.out; omega) x)
  have HQ := Lib.hid (fun W (hW : Below w1.heap.size w1 W) x => hasS W q vq B ((HS.out.sets (q, vq, B) (by simp only [List.mem_cons, eq_self, true_or, or_true])).kept hW) (by have := HB.out; omega) x)
  have HRU : Hid (Row w1 au U.length (fun j => Value.string (U.getD j ⟨#[]⟩))) := HS.out.rows (au, U) (by simp only [List.mem_cons, eq_self, true_or, or_true])
  have HRV : Hid (Row w1 av V.length (fun j => Value.string (V.getD j ⟨#[]⟩))) := HS.out.rows (av, V) (by simp only [List.mem_cons, eq_self, true_or, or_true])
  have HRZ : Hid (Row w1 az Z.length (fun j => Value.string (Z.getD j ⟨#[]⟩))) := HS.out.rows (az, Z) (by simp only [List.mem_cons, eq_self, true_or, or_true])
  have HLP := Lib.hid (lenS w1 p vp A (HS.out.sets (p, vp, A) (by simp only [List.mem_cons, eq_self, true_or, or_true])))
  have HLQ := Lib.hid (lenS w1 q vq B (HS.out.sets (q, vq, B) (by simp only [List.mem_cons, eq_self, true_or, or_true])))
  have HB0 := Lib.hid HS.out.bel
  clear HS
  generalize hal : A.length = al at *
  generalize hbl : B.length = bl at *
  generalize hul : U.length = ul at *
  generalize hvl : V.length = vl at *
  generalize hzl : Z.length = zl at *
  have HUN := Lib.hid hul
  have HVN := Lib.hid hvl
  have HZN := Lib.hid hzl
  clear hal hbl hul hvl hzl
  have b1 : al ≤ 60 := HA.out
  have b2 : bl ≤ 60 := HB.out
  have b3 : vl ≤ 60 := HVL.out
  have b4 : (al : Int) + (bl : Int) - (vl : Int) = (ul : Int) := by have := HE1.out; omega
  have b5 : (al : Int) - (vl : Int) = (zl : Int) := by have := HE2.out; omega
  go_wp2_with fail
  refine HLP.out.mono ?_
  rintro e W ⟨rfl, rfl⟩
  go_wp2_with fail
  refine HLQ.out.mono ?_
  rintro e W ⟨rfl, rfl⟩
  go_wp2_with fail
  refine HLP.out.mono ?_
  rintro e W ⟨rfl, rfl⟩
  have hixu := run_ix (P := Try.prog) 32 (by kernel_rfl) size_sS au ul cau HRU.out.at_ .i64
  have hixv := run_ix (P := Try.prog) 32 (by kernel_rfl) size_sS av vl cav HRV.out.at_ .i64
  have hixz := run_ix (P := Try.prog) 32 (by kernel_rfl) size_sS az zl caz HRZ.out.at_ .i64
  have HIXU := Lib.hid hixu
  have HIXV := Lib.hid hixv
  have HIXZ := Lib.hid hixz
  clear egP egQ HLP HLQ hixu hixv hixz
  go_wp2
  clear b1 b2 b3 b4 b5
  go_loopw [10] (fun v10 wr => ∃ k : Nat, k ≤ ul ∧ v10 = .int .i64 (k : Int) ∧ Below W.heap.size W wr) (fun v10 _ => ul - (intOf v10).toNat)
  case atStart => exact ⟨0, Nat.zero_le _, rfl, Below.refl _ _⟩
  case round =>
    obtain ⟨k, hk, rfl, hb⟩ := hrel
    have HBK := Lib.hid hb
    by_cases hlt : k < ul
    · have hkl : k < U.length := by rw [HUN.out]; exact hlt
      have d := (HRU.out.kept hb).cell k hlt
      have hxk := fun W => HIXU.out W k hlt
      have hm := (HUM.out _).1 (getD_mem (d := ⟨#[]⟩) hkl)
      have tk : (k : Int) < (ul : Int) := by omega
      have hul : (ul : Int) ≤ 120 := by have := HUL.out; omega
      by_cases hk0 : 0 < k
      · have d2 := (HRU.out.kept hb).cell (k - 1) (by omega)
        have hxk2 := fun W => HIXU.out W (k - 1) (by omega)
        rw [show ((k - 1 : Nat) : Int) = (k : Int) - 1 by omega] at hxk2
        have hlt2 := rise_step HUR.out (d := ⟨#[]⟩) hkl hk0
        have t1 := ordT.asym hlt2
        have t2 := ba_eqs (U.getD k ⟨#[]⟩) (U.getD (k - 1) ⟨#[]⟩)
        rw [decide_eq_false (fun e => ordT.ne hlt2 e.symm)] at t2
        unfold ltT at t1
        have t0 : (0 : Int) < (k : Int) := by omega
        clear hlt2 hkl
        generalize U.getD k ⟨#[]⟩ = x at *
        generalize U.getD (k - 1) ⟨#[]⟩ = y at *
        by_cases hxA : x ∈ A
        · have HPX := Lib.hid (fun j => HP.out _ (below_drewN HBK.out j) x)
          rw [memB_true hxA] at HPX
          clear hm hxA hb
          go_wp2
          go_quiet (exact Calls.quiet_of_same (HPX.out _))
          have HBN := Lib.hid (below_drewN HBK.out nq)
          clear d d2 hxk hxk2 HPX
          go_wp2
          go_roundw
          case rel => exact ⟨k + 1, by omega, by go_num, HBN.out⟩
          case measure => simp [intOf]; omega
        · have hxB := hm.resolve_left hxA
          have HPX := Lib.hid (fun j => HP.out _ (below_drewN HBK.out j) x)
          have HQX := Lib.hid (fun j => HQ.out _ (below_drewN HBK.out j) x)
          rw [memB_false hxA] at HPX
          rw [memB_true hxB] at HQX
          clear hm hxA hxB hb
          go_wp2
          go_quiet (first | (with_reducible exact Calls.quiet_of_same (HPX.out _)) | (with_reducible exact Calls.quiet_of_same (HQX.out _)))
          have HBN := Lib.hid (below_drewN HBK.out nq)
          clear d d2 hxk hxk2 HPX HQX
          go_wp2
          go_roundw
          case rel => exact ⟨k + 1, by omega, by go_num, HBN.out⟩
          case measure => simp [intOf]; omega
      · have t0 : ¬ (0 : Int) < (k : Int) := by omega
        clear hkl
        generalize U.getD k ⟨#[]⟩ = x at *
        by_cases hxA : x ∈ A
        · have HPX := Lib.hid (fun j => HP.out _ (below_drewN HBK.out j) x)
          rw [memB_true hxA] at HPX
          clear hm hxA hb
          go_wp2
          go_quiet (exact Calls.quiet_of_same (HPX.out _))
          have HBN := Lib.hid (below_drewN HBK.out nq)
          clear d hxk HPX
          go_wp2
          go_roundw
          case rel => exact ⟨k + 1, by omega, by go_num, HBN.out⟩
          case measure => simp [intOf]; omega
        · have hxB := hm.resolve_left hxA
          have HPX := Lib.hid (fun j => HP.out _ (below_drewN HBK.out j) x)
          have HQX := Lib.hid (fun j => HQ.out _ (below_drewN HBK.out j) x)
          rw [memB_false hxA] at HPX
          rw [memB_true hxB] at HQX
          clear hm hxA hxB hb
          go_wp2
          go_quiet (first | (with_reducible exact Calls.quiet_of_same (HPX.out _)) | (with_reducible exact Calls.quiet_of_same (HQX.out _)))
          have HBN := Lib.hid (below_drewN HBK.out nq)
          clear d hxk HPX HQX
          go_wp2
          go_roundw
          case rel => exact ⟨k + 1, by omega, by go_num, HBN.out⟩
          case measure => simp [intOf]; omega
    · have hd : ¬ (k : Int) < (ul : Int) := by omega
      clear hb
      go_wp2
      go_loopw [11] (fun v11 wr2 => ∃ k : Nat, k ≤ vl ∧ v11 = .int .i64 (k : Int) ∧ Below W.heap.size W wr2) (fun v11 _ => vl - (intOf v11).toNat)
      case atStart => exact ⟨0, Nat.zero_le _, rfl, HBK.out⟩
      case round =>
        clear hd hlt hk HBK
        obtain ⟨k, hk, rfl, hb⟩ := hrel
        have HBK := Lib.hid hb
        by_cases hlt : k < vl
        · have hkl : k < V.length := by rw [HVN.out]; exact hlt
          have d := (HRV.out.kept hb).cell k hlt
          have hxk := fun W => HIXV.out W k hlt
          have hm := (HVM.out _).1 (getD_mem (d := ⟨#[]⟩) hkl)
          have tk : (k : Int) < (vl : Int) := by omega
          have hvl : (vl : Int) ≤ 60 := by have := HVL.out; omega
          clear hkl
          generalize V.getD k ⟨#[]⟩ = x at *
          have HPX := Lib.hid (HP.out _ HBK.out x)
          have HQX := Lib.hid (HQ.out _ HBK.out x)
          rw [memB_true hm.1] at HPX
          rw [memB_true hm.2] at HQX
          clear hm hb
          go_wp2_with fail
          refine HPX.out.mono ?_
          rintro e W2 ⟨rfl, rfl⟩
          go_wp2_with fail
          refine HQX.out.mono ?_
          rintro e W2 ⟨rfl, rfl⟩
          have HBN := HBK
          clear d hxk HPX HQX
          go_wp2
          go_roundw
          case rel => exact ⟨k + 1, by omega, by go_num, HBN.out⟩
          case measure => simp [intOf]; omega
        · have hd : ¬ (k : Int) < (vl : Int) := by omega
          clear hb
          go_wp2
          go_loopw [12] (fun v12 wr3 => ∃ k : Nat, k ≤ zl ∧ v12 = .int .i64 (k : Int) ∧ Below W.heap.size W wr3) (fun v12 _ => zl - (intOf v12).toNat)
          case atStart => exact ⟨0, Nat.zero_le _, rfl, HBK.out⟩
          case round =>
            clear hd hlt hk HBK
            obtain ⟨k, hk, rfl, hb⟩ := hrel
            have HBK := Lib.hid hb
            by_cases hlt : k < zl
            · have hkl : k < Z.length := by rw [HZN.out]; exact hlt
              have d := (HRZ.out.kept hb).cell k hlt
              have hxk := fun W => HIXZ.out W k hlt
              have hm := (HWM.out _).1 (getD_mem (d := ⟨#[]⟩) hkl)
              have tk : (k : Int) < (zl : Int) := by omega
              have hzl : (zl : Int) ≤ 60 := by have := HZL.out; omega
              clear hkl
              generalize Z.getD k ⟨#[]⟩ = x at *
              have HPX := Lib.hid (HP.out _ HBK.out x)
              have HQX := Lib.hid (HQ.out _ HBK.out x)
              rw [memB_true hm.1] at HPX
              rw [memB_false hm.2] at HQX
              clear hm hb
              go_wp2_with fail
              refine HPX.out.mono ?_
              rintro e W2 ⟨rfl, rfl⟩
              go_wp2_with fail
              refine HQX.out.mono ?_
              rintro e W2 ⟨rfl, rfl⟩
              have HBN := HBK
              clear d hxk HPX HQX
              go_wp2
              go_roundw
              case rel => exact ⟨k + 1, by omega, by go_num, HBN.out⟩
              case measure => simp [intOf]; omega
            · have hd : ¬ (k : Int) < (zl : Int) := by omega
              clear hb
              go_wp2_with (go_at_call 23; refine (HAW.out _).mono ?_; rintro e w' ⟨rfl, hb⟩; have HB9 := Lib.hid (below_next HBK.out hb HBK.out.size); clear hb)
              go_ret
              exact ⟨rfl, below_next HB0.out HB9.out HB0.out.size⟩
end Go.Proofs.Ytoifmfdaghmleaa
