/-
  BagGreat: members of any size have their place, each once; when all are dropped there is none.
-/
import Derived.Test.YtoifmfdaghmleaaGreatBagAdd
import Derived.Test.YtoifmfdaghmleaaGreatBagSeq
import Derived.Test.YtoifmfdaghmleaaGreatBagColU
import Derived.Test.YtoifmfdaghmleaaGreatBagLawA
import Derived.Test.YtoifmfdaghmleaaGreatRowOpen
set_option linter.unusedVariables false
namespace Go.Proofs.YtoifmfdaghmleaaGreat
open Go.RowKit Go.Lib Go.Sort Go.Shelf

theorem egPtrU (p : Nat) (W : World) : (binOp .eql 24 (.pointer (some ⟨p, 0, none⟩)) (.pointer none)).run Tryz.prog W = .ok (.bool false) W := by kernel_rfl
theorem putL_in {α : Type} [DecidableEq α] {lt : α → α → Bool} (l : List α) (x : α) : x ∈ putL lt l x := (putL_mem l x x).2 (.inl rfl)
theorem putL_two {α : Type} [DecidableEq α] {lt : α → α → Bool} (l : List α) (x : α) : putL lt (putL lt l x) x = putL lt l x := if_pos (putL_in l x)
theorem rise_step' {l : List Int} (hl : Rise ltI l) {k : Nat} {d : Int} (h : k < l.length) (h0 : 0 < k) : l.getD (k - 1) d < l.getD k d := by
  rw [List.getD_eq_getElem?_getD, List.getD_eq_getElem?_getD, List.getElem?_eq_getElem h, List.getElem?_eq_getElem (show k - 1 < l.length by omega)]
  have := (List.pairwise_iff_getElem.1 hl) (k - 1) k (by omega) h (by omega)
  simpa [ltI] using this
theorem take_snoc' {α : Type} (l : List α) (k : Nat) (d : α) (hk : k < l.length) : l.take (k + 1) = l.take k ++ [l.getD k d] := by
  rw [List.take_add_one, List.getElem?_eq_getElem hk, List.getD_eq_getElem?_getD, List.getElem?_eq_getElem hk]
  rfl
theorem stepB {w W W' : World} {p : Nat} {v : Value} (hb : Below w.heap.size w W) (hp : w.heap.size ≤ p) (hr : ∀ g, v.ownBlock = some g → p + 1 ≤ g) (st : StepX (SetB p v) W W') : Below w.heap.size w W' :=
  hb.trans (st.below hb.size (fun b h => h.elim (fun e => by omega) (fun e => by have := hr b e; omega)))
set_option maxRecDepth 100000 in
set_option maxHeartbeats 4000000 in
theorem bagGreat_walk (w : World) (a : Option Addr) (n cap : Nat) (f : Nat → Int) (hl : n ≤ maxLen) (h : Row w a n (fun k => .int .u64 (f k)) ∧ ∀ k, k < n → (Lit.int .u64 (f k)).wf = true) :
    Calls Tryz.prog 3 #[.slice a n cap] w fun e w' => e = .returned (.bool true) ∧ Below w.heap.size w w' := by
  have HAW := Lib.hid (fun W => awake5_any W)
  by_cases h40 : (40 : Int) < (n : Int)
  · clear h
    go_enter Tryz.func3, Tryz.ntmps3
    go_wp2_with (go_at_call 4; refine (HAW.out _).mono ?_; rintro e w' ⟨rfl, hb⟩; have HB := Lib.hid hb; clear hb)
    go_ret
    exact ⟨rfl, HB.out⟩
  have hr : Row w a n (fun j => Value.int .u64 ((listOf f n).getD j 0)) := h.1.congr fun j hj => by
    show _ = Value.int .u64 _
    rw [listOf_getD f n j 0 hj]
  have hn : n ≤ 40 := by omega
  obtain ⟨L, hL⟩ : ∃ l, l = listOf f n := ⟨_, rfl⟩
  have hll : L.length = n := by rw [hL]; exact listOf_len f n
  rw [← hL] at hr
  have HNS := Lib.hid (newSetU w none 0 0 [] rfl (by omega) (Row.nil _ _ _))
  have HR := Lib.hid hr
  have HN := Lib.hid hll
  have HIX := Lib.hid (run_ix (P := Tryz.prog) 22 (by kernel_rfl) (fun w => by kernel_rfl) a n cap hr.at_ .i64)
  clear hr h hL hll hl
  go_enter Tryz.func3, Tryz.ntmps3
  go_wp2_with fail
  refine HNS.out.mono ?_
  rintro e w1 ⟨p, v, rfl, hs, hb1, hp1⟩
  have HS1 := Lib.hid hs
  have HB1 := Lib.hid hb1
  have HP1 := Lib.hid hp1
  have egP := fun W => egPtrU p W
  clear hs hb1 hp1 HNS
  go_wp2
  go_loopw [4, 5] (fun v4 v5 wr => ∃ (k : Nat) (v' : Value), k ≤ n ∧ v5 = .int .i64 (k : Int) ∧ v4 = .int .i64 ((setL ltI (L.take k)).length : Int) ∧ SetU wr p v' (setL ltI (L.take k)) ∧ Below w.heap.size w wr) (fun _ v5 _ => n - (intOf v5).toNat)
  case atStart => exact ⟨0, v, Nat.zero_le _, rfl, rfl, HS1.out, HB1.out⟩
  case round =>
    obtain ⟨k, v', hk, rfl, rfl, hs, hb⟩ := hrel
    by_cases hlt : k < n
    · have HB := Lib.hid hb
      have HS := Lib.hid hs
      have hle := setL_len (lt := ltI) (L.take k)
      have hle2 : (L.take k).length ≤ k := List.length_take_le _ _
      have hsn := (setL_snoc (lt := ltI) (L.take k) (L.getD k 0))
      rw [← take_snoc' L k 0 (by rw [HN.out]; exact hlt)] at hsn
      have d := (HR.out.kept hb).cell k hlt
      have hxk := fun W => HIX.out W k hlt
      have tk : (k : Int) < (n : Int) := by omega
      have HSN := Lib.hid hsn
      have HLE : Hid ((setL ltI (L.take k)).length ≤ 40) := by show _ ≤ _; omega
      have hw1 : ((setL ltI (L.take k)).length : Int) ≤ 40 := by have := HLE.out; omega
      have HPUT : Hid ((putL ltI (setL ltI (L.take k)) (L.getD k 0)).length ≤ 41) := by have := putL_len (lt := ltI) (setL ltI (L.take k)) (L.getD k 0); have := HLE.out; show _ ≤ _; omega
      have hrowp : ∀ g, v'.ownBlock = some g → p + 1 ≤ g := fun g e => (hs.row.lt g e).1
      have HRP := Lib.hid hrowp
      have HAD := Lib.hid (addU wr p v' _ hs (by omega) (L.getD k 0))
      have HIN := Lib.hid (putL_in (lt := ltI) (setL ltI (L.take k)) (L.getD k 0))
      have HTW := Lib.hid (putL_two (lt := ltI) (setL ltI (L.take k)) (L.getD k 0))
      have HCS : Hid ((L.getD k 0 ∈ setL ltI (L.take k) ∧ (putL ltI (setL ltI (L.take k)) (L.getD k 0)).length = (setL ltI (L.take k)).length) ∨ (L.getD k 0 ∉ setL ltI (L.take k) ∧ (putL ltI (setL ltI (L.take k)) (L.getD k 0)).length = (setL ltI (L.take k)).length + 1)) := by
        by_cases hm : L.getD k 0 ∈ setL ltI (L.take k)
        · exact .inl ⟨hm, by unfold putL; rw [if_pos hm]⟩
        · exact .inr ⟨hm, by unfold putL; rw [if_neg hm]; exact insAt_len _ _ _⟩
      have hdy := fun W (hW : Below w.heap.size w W) => (HR.out.kept hW).cell k hlt
      have HDY := Lib.hid hdy
      clear hb hs hle hle2 hsn hrowp hdy
      generalize L.getD k 0 = y at *
      generalize setL ltI (L.take k) = l at *
      go_wp2_with fail
      refine HAD.out.mono ?_
      rintro e w2 ⟨v2, rfl, hs2, hst2, hvo2⟩
      have hb2 := stepB HB.out (by have := HP1.out; omega) HRP.out hst2
      have HB2 := Lib.hid hb2
      have HA2 := Lib.hid (addU w2 p v2 _ hs2 (by have := HPUT.out; omega) y)
      rw [HTW.out, memB_true HIN.out] at HA2
      have hr2 : ∀ g, v2.ownBlock = some g → p + 1 ≤ g := fun g e => (hs2.row.lt g e).1
      have HR2 := Lib.hid hr2
      have d2 := HDY.out w2 hb2
      clear d hs2 hst2 hvo2 hb2 hr2 HAD
      rcases HCS.out with ⟨hm, hc⟩ | ⟨hm, hc⟩
      all_goals
        have HCC := Lib.hid hc
        first | rw [memB_true hm] | rw [memB_false hm]
        clear hm hc HCS
        go_wp2_with fail
        refine HA2.out.mono ?_
        rintro e w3 ⟨v3, rfl, hs3, hst3, hvo3⟩
        have hb3 := stepB HB2.out (by have := HP1.out; omega) HR2.out hst3
        have HB3 := Lib.hid hb3
        have HH3 := Lib.hid (hasU w3 p v3 _ hs3 (by have := HPUT.out; omega) y)
        rw [memB_true HIN.out] at HH3
        have HS3 := Lib.hid hs3
        have d3 := HDY.out w3 hb3
        clear d2 hs3 hst3 hvo3 hb3 HA2
        go_wp2_with fail
        refine HH3.out.mono ?_
        rintro e w4 ⟨rfl, rfl⟩
        clear d3 hxk HH3
        go_wp2
        go_roundw
        case rel => exact ⟨k + 1, v3, by omega, by go_num, by (rw [HSN.out, HCC.out]) <;> first | rfl | go_num, by rw [HSN.out]; exact HS3.out, HB3.out⟩
        case measure => simp [intOf]; omega
    · obtain rfl : k = n := by omega
      have hd : decide ((k : Int) < (k : Int)) = false := by simp
      have HT : Hid (L.take k = L) := List.take_of_length_le (by rw [HN.out]; exact Nat.le_refl _)
      rw [HT.out] at hs ⊢
      have hle := setL_len (lt := ltI) L
      have hlen : (setL ltI L).length ≤ 40 := by have := HN.out; omega
      have HB := Lib.hid hb
      have HS := Lib.hid hs
      have HAL := Lib.hid (allU wr p v' _ hs (by omega))
      have HRS := Lib.hid hs.rise
      have HLN := Lib.hid hlen
      have HMEM := Lib.hid (setL_is ordI L).2
      clear hb hs hlt hle
      generalize setL ltI L = l at *
      go_wp2_with fail
      refine HAL.out.mono ?_
      rintro e w2 ⟨fv, rfl, _, hit, hb2⟩
      have HF := Lib.hid (firstU _ w2 fv _ hit (by have := HLN.out; omega) 1000 (by omega))
      have HS2 := Lib.hid (HS.out.kept hb2)
      have HB2 := Lib.hid (below_next HB.out hb2 HB.out.size)
      clear hit hb2 HAL HB HS
      go_wp2_with fail
      refine HF.out.mono ?_
      rintro e w3 ⟨v3, rfl, hro, hb3⟩
      rw [List.take_of_length_le (by have := HLN.out; omega)] at hro
      obtain ⟨a3, c3, rfl, -⟩ := Row.of_owns hro
      have hr3 := row_ofU hro
      have HR3 := Lib.hid hr3
      have HIX3 := Lib.hid (run_ix (P := Tryz.prog) 22 (by kernel_rfl) (fun w => by kernel_rfl) a3 l.length c3 hr3.at_ .i64)
      have HS3 := Lib.hid (HS2.out.kept hb3)
      have HB3 := Lib.hid (below_next HB2.out hb3 HB2.out.size)
      have HLE3 := Lib.hid (lenU w3 p v' _ HS3.out)
      clear hro hb3 hr3 HF HB2 HS2
      generalize hm : l.length = m at *
      have HM := Lib.hid hm
      clear hm
      go_wp2_with fail
      refine HLE3.out.mono ?_
      rintro e w4 ⟨rfl, rfl⟩
      clear HLE3
      go_wp2
      go_loopw [7] (fun v7 wr2 => ∃ k : Nat, 1 ≤ k ∧ v7 = .int .i64 (k : Int) ∧ Below w4.heap.size w4 wr2) (fun v7 _ => m - (intOf v7).toNat)
      case atStart => exact ⟨1, Nat.le_refl _, rfl, Below.refl _ _⟩
      case round =>
        obtain ⟨i, hi, rfl, hbi⟩ := hrel
        have HBI := Lib.hid hbi
        by_cases him : i < m
        · have d1 := (HR3.out.kept hbi).cell i him
          have d2 := (HR3.out.kept hbi).cell (i - 1) (by omega)
          have hx1 := fun W => HIX3.out W i him
          have hx2 := fun W => HIX3.out W (i - 1) (by omega)
          rw [show ((i - 1 : Nat) : Int) = (i : Int) - 1 by omega] at hx2
          have hst := rise_step' HRS.out (d := 0) (show i < l.length by rw [HM.out]; exact him) hi
          have ti : (i : Int) < (m : Int) := by omega
          have hm40 : (m : Int) ≤ 40 := by have := HLN.out; omega
          have hi1 : (1 : Int) ≤ (i : Int) := by omega
          generalize l.getD i 0 = y at *
          generalize l.getD (i - 1) 0 = z at *
          have hyz : ¬ y ≤ z := by omega
          clear hst hbi
          go_wp2
          go_quiet (fail)
          have HBN := Lib.hid (below_drewN HBI.out nq)
          clear d1 d2 hx1 hx2
          go_wp2
          go_roundw
          case rel => exact ⟨i + 1, by omega, by go_num, HBN.out⟩
          case measure => simp [intOf]; omega
        · have ti : ¬ (i : Int) < (m : Int) := by omega
          have HS4 := Lib.hid (HS3.out.kept hbi)
          have HB4 := Lib.hid (below_next HB3.out hbi HB3.out.size)
          clear hbi
          go_wp2
          go_loopw [8] (fun v8 wr3 => ∃ (j : Nat) (v9 : Value) (l9 : List Int), j ≤ k ∧ v8 = .int .i64 (j : Int) ∧ SetU wr3 p v9 l9 ∧ l9.length ≤ 40 ∧ (∀ z ∈ l9, z ∈ L ∧ z ∉ L.take j) ∧ Below w.heap.size w wr3) (fun v8 _ => k - (intOf v8).toNat)
          case atStart => exact ⟨0, v', l, Nat.zero_le _, rfl, HS4.out, by rw [HM.out]; exact HLN.out, fun z hz => ⟨(HMEM.out z).1 hz, by simp⟩, HB4.out⟩
          case round =>
            obtain ⟨j, v9, l9, hj, rfl, hs9, hl9, hm9, hb9⟩ := hrel
            by_cases hjk : j < k
            · have d1 := (HR.out.kept hb9).cell j hjk
              have hxj := fun W => HIX.out W j hjk
              have tj : (j : Int) < (k : Int) := by omega
              have HD := Lib.hid (dropU wr p v9 l9 hs9 (by omega) (L.getD j 0))
              have HR9 : Hid (∀ g, v9.ownBlock = some g → p + 1 ≤ g) := fun g e => (hs9.row.lt g e).1
              have HB9 := Lib.hid hb9
              have HDL : Hid ((delL ltI l9 (L.getD j 0)).length ≤ 40) := by have := delL_len ordI hs9.rise (L.getD j 0); show _ ≤ _; omega
              have HDM : Hid (∀ z ∈ delL ltI l9 (L.getD j 0), z ∈ L ∧ z ∉ L.take (j + 1)) := fun z hz => by
                obtain ⟨h1, h2⟩ := (delL_mem ordI hs9.rise (L.getD j 0) z).1 hz
                refine ⟨(hm9 z h1).1, fun h3 => ?_⟩
                rw [take_snoc' L j 0 (by rw [HN.out]; exact hjk), List.mem_append, List.mem_singleton] at h3
                exact h3.elim (hm9 z h1).2 h2
              clear hs9 hl9 hm9 hb9
              generalize L.getD j 0 = y at *
              go_wp2_with fail
              refine HD.out.mono ?_
              rintro e w5 ⟨v5, rfl, hs5, hst5, hvo5⟩
              have HB5 := Lib.hid (stepB HB9.out (by have := HP1.out; omega) HR9.out hst5)
              have HS5 := Lib.hid hs5
              clear d1 hxj hs5 hst5 hvo5 HD
              go_wp2
              go_roundw
              case rel => exact ⟨j + 1, v5, _, by omega, by go_num, HS5.out, HDL.out, HDM.out, HB5.out⟩
              case measure => simp [intOf]; omega
            · obtain rfl : j = k := by omega
              have tj : decide ((j : Int) < (j : Int)) = false := by simp
              have hnil : l9 = [] := by
                cases l9 with
                | nil => rfl
                | cons z r =>
                  have := hm9 z (by simp)
                  rw [HT.out] at this
                  exact absurd this.1 this.2
              subst hnil
              have HLE9 : Hid (Calls Tryz.prog 10 #[.pointer (some ⟨p, 0, none⟩)] wr fun e w' => e = .returned (.int .i64 0) ∧ w' = wr) := lenU wr p v9 [] hs9
              have HAL9 := Lib.hid (allU wr p v9 [] hs9 (by simp))
              have HB9 := Lib.hid hb9
              clear hs9 hl9 hm9 hb9
              go_wp2_with fail
              refine HLE9.out.mono ?_
              rintro e w6 ⟨rfl, rfl⟩
              go_wp2_with fail
              refine HAL9.out.mono ?_
              rintro e w7 ⟨fv7, rfl, _, hit7, hb7⟩
              have HF7 := Lib.hid (firstU _ w7 fv7 _ hit7 (by simp) 5 (by omega))
              have HB7 := Lib.hid (below_next HB9.out hb7 HB9.out.size)
              clear hit7 hb7 HAL9 HLE9
              go_wp2_with fail
              refine HF7.out.mono ?_
              rintro e w8 ⟨v8, rfl, hro8, hb8⟩
              rw [List.take_nil] at hro8
              obtain ⟨a8, c8, rfl, -⟩ := Row.of_owns hro8
              have HB8 := Lib.hid (below_next HB7.out hb8 HB7.out.size)
              clear hro8 hb8 HF7
              simp only [List.length_nil]
              go_wp2_with (go_at_call 4; refine (HAW.out _).mono ?_; rintro e w' ⟨rfl, hb⟩; have HB10 := Lib.hid (below_next HB8.out hb HB8.out.size); clear hb)
              go_ret
              exact ⟨rfl, HB10.out⟩
end Go.Proofs.YtoifmfdaghmleaaGreat
