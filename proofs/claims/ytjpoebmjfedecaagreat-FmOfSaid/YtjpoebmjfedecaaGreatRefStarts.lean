/-
  concordanceref9.Starts, May, Len.
-/
import Derived.Test.YtjpoebmjfedecaaGreatRefSame
namespace Go.Proofs.YtjpoebmjfedecaaGreat
open Go.RowKit

theorem st_take (L : List Nat) (i q : Nat) (hi : i < L.length) : stC (L.take (i + 1)) q = stC (L.take i) q + if L.getD i 0 < q then 1 else 0 := by
  unfold stC below
  rw [take_succ_getD L i hi, List.filter_append, List.length_append]
  congr 1
  generalize L.getD i 0 = x
  by_cases e : x < q <;> simp [e]
theorem st_take_zero (L : List Nat) (q : Nat) : stC (L.take 0) q = 0 := by unfold stC below; rfl
theorem st_take_le (L : List Nat) (i q : Nat) : stC (L.take i) q ≤ i := Nat.le_trans (stC_le _ _) (by rw [List.length_take]; omega)
def RStPost (w : World) (L : List Nat) (e : Ending) (w' : World) : Prop :=
  ∃ b, e = .returned (.slice (some ⟨b, 0, none⟩) 257 257) ∧ w'.rowIs b 3 257 (fun c => .int .i64 ((stC L c : Nat) : Int)) ∧ w.heap.size ≤ b ∧ Below w.heap.size w w'
set_option maxRecDepth 100000 in
set_option maxHeartbeats 1000000 in
theorem refstarts_any (w : World) (a : Option Addr) (cap : Nat) (L : List Nat) (hn : L.length ≤ 1000000) (hr : Row w a L.length (symV L)) (hm : ∀ c ∈ L, c < 65536) :
    Calls Tryz.prog 19 #[.slice a L.length cap] w (RStPost w L) := by
  have hix := run_ix (P := Tryz.prog) 22 (by kernel_rfl) size_u16 a L.length cap hr.at_ .i64
  have hiy := run_ix (P := Tryz.prog) 51 (by kernel_rfl) size_int (some ⟨w.heap.size, 0, none⟩) 257 257 (.inr rfl) .i64
  simp only [bOf, oOf, Option.map_some, Option.getD_some, Nat.zero_add] at hiy
  have HR := Lib.hid hr
  have HM := Lib.hid hm
  have hmk : ∀ W : World, (Instr.makeSlice 51 (.int .i64 257) (.int .i64 257)).run Tryz.prog W = .ok (.slice (some ⟨W.heap.size, 0, none⟩) 257 257) (W.alloc (.cells (madeCells #[.int .i64 0] 257) 3)) := make_int 257 (by omega)
  have H0 := Lib.hid (World.rowIs_made w (.int .i64 0) 257 3)
  have HB0 : Hid (Below w.heap.size w (w.alloc (.cells (madeCells #[.int .i64 0] 257) 3))) := (Below.refl _ _).alloc (Nat.le_refl _) _
  clear hr hm
  go_enter Tryz.func19, Tryz.ntmps19
  go_wp2_with fail
  clear hmk
  go_loopw [4] (fun v4 wr => ∃ i : Nat, i ≤ L.length ∧ v4 = .int .i64 i ∧ wr.rowIs w.heap.size 3 257 (fun c => .int .i64 ((stC (L.take i) c : Nat) : Int)) ∧ Below w.heap.size w wr) (fun v4 _ => L.length - (intOf v4).toNat)
  case atStart => exact ⟨0, Nat.zero_le _, rfl, H0.out.congr fun c _ => by rw [st_take_zero]; rfl, HB0.out⟩
  case round =>
    obtain ⟨i, hi, rfl, hrow, hbel⟩ := hrel
    by_cases hlt : i < L.length
    · have d0 : wr.cell? ⟨bOf a, oOf a + i, none⟩ = some (.int .u16 ((L.getD i 0 : Nat) : Int)) := (HR.out.kept hbel).cell i hlt
      have hx := HM.out _ (getD_mem' hlt)
      have HNX := Lib.hid (fun q => st_take L i q hlt)
      have HLE := Lib.hid (fun q => st_take_le L i q)
      have HROW := Lib.hid hrow
      have HBEL := Lib.hid hbel
      generalize L.getD i 0 = x at *
      have x1 : IntKind.i64.wrap (x : Int) = (x : Int) := IntWalk.i64_in _ (by omega)
      clear hrow hbel H0 HB0
      go_wp2_with fail
      clear x1 d0
      go_loopw [5] (fun v5 wr => ∃ c : Nat, x + 1 ≤ c ∧ c ≤ 65537 ∧ (c ≤ 257 ∨ c = x + 1) ∧ v5 = .int .i64 c ∧ wr.rowIs w.heap.size 3 257 (fun q => .int .i64 ((if q < c then stC (L.take (i + 1)) q else stC (L.take i) q : Nat) : Int)) ∧ Below w.heap.size w wr) (fun v5 _ => 257 - (intOf v5).toNat)
      case atStart => exact ⟨x + 1, Nat.le_refl _, by omega, .inr rfl, by go_num, HROW.out.congr fun q _ => by
        by_cases e : q < x + 1
        · rw [if_pos e, HNX.out, if_neg (by omega)]; rfl
        · rw [if_neg e], HBEL.out⟩
      case round =>
        obtain ⟨c, hc1, hc2, hc3, rfl, hrow, hbel⟩ := hrel
        clear HROW HBEL
        have HROW := Lib.hid hrow
        have HBEL := Lib.hid hbel
        by_cases hcl : c < 257
        · have d1 : wr.cell? ⟨w.heap.size, c, none⟩ = some (.int .i64 ((stC (L.take i) c : Nat) : Int)) := (hrow.cell (i := c) hcl).trans (by rw [if_neg (by omega)])
          have d2 := hrow.frozen c
          have hle := HLE.out c
          have hnc := HNX.out c
          rw [if_pos (by omega)] at hnc
          have HNC := Lib.hid hnc
          have hcz : (c : Int) < 257 := by omega
          clear hrow hbel hnc
          obtain ⟨s, hs⟩ : ∃ s, s = stC (L.take i) c := ⟨_, rfl⟩
          rw [← hs] at d1 hle HNC
          clear hs
          go_wp2
          go_roundw
          case rel => exact ⟨c + 1, by omega, by omega, by omega, by go_num, (HROW.out.set c (.int .i64 ((s : Int) + 1))).congr fun q hq => by
            by_cases e : q = c
            · subst e; rw [if_pos rfl, if_pos (by omega), HNC.out]; rfl
            · rw [if_neg e]
              by_cases e2 : q < c
              · rw [if_pos e2, if_pos (by omega)]
              · rw [if_neg e2, if_neg (by omega)], HBEL.out.setCell (p := ⟨w.heap.size, c, none⟩) (Nat.le_refl _) _⟩
          case measure => simp [intOf]; omega
        · have hcd : decide ((c : Int) < 257) = false := by simp; omega
          have HROW2 : Hid (wr.rowIs w.heap.size 3 257 (fun q => .int .i64 ((stC (L.take (i + 1)) q : Nat) : Int))) := hrow.congr fun q hq => by rw [if_pos (by omega)]
          clear hrow hbel
          go_wp2
          go_roundw
          case rel => exact ⟨i + 1, by omega, by go_num, HROW2.out, HBEL.out⟩
          case measure => simp [intOf]; omega
    · obtain rfl : i = L.length := by omega
      have hd : decide ((L.length : Int) < L.length) = false := by simp
      rw [List.take_length] at hrow
      have HROW := Lib.hid hrow
      have HBEL := Lib.hid hbel
      clear hrow hbel
      go_wp2
      go_ret
      exact ⟨w.heap.size, rfl, HROW.out, Nat.le_refl _, HBEL.out⟩
theorem str_len (es : List (List Nat)) : es.length + ((es.map List.length).sum) = (rowOf es).length := by
  induction es with
  | nil => rfl
  | cons d es ih =>
    rw [show rowOf (d :: es) = (d.map (· + 1) ++ [0]) ++ rowOf es from rfl]
    simp only [List.length_cons, List.map_cons, List.sum_cons, List.length_append, List.length_map, List.length_nil]
    omega
/-- the sum of so many, and as many as there are -/
def lenTo (es : List (List Nat)) (i : Nat) : Nat := startOf es i + (es.length - i)
theorem lenTo_zero (es : List (List Nat)) : lenTo es 0 = es.length := by unfold lenTo; rw [startOf_zero]; omega
theorem lenTo_succ (es : List (List Nat)) (i : Nat) (h : i < es.length) : lenTo es (i + 1) = lenTo es i + (es.getD i []).length := by unfold lenTo; rw [startOf_succ es i h]; omega
theorem lenTo_all (es : List (List Nat)) : lenTo es es.length = (rowOf es).length := by unfold lenTo; rw [startOf_all]; omega
theorem lenTo_le (es : List (List Nat)) (i : Nat) (h : i ≤ es.length) : lenTo es i ≤ (rowOf es).length + es.length := by
  unfold lenTo
  have := startOf_mono es h (Nat.le_refl _)
  rw [startOf_all] at this
  omega
attribute [irreducible] lenTo
set_option maxRecDepth 100000 in
set_option maxHeartbeats 1000000 in
theorem reflen_any (w : World) (a : Option Addr) (cap : Nat) (es : List (List Nat)) (hr : Row w a es.length (strV es)) (hl : (rowOf es).length ≤ 100000000) :
    Calls Tryz.prog 21 #[.slice a es.length cap] w fun e w' => e = .returned (.int .i64 (((rowOf es).length : Nat) : Int)) ∧ w = w' := by
  have hix := run_ix (P := Tryz.prog) 31 (by kernel_rfl) size_str a es.length cap hr.at_ .i64
  have HR := Lib.hid hr
  have hll := len_le_row es
  have HALL := Lib.hid (lenTo_all es)
  clear hr
  go_enter Tryz.func21, Tryz.ntmps21
  go_wp2
  go_loop [3, 4] (fun nn ii => ∃ i : Nat, i ≤ es.length ∧ ii = .int .i64 i ∧ nn = .int .i64 ((lenTo es i : Nat) : Int)) (fun _ ii => es.length - (intOf ii).toNat)
  case atStart => exact ⟨0, Nat.zero_le _, rfl, by rw [lenTo_zero]⟩
  case round =>
    obtain ⟨i, hi, rfl, rfl⟩ := hrel
    by_cases hlt : i < es.length
    · have d0 : w.cell? ⟨bOf a, oOf a + i, none⟩ = some (.string (sB (es.getD i []))) := HR.out.cell i hlt
      have hsz := sB_size (es.getD i [])
      have hnx := lenTo_succ es i hlt
      have hm := lenTo_le es (i + 1) (by omega)
      rw [hnx] at hm
      have HNX := Lib.hid hnx
      generalize sB (es.getD i []) = s at *
      generalize (es.getD i []).length = n at *
      generalize lenTo es i = q at *
      clear hnx
      go_wp2
      go_round
      case rel => exact ⟨i + 1, by omega, by go_num, by (rw [HNX.out]) <;> go_num⟩
      case measure => simp [intOf]; omega
    · obtain rfl : i = es.length := by omega
      have hd : decide ((es.length : Int) < es.length) = false := by simp
      rw [HALL.out]
      go_wp2
      go_ret
      exact ⟨rfl, rfl⟩
/-- texts that the document takes -/
def mayB (es : List (List Nat)) : Bool := decide ((∀ d ∈ es, d.length ≤ 2000) ∧ (rowOf es).length ≤ 60000)
set_option maxRecDepth 100000 in
set_option maxHeartbeats 1000000 in
theorem may_any (w : World) (a : Option Addr) (cap : Nat) (es : List (List Nat)) (hr : Row w a es.length (strV es)) (hl : (rowOf es).length ≤ 100000000) (h5 : es.length ≤ 500) :
    Calls Tryz.prog 20 #[.slice a es.length cap] w fun e w' => (∃ z : Int, e = .returned (.int .i64 z) ∧ (z == 0) = mayB es ∧ (z != 0) = !mayB es) ∧ w = w' := by
  have hix := run_ix (P := Tryz.prog) 31 (by kernel_rfl) size_str a es.length cap hr.at_ .i64
  have HR := Lib.hid hr
  have hll := len_le_row es
  have HALL := Lib.hid (lenTo_all es)
  have HMB : Hid (mayB es = decide ((∀ d ∈ es, d.length ≤ 2000) ∧ (rowOf es).length ≤ 60000)) := rfl
  have h500 : decide ((500 : Int) < (es.length : Int)) = false := by simp; omega
  clear hr
  go_enter Tryz.func20, Tryz.ntmps20
  go_wp2
  clear h500
  go_loop [3, 4] (fun nn ii => ∃ i : Nat, i ≤ es.length ∧ ii = .int .i64 i ∧ nn = .int .i64 ((lenTo es i : Nat) : Int) ∧ ∀ q, q < i → (es.getD q []).length ≤ 2000) (fun _ ii => es.length - (intOf ii).toNat)
  case atStart => exact ⟨0, Nat.zero_le _, rfl, by rw [lenTo_zero], fun q hq => by omega⟩
  case round =>
    obtain ⟨i, hi, rfl, rfl, hall⟩ := hrel
    have HQ := Lib.hid hall
    clear hall
    by_cases hlt : i < es.length
    · have d0 : w.cell? ⟨bOf a, oOf a + i, none⟩ = some (.string (sB (es.getD i []))) := HR.out.cell i hlt
      have hsz := sB_size (es.getD i [])
      have hnx := lenTo_succ es i hlt
      have hm := lenTo_le es (i + 1) (by omega)
      rw [hnx] at hm
      have HNX := Lib.hid hnx
      have HLT := Lib.hid (doc_mem hlt)
      obtain ⟨n, hnn⟩ : ∃ n, n = (es.getD i []).length := ⟨_, rfl⟩
      have HNN := Lib.hid hnn
      rw [← hnn] at hm HNX hsz
      generalize sB (es.getD i []) = s at *
      obtain ⟨q, hq⟩ : ∃ q, q = lenTo es i := ⟨_, rfl⟩
      rw [← hq] at hm HNX ⊢
      clear hnx hnn hq
      by_cases h2 : (2000 : Int) < (n : Int)
      · have HF : Hid (mayB es = false) := by
          rw [HMB.out]
          refine decide_eq_false (fun h => ?_)
          have := h.1 _ HLT.out
          rw [← HNN.out] at this
          omega
        go_wp2
        go_ret
        exact ⟨⟨_, rfl, by rw [HF.out]; rfl, by rw [HF.out]; rfl⟩, rfl⟩
      · have h2d : decide ((2000 : Int) < (n : Int)) = false := by simp; omega
        go_wp2
        go_round
        case rel => exact ⟨i + 1, by omega, by go_num, by (rw [HNX.out]) <;> go_num, fun q hq => by
          by_cases e : q < i
          · exact HQ.out q e
          · obtain rfl : q = i := by omega
            rw [← HNN.out]; omega⟩
        case measure => simp [intOf]; omega
    · obtain rfl : i = es.length := by omega
      have hd : decide ((es.length : Int) < es.length) = false := by simp
      rw [HALL.out]
      have HEA : Hid (∀ d ∈ es, d.length ≤ 2000) := fun d hd => by
        obtain ⟨j, hj, rfl⟩ := List.getElem_of_mem hd
        have := HQ.out j hj
        rw [List.getD_eq_getElem?_getD, List.getElem?_eq_getElem hj] at this
        exact this
      by_cases h6 : (60000 : Int) < ((rowOf es).length : Int)
      · have HF : Hid (mayB es = false) := by
          rw [HMB.out]
          exact decide_eq_false (fun h => by have := h.2; omega)
        go_wp2
        go_ret
        exact ⟨⟨_, rfl, by rw [HF.out]; rfl, by rw [HF.out]; rfl⟩, rfl⟩
      · have h6d : decide ((60000 : Int) < ((rowOf es).length : Int)) = false := by simp; omega
        have HF : Hid (mayB es = true) := by
          rw [HMB.out]
          exact decide_eq_true ⟨HEA.out, by omega⟩
        go_wp2
        go_ret
        exact ⟨⟨_, rfl, by rw [HF.out]; rfl, by rw [HF.out]; rfl⟩, rfl⟩
end Go.Proofs.YtjpoebmjfedecaaGreat
