/-
  Texts of this claim, one behind the other.
-/
import Derived.Test.YtjpoebmjfedecaaGreatRefStarts
import Derived.Test.YtjpoebmjfedecaaGreatBwtAwake

/-
  concordanceref9.Docs: the document's own reading of a row.
-/
namespace Go.Proofs.YtjpoebmjfedecaaGreat
open Go.RowKit

/-- the first documents of what a row is read as; they may be a byte too long -/
structure PartR (L : List Nat) (es : List (List Nat)) : Prop where
  many : es.length ≤ stC L 1
  each : ∀ j, j < es.length → EndsL L j (es.getD j []).length ∧ es.getD j [] = (pathL L j (es.getD j []).length).reverse
  long : ∀ j, j < es.length → (es.getD j []).length ≤ 2001
  fit : (rowOf es).length ≤ 2002 * es.length
theorem PartR.nil (L : List Nat) : PartR L [] := ⟨Nat.zero_le _, fun j hj => by simp at hj, fun j hj => by simp at hj, Nat.zero_le _⟩
theorem PartR.more {L : List Nat} {es : List (List Nat)} (h : PartR L es) (hm : es.length < stC L 1) (k : Nat) (hk : EndsL L es.length k) (h2 : k ≤ 2001) : PartR L (es ++ [(pathL L es.length k).reverse]) := by
  have hl : (pathL L es.length k).reverse.length = k := by rw [List.length_reverse, pathL_len]
  refine ⟨by simp; omega, fun j hj => ?_, fun j hj => ?_, by rw [rowOf_snoc, hl]; have := h.fit; simp; omega⟩
  · by_cases e : j < es.length
    · rw [getD_snoc es _ j e]; exact h.each j e
    · obtain rfl : j = es.length := by simp at hj; omega
      rw [getD_snoc_last, hl]; exact ⟨hk, rfl⟩
  · by_cases e : j < es.length
    · rw [getD_snoc es _ j e]; exact h.long j e
    · obtain rfl : j = es.length := by simp at hj; omega
      rw [getD_snoc_last, hl]; exact h2
theorem PartR.fails {L : List Nat} {es : List (List Nat)} (_ : PartR L es) (hm : es.length < stC L 1) (k : Nat) (hk : goesL L es.length k) (hbad : 2000 < k) : ∀ ds, ¬ ReadsL L ds := fun ds g => by
  have hj : es.length < ds.length := by rw [g.many]; exact hm
  have h1 := (g.each _ hj).1.le hk
  have h2 := g.long _ hj
  omega
theorem PartR.same {L : List Nat} {es ds : List (List Nat)} (h : PartR L es) (hm : es.length = stC L 1) (g : ReadsL L ds) : ds = es := by
  refine docs_ext (by rw [g.many, hm]) (fun j hj => ?_)
  have hj' : j < es.length := by rw [hm, ← g.many]; exact hj
  have e := (h.each j hj').1.one (g.each j hj).1
  rw [(h.each j hj').2, (g.each j hj).2, e]
theorem PartR.reads {L : List Nat} {es : List (List Nat)} (h : PartR L es) (hm : es.length = stC L 1) (hl : ∀ d ∈ es, d.length ≤ 2000) (ha : (rowOf es).length = L.length) : ReadsL L es :=
  ⟨hm, h.each, fun j hj => hl _ (doc_mem hj), ha⟩
theorem PartR.byte {L : List Nat} {es : List (List Nat)} (h : PartR L es) (hmx : ∀ c ∈ L, c ≤ 256) : ∀ d ∈ es, ∀ c ∈ d, c < 256 := fun d hd c hc => by
  obtain ⟨j, hj, rfl⟩ := List.getElem_of_mem hd
  have hjl : j < L.length := Nat.lt_of_lt_of_le (Nat.lt_of_lt_of_le hj h.many) (stC_le L 1)
  obtain ⟨h1, h2⟩ := h.each j hj
  have e : es.getD j [] = es[j] := by rw [List.getD_eq_getElem?_getD, List.getElem?_eq_getElem hj]; rfl
  rw [e] at h1 h2
  rw [h2] at hc
  exact mem_reverse_path hmx hjl h1.goes hc
def RDocsPost (w : World) (L : List Nat) (e : Ending) (w' : World) : Prop :=
  (∃ a cap es, e = .returned (.tuple #[.slice a es.length cap, .int .i64 0]) ∧ Row w' a es.length (strV es) ∧ DocsL L es ∧ (∀ d ∈ es, ∀ c ∈ d, c < 256) ∧ anyGreat L = false ∧ Below w.heap.size w w') ∨
  (e = .returned (.tuple #[.slice none 0 0, .int .i64 1]) ∧ anyGreat L = true ∧ Below w.heap.size w w') ∨
  (e = .returned (.tuple #[.slice none 0 0, .int .i64 3]) ∧ anyGreat L = false ∧ (∀ ds, ¬ DocsL L ds) ∧ Below w.heap.size w w')
/-- the Steps so far -/
def stI (L : List Nat) (i q : Nat) : Nat := if q < i then stepL L q else 0
theorem stI_next (L : List Nat) (i q : Nat) : stI L (i + 1) q = if q = i then stepL L i else stI L i q := by
  unfold stI
  by_cases e : q = i
  · subst e; simp
  · rw [if_neg e]
    by_cases c : q < i
    · rw [if_pos c, if_pos (by omega)]
    · rw [if_neg c, if_neg (by omega)]
attribute [irreducible] stI
set_option maxRecDepth 100000 in
set_option maxHeartbeats 4000000 in
theorem refdocs_any (w : World) (a : Option Addr) (cap : Nat) (L : List Nat) (h6 : L.length ≤ 60000) (h5 : stC L 1 ≤ 500) (hr : Row w a L.length (symV L)) (hm : ∀ c ∈ L, c < 65536) :
    Calls Tryz.prog 7 #[.slice a L.length cap] w (RDocsPost w L) := by
  have hix := run_ix (P := Tryz.prog) 22 (by kernel_rfl) size_u16 a L.length cap hr.at_ .i64
  have HR := Lib.hid hr
  have HM := Lib.hid hm
  have t0 : decide ((60500 : Int) < (L.length : Int)) = false := by simp; omega
  clear hr hm
  go_enter Tryz.func7, Tryz.ntmps7
  go_wp2
  clear t0
  go_loop [4, 5] (fun v4 v5 => ∃ i : Nat, i ≤ L.length ∧ v5 = .int .i64 i ∧ v4 = .int .i64 ((rkC L 0 i : Nat) : Int) ∧ ∀ q, q < i → ¬ 256 < L.getD q 0) (fun _ v5 => L.length - (intOf v5).toNat)
  case atStart => exact ⟨0, Nat.zero_le _, rfl, by rw [rkC_zero]; rfl, fun q hq => by omega⟩
  case round =>
    obtain ⟨i, hi, rfl, rfl, hall⟩ := hrel
    have HALL := Lib.hid hall
    clear hall
    have hrl := rkC_le L 0 i
    by_cases hlt : i < L.length
    · have d0 : w.cell? ⟨bOf a, oOf a + i, none⟩ = some (.int .u16 ((L.getD i 0 : Nat) : Int)) := HR.out.cell i hlt
      have HNX := Lib.hid (rkC_succ L 0 i hlt)
      by_cases hg : 256 < L.getD i 0
      · have HY := Lib.hid (anyGreat_yes hlt hg)
        have t1 : (256 : Int) < ((L.getD i 0 : Nat) : Int) := by omega
        clear hg
        generalize L.getD i 0 = c at *
        go_wp2
        go_ret2
        exact .inr (.inl ⟨rfl, HY.out, Below.refl _ _⟩)
      · have HG := Lib.hid hg
        have t1 : decide ((256 : Int) < ((L.getD i 0 : Nat) : Int)) = false := decide_eq_false (by omega)
        obtain ⟨m, hmm⟩ : ∃ m, m = rkC L 0 i := ⟨_, rfl⟩
        rw [← hmm] at hrl HNX ⊢
        clear hg hmm
        by_cases h0 : L.getD i 0 = 0
        · rw [h0] at d0
          rw [if_pos h0] at HNX
          have d0' : w.cell? ⟨bOf a, oOf a + i, none⟩ = some (.int .u16 0) := d0
          clear d0 h0 t1
          go_wp2
          go_round
          case rel => exact ⟨i + 1, by omega, by go_num, by (rw [HNX.out]) <;> go_num, fun q hq => by
            by_cases e : q < i
            · exact HALL.out q e
            · obtain rfl : q = i := by omega
              exact HG.out⟩
          case measure => simp [intOf]; omega
        · rw [if_neg h0] at HNX
          have t5 : (((L.getD i 0 : Nat) : Int) == 0) = false := by rw [beq_eq_false_iff_ne]; omega
          clear h0
          obtain ⟨c, hc⟩ : ∃ c, c = L.getD i 0 := ⟨_, rfl⟩
          rw [← hc] at d0 t1 t5
          clear hc
          go_wp2
          go_round
          case rel => exact ⟨i + 1, by omega, by go_num, by (rw [HNX.out]) <;> rfl, fun q hq => by
            by_cases e : q < i
            · exact HALL.out q e
            · obtain rfl : q = i := by omega
              exact HG.out⟩
          case measure => simp [intOf]; omega
    · obtain rfl : i = L.length := by omega
      have hd : decide ((L.length : Int) < (L.length : Int)) = false := by simp
      have hgr : anyGreat L = false := anyGreat_no HALL.out
      have HGR := Lib.hid hgr
      have HML := Lib.hid (anyGreat_false hgr)
      have hz : rkC L 0 L.length = stC L 1 := by
        have := stC_succ L 0
        rw [stC_zero] at this
        rw [rkC_all, this]; omega
      rw [hz]
      have hle := stC_le L 1
      obtain ⟨N, hN⟩ : ∃ N, N = stC L 1 := ⟨_, rfl⟩
      have HN := Lib.hid hN
      rw [← hN] at hle h5 ⊢
      clear hgr hz hN hrl hi hlt
      have t6 : decide ((500 : Int) < (N : Int)) = false := by simp; omega
      have t7 : decide ((60000 : Int) < (L.length : Int)) = false := by simp; omega
      go_wp2_with fail
      clear t6 t7 hd
      refine (refstarts_any w a cap L (by omega) HR.out HM.out).mono ?_
      rintro e w1 ⟨b6, rfl, hrow6, hlow6, hb1⟩
      have hmk : ∀ W : World, (Instr.makeSlice 51 (.int .i64 257) (.int .i64 257)).run Tryz.prog W = .ok (.slice (some ⟨W.heap.size, 0, none⟩) 257 257) (W.alloc (.cells (madeCells #[.int .i64 0] 257) 3)) := make_int 257 (by omega)
      have hmk2 := make_int L.length (by omega)
      have hixs := run_ix (P := Tryz.prog) 51 (by kernel_rfl) size_int (some ⟨b6, 0, none⟩) 257 257 (.inr rfl) .i64
      have hixe := run_ix (P := Tryz.prog) 51 (by kernel_rfl) size_int (some ⟨w1.heap.size, 0, none⟩) 257 257 (.inr rfl) .i64
      have hixt := run_ix (P := Tryz.prog) 51 (by kernel_rfl) size_int (some ⟨w1.heap.size + 1, 0, none⟩) L.length L.length (.inr rfl) .i64
      simp only [bOf, oOf, Option.map_some, Option.getD_some, Nat.zero_add] at hixs hixe hixt
      have q6 := (hrow6.alloc (.cells (madeCells #[.int .i64 0] 257) 3)).alloc (.cells (madeCells #[.int .i64 0] L.length) 3)
      have q7 := (World.rowIs_made w1 (.int .i64 0) 257 3).alloc (.cells (madeCells #[.int .i64 0] L.length) 3)
      have q8 := World.rowIs_made (w1.alloc (.cells (madeCells #[.int .i64 0] 257) 3)) (.int .i64 0) L.length 3
      rw [World.size_alloc] at q8
      have hlt6 := hrow6.lt
      have hsz1 := hb1.size
      have hb2 : Below w.heap.size w ((w1.alloc (.cells (madeCells #[.int .i64 0] 257) 3)).alloc (.cells (madeCells #[.int .i64 0] L.length) 3)) := (hb1.alloc hsz1 _).alloc (by simp; omega) _
      have H6 := Lib.hid q6
      have H7 := Lib.hid q7
      have H8 := Lib.hid q8
      have HB2 := Lib.hid hb2
      clear q6 q7 q8 hb2 hrow6 hb1
      go_wp2_with fail
      clear hmk hmk2
      generalize hN1 : w1.heap.size = N1 at *
      generalize (w1.alloc (.cells (madeCells #[.int .i64 0] 257) 3)).alloc (.cells (madeCells #[.int .i64 0] L.length) 3) = w2 at *
      clear hN1
      go_loopw [9] (fun v9 wr => ∃ i : Nat, i ≤ L.length ∧ v9 = .int .i64 i ∧ wr.rowIs b6 3 257 (fun c => .int .i64 ((stC L c : Nat) : Int)) ∧ wr.rowIs N1 3 257 (fun c => .int .i64 ((rkC L c i : Nat) : Int)) ∧ wr.rowIs (N1 + 1) 3 L.length (fun q => .int .i64 ((stI L i q : Nat) : Int)) ∧ Below w.heap.size w wr) (fun v9 _ => L.length - (intOf v9).toNat)
      case atStart => exact ⟨0, Nat.zero_le _, rfl, H6.out, H7.out.congr fun c _ => by rw [rkC_zero]; rfl, H8.out.congr fun q _ => by unfold stI; simp, HB2.out⟩
      case round =>
        obtain ⟨i, hi, rfl, r6, r7, r8, hb⟩ := hrel
        clear H6 H7 H8 HB2
        have H6 := Lib.hid r6
        have H7 := Lib.hid r7
        have H8 := Lib.hid r8
        have HB := Lib.hid hb
        by_cases hlt : i < L.length
        · have d0 : wr.cell? ⟨bOf a, oOf a + i, none⟩ = some (.int .u16 ((L.getD i 0 : Nat) : Int)) := (HR.out.kept hb).cell i hlt
          have hc := HML.out _ (getD_mem' hlt)
          have HRK := Lib.hid (fun c => rkC_succ L c i hlt)
          have HSI := Lib.hid (fun q => stI_next L i q)
          have HSL : Hid (stepL L i = stC L (L.getD i 0) + rkC L (L.getD i 0) i) := rfl
          have d3 : wr.cell? ⟨N1 + 1, i, none⟩ = some (.int .i64 ((stI L i i : Nat) : Int)) := r8.cell (i := i) hlt
          have d4 := r8.frozen i
          have hle1 := stC_le L (L.getD i 0)
          have hle2 := rkC_le L (L.getD i 0) i
          have d1 : wr.cell? ⟨b6, L.getD i 0, none⟩ = some (.int .i64 ((stC L (L.getD i 0) : Nat) : Int)) := r6.cell (i := L.getD i 0) (by omega)
          have d2 : wr.cell? ⟨N1, L.getD i 0, none⟩ = some (.int .i64 ((rkC L (L.getD i 0) i : Nat) : Int)) := r7.cell (i := L.getD i 0) (by omega)
          have d5 := r7.frozen (L.getD i 0)
          clear r6 r7 r8 hb
          generalize stI L i i = oz at *
          generalize hcc : L.getD i 0 = c at *
          obtain ⟨s, hs⟩ : ∃ s, s = stC L c := ⟨_, rfl⟩
          obtain ⟨r, hrr⟩ : ∃ r, r = rkC L c i := ⟨_, rfl⟩
          have HRR := Lib.hid hrr
          rw [← hs] at d1 hle1 HSL
          rw [← hrr] at d2 hle2 HSL
          clear hs hrr hcc
          have x1 : IntKind.i64.wrap (c : Int) = (c : Int) := IntWalk.i64_in _ (by omega)
          have x2 : IntKind.i64.wrap ((s : Int) + (r : Int)) = ((s + r : Nat) : Int) := by rw [show (s : Int) + (r : Int) = ((s + r : Nat) : Int) by omega]; exact IntWalk.i64_in _ (by omega)
          have hc7 : c < 257 := by omega
          have e2 : (wr.setCell ⟨N1 + 1, i, none⟩ (.int .i64 ((s + r : Nat) : Int))).cell? ⟨N1, c, none⟩ = some (.int .i64 (r : Int)) := by
            rw [World.cell?_setCell_other _ _ _ _ (by simp)]; exact d2
          go_wp2
          go_region
          clear x1 x2
          go_wp2
          go_roundw
          case rel => exact ⟨i + 1, by omega, by go_num, (H6.out.setOther (by simp; omega) _).drew.setOther (by simp; omega) _, ((H7.out.setOther (by simp) _).drew.set c (.int .i64 ((r : Int) + 1))).congr fun j hj => by
            rw [HRK.out]
            by_cases e : j = c
            · subst e; rw [if_pos rfl, if_pos rfl, ← HRR.out]; rfl
            · rw [if_neg e, if_neg (fun h => e h.symm)]; rfl, (((H8.out.set i (.int .i64 ((s + r : Nat) : Int))).drew).setOther (by simp) _).congr fun q hq => by
            rw [HSI.out, HSL.out]
            by_cases e : q = i
            · rw [if_pos e, if_pos e]
            · rw [if_neg e, if_neg e], ((HB.out.setCell (p := ⟨N1 + 1, i, none⟩) (by simp; omega) _).drew).setCell (p := ⟨N1, c, none⟩) (by simp; omega) _⟩
          case measure => simp [intOf]; omega
        · obtain rfl : i = L.length := by omega
          have hd : decide ((L.length : Int) < (L.length : Int)) = false := by simp
          have r8' : wr.rowIs (N1 + 1) 3 L.length (fun q => .int .i64 ((stepL L q : Nat) : Int)) := r8.congr fun q hq => by unfold stI; rw [if_pos hq]
          have HSTP : Hid (Row wr (some ⟨N1 + 1, 0, none⟩) L.length (fun q => .int .i64 ((stepL L q : Nat) : Int))) := Row.of_row r8' (Nat.le_refl _)
          have HRA := Lib.hid (HR.out.kept hb)
          clear r6 r7 r8 r8' hb H6 H7 H8 hi hlt hixs hixe
          obtain ⟨w3, hw3⟩ : ∃ w3, w3 = wr := ⟨_, rfl⟩
          subst hw3
          go_wp2_with fail
          clear hd
          obtain ⟨i8, hi8, hx80, hx81, hx82⟩ := info_parts info_u8
          obtain ⟨i9, hi9, hx90, hx91, hx92⟩ := info_parts info_str
          have HIT := Lib.hid (fun j (hj : j < L.length) k => itL_lt L HML.out j hj k)
          go_loopw [11, 12] (fun v11 v12 wr => ∃ es : List (List Nat), PartR L es ∧ es.length ≤ N ∧ v12 = .int .i64 ((es.length : Nat) : Int) ∧ wr.ownsRow w3.heap.size 9 1 v11 es.length ((List.range es.length).map (strV es)) ∧ Below w3.heap.size w3 wr) (fun _ v12 _ => N - (intOf v12).toNat)
          case atStart => exact ⟨[], PartR.nil L, Nat.zero_le _, rfl, World.ownsRow_nil _ _ _ _, Below.refl _ _⟩
          case round =>
            obtain ⟨es, hpart, hes, rfl, hown, hbel⟩ := hrel
            have HPT := Lib.hid hpart
            have HOW := Lib.hid hown
            have HBE := Lib.hid hbel
            have hfit := hpart.fit
            clear hpart
            by_cases hlt : es.length < N
            · obtain ⟨j, hj⟩ : ∃ j, j = es.length := ⟨_, rfl⟩
              rw [← hj] at hlt hes ⊢
              have HJ := Lib.hid hj
              have hjL : j < L.length := by omega
              have HRO := Lib.hid (HRA.out.kept hbel)
              have HRT := Lib.hid (HSTP.out.kept hbel)
              have hjz : (j : Int) < (N : Int) := by omega
              have hso := hbel.size
              clear hj hown hbel hfit
              obtain ⟨wo, hwo⟩ : ∃ wo, wo = wr := ⟨_, rfl⟩
              subst hwo
              go_wp2_with fail
              go_loopw [13, 14] (fun v13 v14 wi => ∃ (k : Nat) (a9 : Option Addr) (c9 : Nat), v14 = .int .i64 ((itL L j k : Nat) : Int) ∧ v13 = .slice a9 k c9 ∧ k ≤ 2001 ∧ goesL L j k ∧ wi.ownsRow wo.heap.size 5 1 (.slice a9 k c9) k (byteVs (pathL L j k)) ∧ Below wo.heap.size wo wi) (fun v13 _ _ => 2002 - lenOf v13)
              case atStart => exact ⟨0, none, 0, rfl, rfl, by omega, fun q hq => by omega, by rw [pathL_zero, byteVs_nil]; exact World.ownsRow_nil _ _ _ _, Below.refl _ _⟩
              case round =>
                obtain ⟨k, a9, c9, rfl, hv9, hk, hgo, ho9, hb9⟩ := hrel
                have HV9 := Lib.hid hv9
                rw [← hv9] at ho9
                clear hv9
                have hil := HIT.out j hjL k
                have hs9 := hb9.size
                have HRO9 := Lib.hid (HRO.out.kept hb9)
                have HGO := Lib.hid hgo
                have HO9 := Lib.hid ho9
                have HB9 := Lib.hid hb9
                have d0 : wr.cell? ⟨bOf a, oOf a + itL L j k, none⟩ = some (.int .u16 ((L.getD (itL L j k) 0 : Nat) : Int)) := HRO9.out.cell _ hil
                have hc := HML.out _ (getD_mem' hil)
                have d1 : wr.cell? ⟨N1 + 1, itL L j k, none⟩ = some (.int .i64 ((stepL L (itL L j k) : Nat) : Int)) := by
                  have := (HRT.out.kept hb9).cell _ hil
                  simpa [bOf, oOf] using this
                have hblk : N1 + 1 < wo.heap.size := HRT.out.lt (by omega)
                clear hgo ho9 hb9
                by_cases h0 : L.getD (itL L j k) 0 = 0
                · have HEND : Hid (EndsL L j k) := ⟨HGO.out, h0⟩
                  have d2 : wr.cell? ⟨bOf a, oOf a + itL L j k, none⟩ = some (.int .u16 0) := by rw [d0, h0]; rfl
                  rw [HV9.out] at HO9 ⊢
                  clear h0 hc d0 d1
                  generalize itL L j k = i at *
                  have hpl := pathL_len L j k
                  have HPL := Lib.hid hpl
                  generalize hdd : pathL L j k = dd at *
                  have HDD := Lib.hid hdd
                  have e0 : IntKind.i64.wrap ((k : Int) - 1) = (k : Int) - 1 := IntWalk.i64_in _ (by omega)
                  have hixd := run_ix (P := Tryz.prog) 24 (by kernel_rfl) size_u8 a9 k c9 (owns_row HO9.out).1.at_ .i64
                  clear hpl hdd
                  go_wp2_with fail
                  clear e0 d2
                  go_loopw [15, 16] (fun v15 v16 wi => ∃ m : Nat, m ≤ k ∧ v15 = .int .i64 m ∧ v16 = .int .i64 ((k : Int) - 1 - m) ∧ wi.ownsRow wo.heap.size 5 1 (.slice a9 k c9) k (byteVs (revI dd m)) ∧ Below wo.heap.size wo wi) (fun v15 _ _ => k - (intOf v15).toNat)
                  case atStart => exact ⟨0, Nat.zero_le _, rfl, by simp, by rw [revI_zero]; exact HO9.out, HB9.out⟩
                  case round =>
                    obtain ⟨m, hm, rfl, rfl, hown, hbel⟩ := hrel
                    by_cases hlm : m + 1 < k - m
                    · obtain ⟨q, hq⟩ : ∃ q, q = k - 1 - m := ⟨_, rfl⟩
                      have hjz2 : (k : Int) - 1 - (m : Int) = (q : Int) := by omega
                      rw [hjz2]
                      have hij : (m : Int) < (q : Int) := by omega
                      have hml : m < k := by omega
                      have hql : q < k := by omega
                      obtain ⟨c1, f1, k1, b1, s1⟩ := owns_store hown m hml
                      obtain ⟨c2, f2, k2, b2, s2⟩ := owns_store hown q hql
                      rw [byteVs_at _ _ (by rw [revI_len, HPL.out]; exact hml)] at c1
                      rw [byteVs_at _ _ (by rw [revI_len, HPL.out]; exact hql)] at c2
                      have hnx := revI_succ dd m (by rw [HPL.out]; exact hlm)
                      rw [HPL.out, ← hq] at hnx
                      generalize hx : (revI dd m).getD m 0 = x at *
                      generalize hy : (revI dd m).getD q 0 = y at *
                      obtain ⟨o1, g1⟩ := s1 (.int .u8 (y : Int))
                      obtain ⟨c3, f3, k3, b3, s3⟩ := owns_store o1 q hql
                      obtain ⟨o2, g2⟩ := s3 (.int .u8 (x : Int))
                      rw [byteVs_set, byteVs_set, ← hnx] at o2
                      rw [byteVs_set, byteVs_at _ _ (by rw [List.length_set, revI_len, HPL.out]; exact hql), set_at _ _ _ _ (by rw [revI_len, HPL.out]; exact hml), if_neg (by omega), hy] at c3
                      have HO2 := Lib.hid o2
                      have HG1 := Lib.hid g1
                      have HG2 := Lib.hid g2
                      have HB := Lib.hid hbel
                      have HS1 := Lib.hid g1.size
                      have hgl : wo.heap.size ≤ wr.heap.size := hbel.size
                      clear hown hbel s1 s2 s3 hnx o1 o2 g1 g2 hx hy hq k1 k2 k3 b2 b3
                      go_wp2_with fail
                      go_region
                      clear c1 c2 c3 f1 f2 f3
                      go_wp2
                      go_roundw
                      case rel => exact ⟨m + 1, by omega, by go_num, by (refine congrArg (Value.int .i64) ?_) <;> omega, HO2.out, ((HB.out.grown HG1.out hgl (fun k hk => by cases hk; exact b1)).grown HG2.out (Nat.le_trans hgl HS1.out) (fun k hk => by cases hk; exact b1)).drew⟩
                      case measure => simp [intOf]; omega
                    · have hij : decide ((m : Int) < (k : Int) - 1 - (m : Int)) = false := by simp; omega
                      rw [revI_all dd m (by rw [HPL.out]; omega)] at hown
                      obtain ⟨hr5, hlow5⟩ := owns_row hown
                      have hdl : dd.reverse.length = k := by rw [List.length_reverse, HPL.out]
                      have hr6 : Row wr a9 dd.reverse.length (byteV dd.reverse) := byteVs_row (by rw [hdl]; exact hr5)
                      have hcv := conv_str wr a9 dd.reverse c9 hr6
                      rw [hdl] at hcv
                      have HPM := Lib.hid (HPT.out.more (by rw [← HJ.out, ← HN.out]; exact hlt) k (by rw [← HJ.out]; exact HEND.out) hk)
                      rw [← HJ.out, HDD.out] at HPM
                      have HO2 : Hid (wr.ownsRow w3.heap.size 9 1 u11 es.length ((List.range es.length).map (strV es))) := owns_below HOW.out hbel
                      have HB2 : Hid (Below w3.heap.size w3 wr) := below_next HBE.out hbel HBE.out.size
                      have hs2 : w3.heap.size ≤ wr.heap.size := HB2.out.size
                      have hesl : es.length ≤ 500 := by rw [← HJ.out]; omega
                      have HNX : Hid ((List.range (es.length + 1)).map (strV (es ++ [dd.reverse])) = (List.range es.length).map (strV es) ++ [.string (sB dd.reverse)]) := by
                        rw [List.range_succ, List.map_append]
                        congr 1
                        · refine List.map_congr_left fun j hj => ?_
                          show Value.string (sB ((es ++ [dd.reverse]).getD j [])) = Value.string (sB (es.getD j []))
                          rw [getD_snoc es _ j (List.mem_range.1 hj)]
                        · show [Value.string (sB ((es ++ [dd.reverse]).getD es.length []))] = _
                          rw [getD_snoc_last]
                      clear hown hbel hr5 hlow5 hdl hr6
                      generalize dd.reverse = dr at *
                      generalize sB dr = sd at *
                      generalize (k : Int) - 1 - (m : Int) = jz at *
                      go_wp2_with (at_builtin; refine wpList_append_own _ rfl _ _ 31 rfl w3.heap.size 9 i9 (.string ByteArray.empty) 1 16 Tryz.underlying31 hi9 hx90 hx91 hx92 rfl (by decide) _ es.length _ rfl (HO2.out.alloc _) ⟨wr.heap.size, 0, none⟩ 1 1 [.string sd] rfl rfl (cell_one_new _ _ _) (by simp [Value.oneCell']) (by simp only [maxLen]; omega) (by omega) (by simp; omega) ?_; intro v' wq hown' hgrow _)
                      have hltq := HO2.out.lt
                      have HO3 : Hid (wq.ownsRow w3.heap.size 9 1 v' (es ++ [dr]).length ((List.range (es ++ [dr]).length).map (strV (es ++ [dr])))) := by
                        rw [List.length_append, List.length_singleton, HNX.out]; exact hown'
                      have HB3 : Hid (Below w3.heap.size w3 wq) := (HB2.out.alloc hs2 _).grown hgrow (by simp; omega) (fun g hg => (hltq g hg).1)
                      clear hown' hgrow hltq hcv
                      go_wp2
                      go_roundw
                      case rel => exact ⟨es ++ [dr], HPM.out, by simp; rw [← HJ.out]; omega, by rw [List.length_append, ← HJ.out]; go_num, HO3.out, HB3.out⟩
                      case measure => simp [intOf]; omega
                · have HNZ := Lib.hid h0
                  have HIS := Lib.hid (itL_succ L j k)
                  have HPS := Lib.hid (pathL_succ L j k)
                  have HG2 : Hid (goesL L j (k + 1)) := fun q hq => by
                    by_cases e : q < k
                    · exact HGO.out q e
                    · obtain rfl : q = k := by omega
                      exact h0
                  generalize itL L j k = i at *
                  generalize L.getD i 0 = c at *
                  generalize stepL L i = s at *
                  have ht0 : ((c : Int) != 0) = true := by rw [bne_iff_ne]; omega
                  have ht1 : ((c : Int) == 0) = false := by rw [beq_eq_false_iff_ne]; omega
                  have x1 : IntKind.u16.wrap ((c : Int) - 1) = ((c - 1 : Nat) : Int) := by rw [show (c : Int) - 1 = ((c - 1 : Nat) : Int) by omega]; exact IntWalk.u16_in _ (by omega)
                  have x2 : IntKind.u8.wrap ((c - 1 : Nat) : Int) = ((c - 1 : Nat) : Int) := IntWalk.u8_in _ (by omega)
                  clear h0
                  by_cases hbad : 2000 < k
                  · have HFAIL := Lib.hid (HPT.out.fails (by rw [← HJ.out, ← HN.out]; exact hlt) k (by rw [← HJ.out]; exact HGO.out) hbad)
                    have hb1 : (2000 : Int) < (k : Int) := by omega
                    have HBF : Hid (Below w.heap.size w wr) := below_next HB.out (below_next HBE.out HB9.out HBE.out.size) HB.out.size
                    rw [HV9.out]
                    go_wp2_with fail
                    go_ret2
                    exact .inr (.inr ⟨rfl, HGR.out, fun ds h => HFAIL.out ds h.1, HBF.out⟩)
                  · have hb1 : decide ((2000 : Int) < (k : Int)) = false := by simp; omega
                    have hlen : (Builtin.len_ #[24] 3 #[u13]).run Tryz.prog wr = .ok (.int .i64 (k : Int)) wr := by rw [HV9.out]; simp [Builtin.len_, run_underlying Tryz.underlying24, goInt]
                    go_wp2_with (at_builtin; refine wpList_append_lies _ rfl _ _ _ rfl wo.heap.size 5 i8 _ 1 1 Tryz.underlying24 hi8 hx80 hx81 hx82 rfl (by omega) u13 k _ rfl (HO9.out.alloc _) ⟨wr.heap.size, 0, none⟩ 1 1 [.int .u8 ((c - 1 : Nat) : Int)] rfl rfl (cell_one_new _ _ _) (by simp [Value.oneCell']) (by omega) (by simp only [maxLen]; omega) (by omega) (by simp; omega) (wr.heap.size + 1) (by simp) ?_; intro gg cv' wq hown' hgrow hat hlt'; have hlo := HO9.out.lt; have HOW' := Lib.hid hown'; have HB' : Hid (Below wo.heap.size wo wq) := (HB9.out.alloc hs9 _).grown hgrow (by simp; omega) (fun g hg => (hlo g hg).1); have d5 : wq.cell? ⟨N1 + 1, i, none⟩ = some (.int .i64 (s : Int)) := (HB'.out.cell (p := ⟨N1 + 1, i, none⟩) hblk).trans ((HB9.out.cell (p := ⟨N1 + 1, i, none⟩) hblk).symm.trans d1); clear hown' hgrow hat hlo)
                    go_roundw
                    case rel => exact ⟨k + 1, _, _, by rw [HIS.out], rfl, by omega, HG2.out, by rw [HPS.out, byteVs_snoc]; exact HOW'.out, HB'.out⟩
                    case measure => rw [HV9.out]; simp [lenOf]; omega
            · have hen : es.length = N := by omega
              have hd : decide ((es.length : Int) < (N : Int)) = false := by simp; omega
              obtain ⟨a5, c5, hv5, hc5⟩ := Row.of_owns hown
              subst hv5
              have hr5 : Row wr a5 es.length (strV es) := (owns_row hown).1.congr fun q hq => by rw [List.getD_eq_getElem?_getD, List.getElem?_map, List.getElem?_range hq]; rfl
              have hbf : Below w.heap.size w wr := below_next HB.out hbel HB.out.size
              have hby := HPT.out.byte HML.out
              have HSAME := Lib.hid (fun ds (g : ReadsL L ds) => HPT.out.same (by rw [hen, HN.out]) g)
              have HREAD := Lib.hid (HPT.out.reads (by rw [hen, HN.out]))
              have HBY := Lib.hid hby
              have HR5 := Lib.hid hr5
              have HBF := Lib.hid hbf
              have hfl : (rowOf es).length ≤ 2000000 := by omega
              have HMAY := Lib.hid (may_any wr a5 c5 es hr5 (by omega) (by omega))
              have HLEN := Lib.hid (reflen_any wr a5 c5 es hr5 (by omega))
              have HRW := Lib.hid (HRA.out.kept hbel)
              have HMB : Hid (mayB es = decide ((∀ d ∈ es, d.length ≤ 2000) ∧ (rowOf es).length ≤ 60000)) := rfl
              clear hown hc5 hr5 hbf hby hbel HOW HBE hix hixt hfit hen
              cases hmb : mayB es with
              | false =>
                rw [hmb] at HMAY
                have HNO : Hid (∀ ds, ¬ DocsL L ds) := fun ds h => by
                  have e := HSAME.out ds h.1
                  subst e
                  have h1 := HMB.out
                  rw [hmb] at h1
                  have h2 := of_decide_eq_false h1.symm
                  refine h2 ⟨fun d hd => ?_, by rw [h.1.all]; exact h6⟩
                  obtain ⟨q, hq, rfl⟩ := List.getElem_of_mem hd
                  have := h.1.long q hq
                  rw [List.getD_eq_getElem?_getD, List.getElem?_eq_getElem hq] at this
                  exact this
                clear hmb
                go_wp2_with fail
                refine HMAY.out.mono ?_
                rintro e w' ⟨⟨z, rfl, hz1, hz2⟩, rfl⟩
                have hz3 : (z != 0) = true := by rw [hz2]; rfl
                clear hz2
                go_wp2_with fail
                go_ret2
                exact .inr (.inr ⟨rfl, HGR.out, HNO.out, HBF.out⟩)
              | true =>
                rw [hmb] at HMAY
                have hokm : (∀ d ∈ es, d.length ≤ 2000) ∧ (rowOf es).length ≤ 60000 := of_decide_eq_true (by rw [← HMB.out]; exact hmb)
                have HOKM := Lib.hid hokm
                clear hokm
                clear hmb
                go_wp2_with fail
                refine HMAY.out.mono ?_
                rintro e w' ⟨⟨z, rfl, hz1, hz2⟩, rfl⟩
                have hz3 : (z != 0) = false := by rw [hz2]; rfl
                clear hz2 hz1
                go_wp2_with fail
                refine HLEN.out.mono ?_
                rintro e w' ⟨rfl, rfl⟩
                by_cases hll : (rowOf es).length = L.length
                · have hnz : (((rowOf es).length : Int) != (L.length : Int)) = false := by rw [hll]; simp
                  have HLL := Lib.hid hll
                  have HBW := Lib.hid (refbwt_any wr a5 c5 es HR5.out HBY.out HOKM.out.2)
                  clear hll
                  go_wp2_with fail
                  refine HBW.out.mono ?_
                  rintro e w5 ⟨a7, c7, rfl, ho7, hb5⟩
                  have hbl : (bwtOf es).length ≤ 60000 := by rw [bwtOf_len]; exact HOKM.out.2
                  have HSM := Lib.hid (samesyms_any w5 a7 a c7 cap (bwtOf es) L (by omega) (by omega) (symVs_row ho7) (HRW.out.kept hb5))
                  have HB5 : Hid (Below w.heap.size w w5) := below_next HBF.out hb5 HBF.out.size
                  have HR6 := Lib.hid (HR5.out.kept hb5)
                  clear ho7 hb5 HBW
                  by_cases heq : bwtOf es = L
                  · rw [decide_eq_true heq] at HSM
                    have HDL : Hid (DocsL L es) := ⟨HREAD.out HOKM.out.1 HLL.out, heq⟩
                    clear heq
                    go_wp2_with fail
                    refine HSM.out.mono ?_
                    rintro e w' ⟨rfl, m, rfl⟩
                    go_wp2_with fail
                    go_ret2
                    exact .inl ⟨a5, c5, es, rfl, HR6.out.drewN m, HDL.out, HBY.out, HGR.out, below_drewN HB5.out m⟩
                  · rw [decide_eq_false heq] at HSM
                    have HNO : Hid (∀ ds, ¬ DocsL L ds) := fun ds h => by
                      have e := HSAME.out ds h.1
                      subst e
                      exact heq h.2
                    clear heq
                    go_wp2_with fail
                    refine HSM.out.mono ?_
                    rintro e w' ⟨rfl, m, rfl⟩
                    go_wp2_with fail
                    go_ret2
                    exact .inr (.inr ⟨rfl, HGR.out, HNO.out, below_drewN HB5.out m⟩)
                · have hnz : (((rowOf es).length : Int) != (L.length : Int)) = true := by rw [bne_iff_ne]; omega
                  have HNO : Hid (∀ ds, ¬ DocsL L ds) := fun ds h => by
                    have e := HSAME.out ds h.1
                    subst e
                    exact hll h.1.all
                  clear hll
                  go_wp2_with fail
                  go_ret2
                  exact .inr (.inr ⟨rfl, HGR.out, HNO.out, HBF.out⟩)
end Go.Proofs.YtjpoebmjfedecaaGreat

/-
  A row of symbols, sorted out: of documents, with too great a symbol, or of none; the program's and the document's answers in one form.
-/
namespace Go.Proofs.YtjpoebmjfedecaaGreat
open Go.RowKit

def Cls (L : List Nat) (z : Int) (es : List (List Nat)) : Prop :=
  (z = 0 ∧ anyGreat L = false ∧ DocsL L es) ∨ (z = 1 ∧ anyGreat L = true ∧ es = []) ∨ (z = 3 ∧ anyGreat L = false ∧ es = [] ∧ ∀ ds, ¬ DocsL L ds)
theorem Cls.one {L : List Nat} {z z' : Int} {es es' : List (List Nat)} (h : Cls L z es) (g : Cls L z' es') : z = z' ∧ es = es' := by
  rcases h with ⟨h1, h2, h3⟩ | ⟨h1, h2, h3⟩ | ⟨h1, h2, h3, h4⟩ <;> rcases g with ⟨g1, g2, g3⟩ | ⟨g1, g2, g3⟩ | ⟨g1, g2, g3, g4⟩
  · exact ⟨by rw [h1, g1], h3.one g3⟩
  · rw [h2] at g2; cases g2
  · exact (g4 _ h3).elim
  · rw [h2] at g2; cases g2
  · exact ⟨by rw [h1, g1], by rw [h3, g3]⟩
  · rw [h2] at g2; cases g2
  · exact (h4 _ g3).elim
  · rw [h2] at g2; cases g2
  · exact ⟨by rw [h1, g1], by rw [h3, g3]⟩
theorem Cls.ok {L : List Nat} {es : List (List Nat)} (h : Cls L 0 es) : DocsL L es ∧ anyGreat L = false := by
  rcases h with ⟨h1, h2, h3⟩ | ⟨h1, h2, h3⟩ | ⟨h1, h2, h3, h4⟩
  · exact ⟨h3, h2⟩
  · omega
  · omega
theorem Cls.not {L : List Nat} {z : Int} {es : List (List Nat)} (h : Cls L z es) (hz : z ≠ 0) : anyGreat L = true ∨ ∀ ds, ¬ DocsL L ds := by
  rcases h with ⟨h1, h2, h3⟩ | ⟨h1, h2, h3⟩ | ⟨h1, h2, h3, h4⟩
  · exact (hz h1).elim
  · exact .inl h2
  · exact .inr h4
def ClsPost (w : World) (L : List Nat) (e : Ending) (w' : World) : Prop :=
  ∃ z a A cap es, e = .returned (.tuple #[.slice a es.length cap, .int .i64 z]) ∧ DocsAt w' a A (fun j => (es.getD j []).length) es ∧ Cls L z es ∧ NewOk es ∧ Below w.heap.size w w'
theorem ok_nil : NewOk [] := ⟨by decide, fun d hd => (by cases hd), by decide, fun d hd => (by cases hd)⟩
theorem docs_nil (w : World) (a : Option Addr) (A : Nat → Option Addr) (C : Nat → Nat) : DocsAt w a A C [] := ⟨Row.nil _ _ _, fun r hr => by simp at hr⟩
theorem docs_cls (w : World) (a : Option Addr) (cap : Nat) (L : List Nat) (h6 : L.length ≤ 60000) (h5 : stC L 1 ≤ 500) (hr : Row w a L.length (symV L)) :
    Calls Tryz.prog 17 #[.slice a L.length cap] w (ClsPost w L) := by
  refine (docs_any w a cap L h6 h5 hr).mono ?_
  rintro e w1 (⟨a1, A, es, rfl, hd, hl, hok, hg, hb⟩ | ⟨rfl, hg, hb⟩ | ⟨rfl, hg, hno, hb⟩)
  · exact ⟨0, a1, A, es.length, es, rfl, hd, .inl ⟨rfl, hg, hl⟩, hok, hb⟩
  · exact ⟨1, none, fun _ => none, 0, [], rfl, docs_nil _ _ _ _, .inr (.inl ⟨rfl, hg, rfl⟩), ok_nil, hb⟩
  · exact ⟨3, none, fun _ => none, 0, [], rfl, docs_nil _ _ _ _, .inr (.inr ⟨rfl, hg, rfl, hno⟩), ok_nil, hb⟩
def RClsPost (w : World) (L : List Nat) (z : Int) (es : List (List Nat)) (e : Ending) (w' : World) : Prop :=
  ∃ a cap, e = .returned (.tuple #[.slice a es.length cap, .int .i64 z]) ∧ Row w' a es.length (strV es) ∧ Below w.heap.size w w'
theorem refdocs_cls (w : World) (a : Option Addr) (cap : Nat) (L : List Nat) (h6 : L.length ≤ 60000) (h5 : stC L 1 ≤ 500) (hr : Row w a L.length (symV L)) (hm : ∀ c ∈ L, c < 65536) (z : Int) (es : List (List Nat)) (hc : Cls L z es) :
    Calls Tryz.prog 7 #[.slice a L.length cap] w (RClsPost w L z es) := by
  refine (refdocs_any w a cap L h6 h5 hr hm).mono ?_
  rintro e w1 (⟨a1, c1, fs, rfl, hd, hl, hok, hg, hb⟩ | ⟨rfl, hg, hb⟩ | ⟨rfl, hg, hno, hb⟩)
  · obtain ⟨rfl, rfl⟩ := hc.one (.inl ⟨rfl, hg, hl⟩)
    exact ⟨a1, c1, rfl, hd, hb⟩
  · obtain ⟨rfl, rfl⟩ := hc.one (.inr (.inl ⟨rfl, hg, rfl⟩))
    exact ⟨none, 0, rfl, Row.nil _ _ _, hb⟩
  · obtain ⟨rfl, rfl⟩ := hc.one (.inr (.inr ⟨rfl, hg, rfl, hno⟩))
    exact ⟨none, 0, rfl, Row.nil _ _ _, hb⟩
/-- symbols that came in, as a list -/
theorem syms_list {w : World} {a1 : Option Addr} {len : Nat} {f : Nat → Int} (hr : Row w a1 len (fun k => .int .u16 (f k)) ∧ ∀ k, k < len → (Lit.int .u16 (f k)).wf = true) :
    ∃ L : List Nat, len = L.length ∧ Row w a1 L.length (symV L) ∧ ∀ c ∈ L, c < 65536 := by
  obtain ⟨hr, hwf⟩ := hr
  refine ⟨(List.range len).map fun k => (f k).toNat, by simp, ?_, fun c hc => ?_⟩
  · simp only [List.length_map, List.length_range]
    refine hr.congr fun k hk => ?_
    have := bounds_u16 (hwf k hk)
    simp [symV, List.getD_eq_getElem?_getD, hk]; omega
  · obtain ⟨k, hk, rfl⟩ := List.mem_map.1 hc
    have := bounds_u16 (hwf k (List.mem_range.1 hk))
    omega
end Go.Proofs.YtjpoebmjfedecaaGreat
