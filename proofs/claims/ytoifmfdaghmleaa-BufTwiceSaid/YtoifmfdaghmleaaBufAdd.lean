/-
  A buffer is made, asked for its room, written to.
-/
import Derived.Test.YtoifmfdaghmleaaBufTurn
set_option linter.unusedVariables false
namespace Go.Proofs.Ytoifmfdaghmleaa
open Go.RowKit Go.Lib Go.Sort Go.Shelf Go.Proofs.Ytoifmfdaghmleaa.Tx

set_option maxRecDepth 100000 in
theorem newBuf (dd : Int → List Nat) (w : World) :
    Calls Try.prog 12 #[] w fun e w' => ∃ bp mp, e = .returned (.pointer (some ⟨bp, 0, none⟩)) ∧ BufS w.heap.size dd w' bp mp (.slice none 0 0) [] ∧ Below w.heap.size w w' := by
  have HN := Lib.hid (newMapI w)
  go_enter Try.func12, Try.ntmps12
  go_wp2_with fail
  refine HN.out.mono ?_
  rintro e w1 ⟨rfl, hm, hb⟩
  have HM := Lib.hid hm
  have HB := Lib.hid hb
  have HL := Lib.hid hm.box.lt
  clear hm hb HN
  go_wp2
  go_ret
  have hb1 : Below w1.heap.size w1 (w1.alloc (.cells #[.pointer (some ⟨w.heap.size, 0, none⟩), .int .i64 0] 80)) := (Below.refl _ w1).alloc (Nat.le_refl _) _
  refine ⟨w1.heap.size, w.heap.size, rfl, ⟨?_, HM.out.kept hb1, ⟨fun e => by have := HL.out; omega, fun e => by simp [Value.ownBlock] at e⟩, fun e he => (List.not_mem_nil he).elim, fun e he => (List.not_mem_nil he).elim, ⟨HB.out.size, Nat.le_refl _⟩⟩, below_next HB.out hb1 HB.out.size⟩
  rw [totL_nil]
  exact heap_alloc_new w1 _
/-- Room's answer -/
def roomR (L : List BEnt) (n : Nat) : Int := if 2000 < n then 2 else if 300 ≤ L.length then 65 else if 60000 < totL L + L.length + n + 1 then 65 else 0
set_option maxRecDepth 100000 in
theorem roomB {base : Nat} {dd : Int → List Nat} {w : World} {bp mp : Nat} {mv : Value} {L : List BEnt} (h : BufS base dd w bp mp mv L) (hl : L.length ≤ 100000) (ht : totL L ≤ 100000) (a : Option Addr) (n cap : Nat) (hn : n ≤ 1000000) :
    Calls Try.prog 57 #[.pointer (some ⟨bp, 0, none⟩), .slice a n cap] w fun e w' => e = .returned (.int .i64 (roomR L n)) ∧ ∃ q, w' = w.drewN q := by
  have HLEN := Lib.hid (fun q => lenMI (w.drewN q) mp mv (ents vS L) (h.map.kept (below_drewN (Below.refl _ _) q)))
  simp only [ents_len] at HLEN
  obtain ⟨c0, c1⟩ := h.cap
  unfold roomR
  clear h
  generalize L.length = m at *
  generalize totL L = t at *
  by_cases h1 : 2000 < n
  · have t1 : (2000 : Int) < (n : Int) := by omega
    rw [if_pos h1]
    go_enter Try.func57, Try.ntmps57
    go_wp2
    go_ret
    exact ⟨rfl, 0, rfl⟩
  · have t1 : ¬ (2000 : Int) < (n : Int) := by omega
    rw [if_neg h1]
    by_cases h2 : 300 ≤ m
    · have t2 : (300 : Int) ≤ (m : Int) := by omega
      have t3 : decide ((300 : Int) ≤ (m : Int)) = true := decide_eq_true t2
      rw [if_pos h2]
      clear h1 h2
      go_enter Try.func57, Try.ntmps57
      go_wp2
      go_quiet ((go_at_call 64; exact Calls.quiet_of_same (HLEN.out _)))
      go_wp2
      go_ret
      exact ⟨rfl, _, rfl⟩
    · have t2 : ¬ (300 : Int) ≤ (m : Int) := by omega
      have t3 : decide ((300 : Int) ≤ (m : Int)) = false := decide_eq_false t2
      have w1 : IntKind.i64.wrap ((t : Int) + (m : Int)) = (t : Int) + (m : Int) := IntWalk.i64_in _ (by omega)
      have w2 : IntKind.i64.wrap ((t : Int) + (m : Int) + (n : Int)) = (t : Int) + (m : Int) + (n : Int) := IntWalk.i64_in _ (by omega)
      have w3 : IntKind.i64.wrap ((t : Int) + (m : Int) + (n : Int) + 1) = (t : Int) + (m : Int) + (n : Int) + 1 := IntWalk.i64_in _ (by omega)
      rw [if_neg h2]
      by_cases h3 : 60000 < t + m + n + 1
      · have t4 : (60000 : Int) < (t : Int) + (m : Int) + (n : Int) + 1 := by omega
        have t5 : decide ((60000 : Int) < (t : Int) + (m : Int) + (n : Int) + 1) = true := decide_eq_true t4
        rw [if_pos h3]
        clear h1 h2 h3
        go_enter Try.func57, Try.ntmps57
        go_wp2
        go_quiet ((go_at_call 64; exact Calls.quiet_of_same (HLEN.out _)))
        go_wp2
        go_ret
        exact ⟨rfl, _, rfl⟩
      · have t4 : ¬ (60000 : Int) < (t : Int) + (m : Int) + (n : Int) + 1 := by omega
        have t5 : decide ((60000 : Int) < (t : Int) + (m : Int) + (n : Int) + 1) = false := decide_eq_false t4
        rw [if_neg h3]
        clear h1 h2 h3
        go_enter Try.func57, Try.ntmps57
        go_wp2
        go_quiet ((go_at_call 64; exact Calls.quiet_of_same (HLEN.out _)))
        go_wp2
        go_ret
        exact ⟨rfl, _, rfl⟩
section
variable {base : Nat} {dd : Int → List Nat} {w : World} {bp mp : Nat} {mv : Value} {L : List BEnt}
/-- what Get tells of a key -/
def getV (L : List BEnt) (x : Int) : DocA := if x ∈ ksG L then (vsG L).getD (rk ltI (ksG L) x) (none, 0, 0) else (none, 0, 0)
theorem getB (h : BufS base dd w bp mp mv L) (hl : L.length ≤ 100000) (x : Int) :
    Calls Try.prog 56 #[.pointer (some ⟨mp, 0, none⟩), .int .i64 x] w fun e w' => e = .returned (.tuple #[.slice (getV L x).1 (getV L x).2.1 (getV L x).2.2, .bool (memB (ksG L) x)]) ∧ Below w.heap.size w w' := by
  have hg := getMI w mp mv (ents vS L) h.map (by rw [ents_len]; omega) x
  rw [ents_ks] at hg
  unfold getV
  by_cases hm : x ∈ ksG L
  · rw [if_pos hm]
    rw [mget_in ltI vS (none, 0, 0) _ L x hm (rk_in ordI h.rise hm).1] at hg
    exact hg
  · rw [if_neg hm]
    rw [mget_out ltI vS _ L x hm] at hg
    exact hg
set_option maxRecDepth 100000 in
/-- an id that is there -/
theorem addB_old (h : BufS base dd w bp mp mv L) (hl : L.length ≤ 100000) (id : Int) (hi : 1 ≤ id) (hm : id ∈ ksG L) (a : Option Addr) (n cap : Nat) :
    Calls Try.prog 13 #[.pointer (some ⟨bp, 0, none⟩), .int .i64 id, .slice a n cap] w fun e w' => e = .returned (.int .i64 12) ∧ Below w.heap.size w w' := by
  have HG := Lib.hid (getB h hl id)
  rw [memB_true hm] at HG
  obtain ⟨c0, c1⟩ := h.cap
  have t0 : ¬ id < 1 := by omega
  generalize getV L id = z at *
  clear h hm
  go_enter Try.func13, Try.ntmps13
  go_wp2_with fail
  refine HG.out.mono ?_
  rintro e w1 ⟨rfl, hb⟩
  have HB := Lib.hid hb
  clear hb c0 c1 HG
  go_wp2
  go_ret
  exact ⟨rfl, HB.out⟩
set_option maxRecDepth 100000 in
/-- no room -/
theorem addB_many (h : BufS base dd w bp mp mv L) (hl : L.length ≤ 100000) (ht : totL L ≤ 100000) (id : Int) (hi : 1 ≤ id) (hm : id ∉ ksG L) (a : Option Addr) (n cap : Nat) (hn : n ≤ 1000000) (hr : roomR L n ≠ 0) :
    Calls Try.prog 13 #[.pointer (some ⟨bp, 0, none⟩), .int .i64 id, .slice a n cap] w fun e w' => e = .returned (.int .i64 (roomR L n)) ∧ Below w.heap.size w w' := by
  have HG := Lib.hid (getB h hl id)
  rw [memB_false hm] at HG
  obtain ⟨c0, c1⟩ := h.cap
  have t0 : ¬ id < 1 := by omega
  have HR := Lib.hid (fun W (hW : Below w.heap.size w W) => roomB (h.kept hW) hl ht a n cap hn)
  generalize getV L id = z at *
  generalize roomR L n = r at *
  have t1 : (r == 0) = false := by simpa using hr
  have t2 : (r != 0) = true := by simpa using hr
  clear h hm hr
  go_enter Try.func13, Try.ntmps13
  go_wp2_with fail
  refine HG.out.mono ?_
  rintro e w1 ⟨rfl, hb⟩
  have HB := Lib.hid hb
  clear hb c0 c1 HG
  go_wp2_with fail
  refine (HR.out _ HB.out).mono ?_
  rintro e w2 ⟨rfl, q, rfl⟩
  have HB2 := Lib.hid (below_drewN HB.out q)
  generalize w1.drewN q = w2 at *
  go_wp2
  go_ret
  exact ⟨rfl, HB2.out⟩
theorem roomR_ok {L : List BEnt} {n : Nat} (h1 : n ≤ 2000) (h2 : L.length < 300) (h3 : totL L + L.length + n + 1 ≤ 60000) : roomR L n = 0 := by
  unfold roomR
  rw [if_neg (by omega), if_neg (by omega), if_neg (by omega)]
set_option maxRecDepth 100000 in
set_option maxHeartbeats 1000000 in
theorem addB_ok (h : BufS base dd w bp mp mv L) (hb0 : base ≤ w.heap.size) (id : Int) (hi : 1 ≤ id) (hm : id ∉ ksG L) (a : Option Addr) (n cap : Nat) (hr : Row w a n (byteV (dd id))) (hnd : n = (dd id).length) (h1 : n ≤ 2000) (h2 : L.length < 300) (h3 : totL L + L.length + n + 1 ≤ 60000) :
    Calls Try.prog 13 #[.pointer (some ⟨bp, 0, none⟩), .int .i64 id, .slice a n cap] w fun e w' => e = .returned (.int .i64 0) ∧ ∃ z : DocA, z.2.1 = n ∧ BufTurn base dd w bp mp mv L (putE ltI L id z) w' := by
  have HG := Lib.hid (getB h (by omega) id)
  rw [memB_false hm] at HG
  obtain ⟨c0, c1⟩ := h.cap
  have t0 : ¬ id < 1 := by omega
  have HR := Lib.hid (fun W (hW : Below w.heap.size w W) => roomB (h.kept hW) (by omega) (by omega) a n cap (by omega))
  rw [roomR_ok h1 h2 h3] at HR
  have H := Lib.hid h
  have HROW := Lib.hid hr
  have HMM := Lib.hid hm
  have HND := Lib.hid hnd
  have HLN : Hid (L.length < 300 ∧ n ≤ 2000 ∧ totL L ≤ 60000 ∧ base ≤ w.heap.size) := ⟨h2, h1, by omega, hb0⟩
  have HOA := Lib.hid (fun W (hW : Below w.heap.size w W) => own_any W a n cap (byteV (dd id)) (by omega) (fun _ _ => rfl) (hr.kept hW))
  generalize getV L id = z at *
  clear h hm hr hnd h1 h2 h3 hb0
  go_enter Try.func13, Try.ntmps13
  go_wp2_with fail
  refine HG.out.mono ?_
  rintro e w1 ⟨rfl, hb⟩
  have HB := Lib.hid hb
  clear hb c0 c1 HG
  go_wp2_with fail
  refine (HR.out _ HB.out).mono ?_
  rintro e w2 ⟨rfl, q, rfl⟩
  have HB2 := Lib.hid (below_drewN HB.out q)
  generalize w1.drewN q = w2 at *
  clear HB HR
  have h2s := H.out.kept HB2.out
  have H2 := Lib.hid h2s
  obtain ⟨c0, c1⟩ := h2s.cap
  have HOW := Lib.hid (fun W (hW : Below w2.heap.size w2 W) => HOA.out W (below_next HB2.out hW HB2.out.size))
  have HPT := Lib.hid (fun W (hW : Below w2.heap.size w2 W) (ad : Option Addr) => putMI W mp mv (ents vS L) (h2s.map.kept hW) (by rw [ents_len]; have := HLN.out.1; omega) id ad n n)
  clear h2s
  go_wp2
  go_region_with (first
    | (go_simp; go_at_call 59; refine (HOW.out _ ((Below.refl _ w2).drew)).mono ?_; rintro e w3 ⟨ad, rfl, hr3, hb3, hl3⟩; have HR3 := Lib.hid hr3; have HB3 := Lib.hid hb3; have HL3 := Lib.hid hl3; have c03 := (H2.out.kept (((Below.refl _ w2).drew).trans hb3)).cap.1; clear hr3 hb3 hl3)
    | (go_simp; go_at_call 58; refine (HPT.out _ ((Below.refl _ w2).drew.trans HB3.out) _).mono ?_; rintro e w4 ⟨v4, rfl, hm4, st4, hv4⟩; have HM4 := Lib.hid hm4; have ST4 := Lib.hid st4; have HV4 := Lib.hid hv4; clear hm4 st4 hv4))
  all_goals
    obtain ⟨hbx, hturn⟩ := turn_add H2.out (Nat.le_trans HLN.out.2.2.2 HB2.out.size) HMM.out HR3.out HND.out (((Below.refl _ w2).drew).trans HB3.out) HL3.out HM4.out ST4.out HV4.out
    have d1 := (box_cell hbx).1
    have d2 := (box_cell hbx).2
    have d0 : w4.cell? ⟨bp, 0, none⟩ = some (.pointer (some ⟨mp, 0, none⟩)) := by simp [World.cell?, hbx]
    have HTN := Lib.hid hturn
    have hwr : IntKind.i64.wrap (((totL L : Nat) : Int) + (n : Int)) = ((totL L : Nat) : Int) + (n : Int) := IntWalk.i64_in _ (by have := HLN.out; omega)
    clear hbx hturn c0 c1 c03
    go_wp2
    go_ret
    exact ⟨rfl, ⟨ad, n, n⟩, rfl, BufTurn.older HB2.out HTN.out⟩
theorem tot_drop (h : BufS base dd w bp mp mv L) (x : Int) : ((totL L : Nat) : Int) - (((getV L x).2.1 : Nat) : Int) = ((totL (delE ltI L x) : Nat) : Int) ∧ (getV L x).2.1 ≤ totL L := by
  unfold getV delE
  by_cases hm : x ∈ ksG L
  · rw [if_pos hm, if_pos hm]
    obtain ⟨h1, h2⟩ := get_mem (none, 0, 0) h.rise hm
    have h3 := totL_del L _ h1
    rw [h2] at h3
    dsimp only at h3
    constructor <;> omega
  · rw [if_neg hm, if_neg hm]
    exact ⟨by simp, Nat.zero_le _⟩
set_option maxRecDepth 100000 in
set_option maxHeartbeats 1000000 in
theorem dropB (h : BufS base dd w bp mp mv L) (hl : L.length ≤ 100000) (ht : totL L ≤ 100000) (id : Int) :
    Calls Try.prog 14 #[.pointer (some ⟨bp, 0, none⟩), .int .i64 id] w fun e w' => e = .returned (.bool (memB (ksG L) id)) ∧ BufTurn base dd w bp mp mv L (delE ltI L id) w' := by
  have HG := Lib.hid (getB h hl id)
  obtain ⟨htt, htl⟩ := tot_drop h id
  obtain ⟨c0, c1⟩ := h.cap
  have H := Lib.hid h
  have hk : keysL (ents vS L) = ksG L := ents_ks vS L
  have HDR := Lib.hid (fun W (hm : MapI W mp mv (ents vS L)) => dropMI W mp mv (ents vS L) hm (by rw [ents_len]; omega) id)
  rw [hk] at HDR
  have hwr : IntKind.i64.wrap (((totL L : Nat) : Int) - (((getV L id).2.1 : Nat) : Int)) = ((totL L : Nat) : Int) - (((getV L id).2.1 : Nat) : Int) := IntWalk.i64_in _ (by omega)
  rw [htt] at hwr
  have hsub : ((totL L : Nat) : Int) - (((getV L id).2.1 : Nat) : Int) = ((totL (delE ltI L id) : Nat) : Int) := htt
  clear h hk htl htt
  generalize hz : getV L id = z at *
  clear hz
  generalize memB (ksG L) id = mb at *
  generalize hdl : totL (delE ltI L id) = t at *
  have HTD := Lib.hid hdl
  clear hdl
  go_enter Try.func14, Try.ntmps14
  go_wp2_with fail
  refine HG.out.mono ?_
  rintro e w1 ⟨rfl, hb⟩
  have HB := Lib.hid hb
  have h1 := H.out.kept hb
  have H1 := Lib.hid h1
  replace c0 := h1.cap.1
  replace c1 := h1.cap.2
  have c2 := h1.fr
  have d0 : (w1.setCell ⟨bp, 1, none⟩ (.int .i64 (t : Int))).cell? ⟨bp, 0, none⟩ = some (.pointer (some ⟨mp, 0, none⟩)) := by
    have := box_set (v' := .int .i64 (t : Int)) h1.box
    simp [World.cell?, this]
  have HM1 : Hid (MapI (w1.setCell ⟨bp, 1, none⟩ (.int .i64 (t : Int))) mp mv (ents vS L)) := h1.map.step (X := fun b => b = bp) (StepX.setCell w1 ⟨bp, 1, none⟩ _ rfl) (fun b hb k => by
    subst k
    exact hb.elim h1.ne.1 h1.ne.2)
  clear hb h1 HG
  go_wp2_with fail
  refine (HDR.out _ HM1.out).mono ?_
  rintro e w3 ⟨v3, rfl, hm3, st3, hv3⟩
  have HTN := Lib.hid (turn_del H1.out (t := (t : Int)) (by rw [HTD.out]) hm3 st3 hv3)
  clear hm3 st3 hv3 c0 c1 c2 d0
  go_wp2
  go_ret
  exact ⟨rfl, BufTurn.older HB.out HTN.out⟩
set_option maxRecDepth 100000 in
theorem docsB (h : BufS base dd w bp mp mv L) :
    Calls Try.prog 22 #[.pointer (some ⟨bp, 0, none⟩)] w fun e w' => e = .returned (.int .i64 ((L.length : Nat) : Int)) ∧ w' = w := by
  have HLEN := Lib.hid (lenMI w mp mv (ents vS L) h.map)
  rw [ents_len] at HLEN
  obtain ⟨c0, c1⟩ := h.cap
  clear h
  generalize L.length = m at *
  go_enter Try.func22, Try.ntmps22
  go_wp2_with fail
  refine HLEN.out.mono ?_
  rintro e w1 ⟨rfl, rfl⟩
  go_wp2
  go_ret
  exact ⟨rfl, rfl⟩
set_option maxRecDepth 100000 in
theorem bytesB (h : BufS base dd w bp mp mv L) :
    Calls Try.prog 21 #[.pointer (some ⟨bp, 0, none⟩)] w fun e w' => e = .returned (.int .i64 ((totL L : Nat) : Int)) ∧ w' = w := by
  obtain ⟨c0, c1⟩ := h.cap
  clear h
  generalize totL L = m at *
  go_enter Try.func21, Try.ntmps21
  go_wp2
  go_ret
  exact ⟨rfl, rfl⟩
end
end Go.Proofs.Ytoifmfdaghmleaa
