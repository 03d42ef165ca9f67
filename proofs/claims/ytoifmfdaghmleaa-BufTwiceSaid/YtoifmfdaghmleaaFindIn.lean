/-
  text.In's iterator: its contract; bytes.Index on what stands from a place on.
-/
import Derived.Test.YtoifmfdaghmleaaSeqX
import Derived.Test.YtoifmfdaghmleaaFindMath
import Derived.Test.YtoifmfdaghmleaaTextWalk
import Derived.Test.YtoifmfdaghmleaaIdxShelf
import Derived.Sort.BigQuietIn
namespace Go.Proofs.Ytoifmfdaghmleaa.Tx
open Go.RowKit Go.Shelf
attribute [local go_sem] Oper.semAt_some

/-- the library's variable holds some number -/
def MaxCell (W : World) : Prop := ∃ m : Int, W.cell? ⟨Try.lays185_ren.g 1, 0, none⟩ = some (.int .i64 m)
theorem MaxCell.block {W W' : World} (h : MaxCell W) (hb : W'.heap[Try.lays185_ren.g 1]? = W.heap[Try.lays185_ren.g 1]?) : MaxCell W' := by
  obtain ⟨m, hm⟩ := h
  exact ⟨m, (World.cell?_of_block (a := ⟨_, 0, none⟩) hb).trans hm⟩
theorem MaxCell.lt {W : World} (h : MaxCell W) : Try.lays185_ren.g 1 < W.heap.size := by
  obtain ⟨m, hm⟩ := h
  exact World.block_lt_of_cell? W _ hm
theorem MaxCell.kept {W W' : World} (h : MaxCell W) (hb : Below W.heap.size W W') : MaxCell W' := h.block (hb.block _ h.lt)
theorem MaxCell.drewN {W : World} (h : MaxCell W) (k : Nat) : MaxCell (W.drewN k) := h
theorem bidx_any (w : World) (ad ap : Option Addr) (cd cp : Nat) (D P : List Nat) (k : Nat) (hd : Row w ad D.length (byteV D)) (hp : Row w ap P.length (byteV P)) (hdb : ∀ c ∈ D, c < 256) (hpb : ∀ c ∈ P, c < 256)
    (hD : D.length ≤ 1000000) (hP : 0 < P.length) (hk : k + P.length ≤ D.length) (hc : D.length ≤ cd) (hm : MaxCell w) :
    Calls Try.prog 130 #[.slice (some ⟨bOf ad, oOf ad + k, none⟩) (D.length - k) (cd - k), .slice ap P.length cp] w fun e w' => e = .returned (.int .i64 (idxB P D k)) ∧ ∃ q, w' = w.drewN q := by
  obtain ⟨m, hm⟩ := hm
  have ea : ap = some ⟨bOf ap, oOf ap, none⟩ := hp.at_.resolve_left (by omega)
  rw [ea]
  refine Try.bytes_Index_at ⟨bOf ad, oOf ad + k, none⟩ ⟨bOf ap, oOf ap, none⟩ (D.length - k) (cd - k) P.length cp ((D.drop k).map Int.ofNat) (P.map Int.ofNat) m w (by rw [List.length_map, List.length_drop]) (List.length_map ..) ?_ ?_ ?_ ?_ (by omega) (by omega) (by omega) hm
  · intro x hx
    obtain ⟨c, hc, rfl⟩ := List.mem_map.1 hx
    have := hdb c (List.mem_of_mem_drop hc)
    exact ⟨Int.natCast_nonneg c, by show ((c : Nat) : Int) < 256; omega⟩
  · intro x hx
    obtain ⟨c, hc, rfl⟩ := List.mem_map.1 hx
    have := hpb c hc
    exact ⟨Int.natCast_nonneg c, by show ((c : Nat) : Int) < 256; omega⟩
  · intro i hi
    have h1 := hd.cell (k + i) (by omega)
    have e1 : (⟨bOf ad, oOf ad + k, none⟩ : Addr).add i = ⟨bOf ad, oOf ad + (k + i), none⟩ := by simp [Addr.add, Nat.add_assoc]
    rw [e1, h1]
    have e2 : ((D.drop k).map Int.ofNat).getD i 0 = ((D.getD (k + i) 0 : Nat) : Int) := by
      rw [List.getD_eq_getElem?_getD, List.getElem?_map, List.getElem?_drop, List.getD_eq_getElem?_getD, List.getElem?_eq_getElem (by omega)]; rfl
    rw [e2]
  · intro i hi
    have h1 := hp.cell i hi
    have e1 : (⟨bOf ap, oOf ap, none⟩ : Addr).add i = ⟨bOf ap, oOf ap + i, none⟩ := by simp [Addr.add]
    rw [e1, h1]
    have e2 : (P.map Int.ofNat).getD i 0 = ((P.getD i 0 : Nat) : Int) := by
      rw [List.getD_eq_getElem?_getD, List.getElem?_map, List.getD_eq_getElem?_getD, List.getElem?_eq_getElem hi]; rfl
    rw [e2]
/-- what In's iterator reads -/
structure InAt (W : World) (B1 B2 : Nat) (ad ap : Option Addr) (cd cp : Nat) (D P : List Nat) : Prop where
  p : W.cell? ⟨B1, 0, none⟩ = some (.slice ap P.length cp)
  d : W.cell? ⟨B2, 0, none⟩ = some (.slice ad D.length cd)
  dr : Row W ad D.length (byteV D)
  pr : Row W ap P.length (byteV P)
  mx : MaxCell W
/-- .. lies in blocks that the body keeps -/
structure InK (K : Nat → Prop) (B1 B2 : Nat) (ad ap : Option Addr) (D P : List Nat) : Prop where
  p : K B1
  d : K B2
  dr : D.length = 0 ∨ K (bOf ad)
  pr : P.length = 0 ∨ K (bOf ap)
  mx : K (Try.lays185_ren.g 1)
theorem InAt.keepX {K : Nat → Prop} {W W' : World} {B1 B2 : Nat} {ad ap : Option Addr} {cd cp : Nat} {D P : List Nat} (h : InAt W B1 B2 ad ap cd cp D P) (hk : InK K B1 B2 ad ap D P) (kp : KeepX K W W') : InAt W' B1 B2 ad ap cd cp D P := by
  have hb : ∀ {p : Addr} {v : Value}, K p.block → W.cell? p = some v → W'.cell? p = some v := fun {p v} hx hc => (World.cell?_of_block (kp.block _ (World.block_lt_of_cell? W _ hc) hx)).trans hc
  refine ⟨hb hk.p h.p, hb hk.d h.d, ⟨h.dr.at_, fun k hk' => ?_⟩, ⟨h.pr.at_, fun k hk' => ?_⟩, h.mx.block (kp.block _ h.mx.lt hk.mx)⟩
  · exact hb (p := ⟨bOf ad, oOf ad + k, none⟩) (hk.dr.resolve_left (by omega)) (h.dr.cell k hk')
  · exact hb (p := ⟨bOf ap, oOf ap + k, none⟩) (hk.pr.resolve_left (by omega)) (h.pr.cell k hk')
theorem InAt.kept {W W' : World} {B1 B2 : Nat} {ad ap : Option Addr} {cd cp : Nat} {D P : List Nat} (h : InAt W B1 B2 ad ap cd cp D P) (hb : Below W.heap.size W W') : InAt W' B1 B2 ad ap cd cp D P :=
  h.keepX (K := fun _ => True) ⟨trivial, trivial, .inr trivial, .inr trivial, trivial⟩ (KeepX.of_below hb)
theorem InAt.drewN {W : World} {B1 B2 : Nat} {ad ap : Option Addr} {cd cp : Nat} {D P : List Nat} (h : InAt W B1 B2 ad ap cd cp D P) (k : Nat) : InAt (W.drewN k) B1 B2 ad ap cd cp D P := ⟨h.p, h.d, h.dr.drewN k, h.pr.drewN k, h.mx⟩
set_option maxRecDepth 100000 in
theorem cut_from8 (a : Option Addr) (n cap k : Nat) (h : k < n) (hc : n ≤ cap) (h1 : n = 0 ∨ a = some ⟨bOf a, oOf a, none⟩) : ∀ W : World, (Instr.slice 26 (.slice a n cap) (some (.int .i64 (k : Int))) none none).run Try.prog W = .ok (.slice (some ⟨bOf a, oOf a + k, none⟩) (n - k) (cap - k)) W := by
  intro W
  obtain ⟨ad, rfl⟩ : ∃ ad, a = some ad := ⟨_, h1.resolve_left (by omega)⟩
  have e := h1.resolve_left (by omega)
  injection e with e
  have hsz : ∀ w, (sizeOf (Try.prog.elem 26)).run Try.prog w = .ok 1 w := fun w => size_u8 w
  simp [Instr.slice, run_underlying Try.underlying26, Instr.sliceBounds, run_sliceBound, show (0 : Int) ≤ k by omega, show (k : Int) ≤ n by omega]
  rw [if_neg (by omega)]
  obtain ⟨b, o, sp⟩ := ad
  simp [bOf, oOf] at e
  subst e
  simp [bOf, oOf, Addr.add]
set_option maxRecDepth 100000 in
set_option maxHeartbeats 1000000 in
theorem in1_any (n : Nat) (hn : 1 ≤ n) (K : Nat → Prop) (w : World) (B1 B2 : Nat) (ad ap : Option Addr) (cd cp : Nat) (D P : List Nat) (h : InAt w B1 B2 ad ap cd cp D P) (hK : InK K B1 B2 ad ap D P)
    (hdb : ∀ c ∈ D, c < 256) (hpb : ∀ c ∈ P, c < 256) (hD : D.length ≤ 1000000) (hPl : P.length ≤ 1000000) (hcd : D.length ≤ cd) :
    SeqX Fence.wide n Try.prog 129 #[.pointer (some ⟨B1, 0, none⟩), .pointer (some ⟨B2, 0, none⟩)] (fun k : Nat => #[.int .i64 (k : Int)]) K (fun xs => xs = inL P D) (fun pre => pre <+: inL P D) (inL P D).length w := by
  intro l J Jx W hW hJ hJx hY h0
  have hIn : InAt W B1 B2 ad ap cd cp D P := h.kept hW
  have hwf : ∀ f, Fence.wide.fn f = True := fun _ => rfl
  refine callsIn_of_wp Try.func129 rfl trivial ?_ rfl
  simp only [Try.ntmps129, List.size_toArray, List.length_cons, List.length_nil, Nat.reduceAdd, Nat.reduceSub, Array.replicate_succ, Array.replicate_zero, List.push_toArray, List.append_toArray, List.nil_append, List.cons_append]
  have HY := Lib.hid hY
  have HJ := Lib.hid hJ
  have HK := Lib.hid hK
  have H0 := Lib.hid h0
  have HI := Lib.hid hIn
  have HDB := Lib.hid hdb
  have HPB := Lib.hid hpb
  clear hY hJ hJx hK h0 hIn h hW hdb hpb
  by_cases hPe : P.length = 0
  · have hPn : P = [] := List.length_eq_zero_iff.1 hPe
    subst hPn
    have c1 := HI.out.p
    have c2 := HI.out.d
    gi_wp2
    refine wpIn_loop_rounds 1 ?_
    rw [roundsIn_succ]
    gi_wp2
    go_end0
    exact ⟨⟨_, rfl⟩, .inl ⟨_, _, rfl, by rw [show inL [] D = [] by unfold inL; rw [if_pos rfl]]; exact H0.out⟩⟩
  · have hP0 : 0 < P.length := by omega
    have hPn : P ≠ [] := fun e => hPe (by rw [e]; rfl)
    have HPN := Lib.hid hPn
    clear hPe hPn
    gi_wp2
    gi_loopw [4] (fun v4 wr => ∃ k : Nat, k ≤ D.length ∧ v4 = .int .i64 (k : Int) ∧ J (fun _ => False) (inTo P D k) wr ∧ InAt wr B1 B2 ad ap cd cp D P) (fun v4 _ => D.length + 1 - (intOf v4).toNat)
    case atStart => exact ⟨0, Nat.zero_le _, rfl, by rw [inTo_zero]; exact H0.out, HI.out⟩
    case round =>
      obtain ⟨k, hk, rfl, hj, hin⟩ := hrel
      have c1 := hin.p
      have c2 := hin.d
      have HJ0 := Lib.hid hj
      have HI0 := Lib.hid hin
      have HL0 := Lib.hid (inTo_len P D k)
      clear hj hin
      by_cases hkl : k + P.length ≤ D.length
      · have t1 : (k : Int) ≤ (D.length : Int) - (P.length : Int) := by omega
        have t2 : (0 : Int) < (P.length : Int) := by omega
        have hsl := cut_from8 ad D.length cd k (by omega) hcd HI0.out.dr.at_
        have HX := Lib.hid (fun q => bidx_any (wr.drewN q) ad ap cd cp D P k (HI0.out.dr.drewN q) (HI0.out.pr.drewN q) HDB.out HPB.out hD hP0 hkl hcd (HI0.out.mx.drewN q))
        have HSP := Lib.hid (idxB_spec P D HPB.out HDB.out HPN.out k (by omega))
        gi_wp2
        gi_big_quiet_th ((gi_at_call 130; exact callsIn_wide.2 (Calls.quiet_of (HX.out _))))
        have HJ1 := Lib.hid (HJ.out.step HJ0.out ((StepX.refl _ _).drewN nq))
        have HI1 := Lib.hid (HI0.out.drewN nq)
        clear c1 c2 hsl HX HI0 HJ0 t1
        generalize wr.drewN nq = wx at *
        rcases HSP.out with ⟨hx, hno⟩ | ⟨i, hx, hroom, hyes⟩
        · rw [hx]
          have HNO := Lib.hid hno
          clear hno hx HSP
          gi_wp2
          refine bodyPost_ret (results_none rfl _ _ _) rfl ?_
          exact ⟨⟨_, rfl⟩, .inl ⟨_, _, rfl, by
            have := HNO.out (D.length + 1 - k)
            rw [show k + (D.length + 1 - k) = D.length + 1 by omega] at this
            unfold inL
            rw [if_neg HPN.out, this]; exact HJ1.out⟩⟩
        · rw [hx]
          have HYES := Lib.hid hyes
          clear hyes hx HSP
          have hi0 : ¬ (i : Int) < 0 := by omega
          obtain ⟨fn, tmps, assign, body, hy, hR⟩ := HY.out (fun _ => False) (inTo P D k) (k + i) wx HJ1.out (by
            have h1 := congrArg List.length HYES.out
            have h2 := (inTo_pre P D (show k + i + 1 ≤ D.length + 1 by omega)).length_le
            rw [List.length_append] at h1
            unfold inL
            rw [if_neg HPN.out]
            simp at h1; omega)
          have HYR := Lib.hid hR
          clear hR
          rw [show ((k + i : Nat) : Int) = (k : Int) + (i : Int) by omega] at hy
          gi_wp2
          refine HYR.out.mono ?_
          rintro e0 W3 ⟨hkx, hkk, (⟨rfl, hJ3⟩ | ⟨rfl, hJx3⟩)⟩
          · have HJ3 := Lib.hid hJ3
            have HI3 : Hid (InAt W3 B1 B2 ad ap cd cp D P) := HI1.out.keepX HK.out hkk
            clear hJ3 hkk hkx hy
            gi_wp2
            go_roundw
            case rel => exact ⟨k + i + 1, by omega, by first | rfl | go_num, by rw [HYES.out]; exact HJ3.out, HI3.out⟩
            case measure => simp [intOf]; omega
          · gi_wp2
            refine bodyPost_ret (results_none rfl _ _ _) rfl ?_
            exact ⟨⟨_, rfl⟩, .inr ⟨_, _, by unfold inL; rw [if_neg HPN.out, ← HYES.out]; exact inTo_pre P D (by omega), hJx3⟩⟩
      · have t1 : ¬ (k : Int) ≤ (D.length : Int) - (P.length : Int) := by omega
        have t2 : (0 : Int) < (P.length : Int) := by omega
        have HE : Hid (J (fun _ => False) (inL P D) wr) := by
          have := inTo_short P D HPN.out k (D.length + 1 - k) (by omega)
          rw [show k + (D.length + 1 - k) = D.length + 1 by omega] at this
          unfold inL
          rw [if_neg HPN.out, this]; exact HJ0.out
        gi_wp2
        go_end0
        first
          | exact ⟨⟨_, rfl⟩, .inl ⟨_, _, rfl, HE.out⟩⟩
          | exact ⟨⟨_, rfl⟩, .inl ⟨_, HE.out⟩⟩

end Go.Proofs.Ytoifmfdaghmleaa.Tx
