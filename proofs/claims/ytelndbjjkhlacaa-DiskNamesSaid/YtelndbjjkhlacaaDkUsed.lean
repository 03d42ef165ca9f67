/-
  How many bytes the files have that have names.
-/
import Derived.Test.YtelndbjjkhlacaaDkOn
import Derived.Sort.MapsRangeIn
namespace Go.Proofs.Ytelndbjjkhlacaa
open Go.RowKit Go.Maps Go.WideMaps

def cntF (g : Nat → Nat) (d : DT) : Nat := match decF d with | some f => g f | none => 0
def sumL (es : List (Lit × DT)) (left : Lit → Bool) (g : Nat → Nat) : Nat := (es.map fun p => bif left p.1 then 0 else cntF g p.2).sum
def sumD (D : DT) (left : Lit → Bool) (g : Nat → Nat) : Nat := match D with | .map es => sumL es left g | _ => 0
def usedS (S : DSt) : Nat := if S.dead then 0 else sumD S.names (fun _ => false) fun f => (S.fb f).length
theorem sumD_start {D : DT} (hc : Canon D) (g : Nat → Nat) : sumD D (has D) g = 0 := by
  obtain ⟨es, rfl, _, hk⟩ := hc
  show sumL es (has (.map es)) g = 0
  unfold sumL
  have : ∀ l : List (Lit × DT), (∀ p ∈ l, has (.map es) p.1 = true) → (l.map fun p => bif has (.map es) p.1 then 0 else cntF g p.2).sum = 0 := by
    intro l
    induction l with
    | nil => intro _; rfl
    | cons p l ih =>
      intro h
      simp only [List.map_cons, List.sum_cons]
      rw [h p (.head _), ih (fun q hq => h q (.tail _ hq))]
      rfl
  exact this es fun p hp => List.any_eq_true.2 ⟨p, hp, WideAt.sameKey_self (hk p hp)⟩
theorem sumL_same : ∀ (l : List (Lit × DT)) (a b : Lit → Bool) (g : Nat → Nat), (∀ p ∈ l, a p.1 = b p.1) → sumL l a g = sumL l b g := by
  intro l a b g h
  unfold sumL
  congr 1
  exact List.map_congr_left fun p hp => by rw [h p hp]
theorem sumD_step {D : DT} (hc : Canon D) (left : Lit → Bool) (k : Lit) (hl : left k = true) (d : DT) (hat : ∀ z, D.atKey k z = d) (g : Nat → Nat) :
    sumD D (fun z => left z && !z.sameKey k) g = sumD D left g + cntF g d := by
  have hh : has D k = true := has_true_of_atKey hat
  obtain ⟨es, rfl, hs, hk⟩ := hc
  have hp := apart_of_rising hs
  obtain ⟨p0, hp0, hsk⟩ := List.any_eq_true.1 hh
  have e0 : p0.1 = k := WideAt.sameKey_eq hsk
  subst e0
  have hd : d = p0.2 := by rw [← hat .nil]; exact WideAt.atKey_mem .nil (hk p0 hp0) hp hp0
  subst hd
  show sumL es (fun z => left z && !z.sameKey p0.1) g = sumL es left g + cntF g p0.2
  clear hat hh hs
  induction es with
  | nil => cases hp0
  | cons p l ih =>
    obtain ⟨h1, h2⟩ := List.pairwise_cons.1 hp
    unfold sumL at ih ⊢
    simp only [List.map_cons, List.sum_cons]
    rcases List.mem_cons.1 hp0 with e | hm
    · subst e
      rw [hsk, hl]
      have := sumL_same l (fun z => left z && !z.sameKey p0.1) left g (fun q hq => by rw [sameKey_ne (fun e => h1 q hq e.symm)]; simp)
      unfold sumL at this
      rw [this]
      simp only [Bool.not_true, Bool.and_false, cond_false, cond_true]
      omega
    · have e1 : p.1.sameKey p0.1 = false := sameKey_ne (h1 p0 hm)
      rw [e1, ih (fun q hq => hk q (.tail _ hq)) h2 hm]
      simp only [Bool.not_false, Bool.and_true]
      omega
theorem sumD_end (D : DT) (left : Lit → Bool) (h : ∀ k, left k = false) (g : Nat → Nat) : sumD D left g = sumD D (fun _ => false) g := by
  have : left = fun _ => false := funext h
  rw [this]
theorem sumD_le {D : DT} (hc : Canon D) (left : Lit → Bool) (g : Nat → Nat) (F : List Nat) (hn : NamesOk D F) (m : Nat) (h : ∀ f ∈ F, g f ≤ m) : sumD D left g ≤ size D * m := by
  obtain ⟨es, rfl, hs, hk⟩ := hc
  have hE : ∀ p ∈ es, cntF g p.2 ≤ m := fun p hp => by
    obtain ⟨f, hf, ha⟩ := hn p.1 (List.any_eq_true.2 ⟨p, hp, WideAt.sameKey_self (hk p hp)⟩)
    have : p.2 = enc f := by rw [← ha .nil]; exact (WideAt.atKey_mem .nil (hk p hp) (apart_of_rising hs) hp).symm
    unfold cntF
    rw [this, decF_enc]
    exact h f hf
  show sumL es left g ≤ es.length * m
  clear hn hs hk
  unfold sumL
  induction es with
  | nil => simp
  | cons p l ih =>
    simp only [List.map_cons, List.sum_cons, List.length_cons]
    have h1 := ih (fun q hq => hE q (.tail _ hq))
    have : (bif left p.1 then 0 else cntF g p.2) ≤ m := by
      cases left p.1
      · exact hE p (.head _)
      · exact Nat.zero_le _
    rw [Nat.add_mul]
    omega
theorem NmAt.canon {w : World} {b : Nat} {D : DT} (h : NmAt w b D) : Canon D := World.ownsMap.canon h law_str
theorem inv_key : ∀ key kl, keyOf Try.prog 9 key = some kl → ∃ x, key = Value.string x := fun _ _ h => Maps.keyOf_string_inv Try.underlying9 h
theorem inv_val : ∀ v y, fileR v = some y → ∃ c, v = pF c := fun _ y h => ⟨_, (fileR_inv (d := y.1) (ps := y.2) h).1⟩
theorem fileR_pF (c : Option Nat) (y : DT × List MemPlace) (h : fileR (pF c) = some y) : decF y.1 = c := by
  cases c with
  | none => cases h; rfl
  | some f => cases h; exact decF_enc f
set_option maxRecDepth 100000 in
set_option maxHeartbeats 1000000 in
theorem used_any (B : Nat) (w : World) (bd : Nat) (S : DSt) (h : DiskAt B w bd S) (hok : DOk S) :
    Calls Try.prog 24 #[.pointer (some ⟨bd, 0, none⟩)] w fun e w' => e = .returned (.int .i64 (usedS S : Int)) ∧ Below w.heap.size w w' := by
  obtain ⟨ρ, vf, vt, bn, bl, V, hd⟩ := h
  have c5 : w.cell? ⟨bd, 5, none⟩ = some (.bool S.dead) := hd.head.cell (i := 5) (by omega)
  have c7 : w.cell? ⟨bd, 7, none⟩ = some (.map (some bn)) := hd.head.cell (i := 7) (by omega)
  have HD := Lib.hid hd
  have HOK := Lib.hid hok
  have HN := Lib.hid hd.names
  unfold usedS
  clear hd hok
  cases hdd : S.dead with
  | true =>
    rw [hdd] at c5
    clear hdd
    go_enter Try.func24, Try.ntmps24
    go_wp2
    go_ret
    exact ⟨rfl, Below.refl _ _⟩
  | false =>
    rw [hdd] at c5
    clear hdd
    simp only [Bool.false_eq_true, if_false]
    generalize hg : (fun f => (S.fb f).length) = g
    have HG := Lib.hid hg
    clear hg
    go_enter Try.func24, Try.ntmps24
    go_wp2_with (first | (at_range; refine wpList_range_own _ rfl _ 56 rfl 9 62 law_str Try.underlying56 fileR bn (size S.names) S.names rfl HN.out ?_; intro w0 hrg0 hg0 hs0) | fail)
    go_frame
    have hb0 : Below w.heap.size w w0 := ⟨hg0.os, hg0.tape, hg0.output, hg0.size, fun b hb => hg0.block b hb (by simp)⟩
    have HRG := Lib.hid hrg0
    have HB0 := Lib.hid hb0
    have hsm : size S.names ≤ 100000 := HOK.out.small.1
    have HLE : Hid (∀ left, sumD S.names left g ≤ size S.names * 200000) := fun left => sumD_le HN.out.canon left g S.files HOK.out.names 200000 (fun f hf => by rw [← HG.out]; exact HOK.out.long f hf)
    have HST := Lib.hid (fun left k hl d hat => sumD_step HN.out.canon left k hl d hat g)
    have HS0 := Lib.hid (sumD_start HN.out.canon g)
    clear hrg0 hg0 hs0 hb0 c5 c7
    go_loopw [3, 5] (fun v3 _ wr => ∃ left cnt, wr.ranges Try.prog 9 fileR bn w.heap.size (size S.names) S.names left cnt ∧ v3 = .int .i64 (sumD S.names left g : Int) ∧ Below w.heap.size w wr) (fun _ _ wr => wr.rangeLeft bn w.heap.size)
    case atStart => exact ⟨_, _, HRG.out, by rw [HS0.out]; rfl, HB0.out⟩
    case round =>
      obtain ⟨left, cnt, hrg, rfl, hbel⟩ := hrel
      have hle := HLE.out left
      have HBL := Lib.hid hbel
      clear hbel
      go_wp2_with (first | (at_next; refine wpList_next_ranges _ rfl _ rfl 9 law_str fileR Value.string pF inv_key inv_val bn w.heap.size (size S.names) S.names left cnt rfl hrg ?_ ?_) | fail)
      · intro _ hl0
        have HEN := Lib.hid (sumD_end S.names left hl0 g)
        clear hrg hl0
        rw [HEN.out]
        go_wp2
        go_ret
        exact ⟨rfl, HBL.out⟩
      · intro x c kl y ps w1 cnt1 hkx hlx hy hat hrg1 hlt hg1 hs1 hen
        obtain ⟨f, hf, ha⟩ := HOK.out.names kl (has_true_of_atKey hat)
        have hye : y = enc f := by rw [← hat .nil, ha]
        have hc : c = some f := by rw [← fileR_pF c (y, ps) hy]; show decF y = some f; rw [hye, decF_enc]
        subst hc
        have hb1 : Below w.heap.size w w1 := HBL.out.grown hg1 HBL.out.size (fun k hk => by cases hk; exact Nat.le_refl _)
        obtain ⟨a, cap, hV, _⟩ := Row.of_owns (HD.out.bytes f hf)
        have cf : w1.cell? ⟨f, 0, none⟩ = some (.slice a (S.fb f).length cap) := by
          rw [← hV]
          exact (hb1.cell (p := ⟨f, 0, none⟩) (HD.out.file_lt hf)).trans ((HD.out.file f hf).cell (i := 0) (by omega))
        have hsp := HST.out left kl hlx _ hat
        rw [hye] at hsp
        have hcn : cntF g (enc f) = (S.fb f).length := by unfold cntF; rw [decF_enc, ← HG.out]
        rw [hcn] at hsp
        have hle1 := HLE.out (fun z => left z && !z.sameKey kl)
        have y1 : IntKind.i64.wrap ((sumD S.names left g : Int) + ((S.fb f).length : Int)) = ((sumD S.names (fun z => left z && !z.sameKey kl) g : Nat) : Int) := by
          rw [hsp]
          rw [hsp] at hle1
          rw [show ((sumD S.names left g : Nat) : Int) + ((S.fb f).length : Int) = ((sumD S.names left g + (S.fb f).length : Nat) : Int) by omega]
          exact IntWalk.i64_in _ (by omega)
        have HR1 := Lib.hid hrg1
        have HR0 := Lib.hid hrg
        have HB1 := Lib.hid hb1
        have HLT := Lib.hid hlt
        unfold pF at hen
        simp only at hen
        clear hrg hrg1 hb1 hlt hg1 hs1 hat ha hy hye hkx hlx hsp hcn hle1 hV hf
        go_wp2_with fail
        go_roundw
        case rel => exact ⟨_, _, HR1.out, rfl, HB1.out⟩
        case measure => rw [HR1.out.left_eq, HR0.out.left_eq]; exact HLT.out
end Go.Proofs.Ytelndbjjkhlacaa
