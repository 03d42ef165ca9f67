/-
  open's iterator: the files that may still be come to, and whose bytes do not all last, one by one.
-/
import Derived.Test.YtelndbjjkhlacaaDkOpen
import Derived.Test.YtelndbjjkhlacaaSeqR
namespace Go.Proofs.Ytelndbjjkhlacaa
open Go.RowKit Go.Maps
attribute [local go_sem] Oper.semAt_some

def cutS (S : DSt) (pre : List Nat) (fs : List Int) : DSt := { S with fb := truncL S.fl pre fs S.fb }
def opened (S : DSt) (k : Nat) : List Nat := (S.files.take k).filter (openB S)
theorem opened_snoc (S : DSt) (k : Nat) (hk : k < S.files.length) : opened S (k + 1) = if openB S S.files[k] = true then opened S k ++ [S.files[k]] else opened S k := by
  unfold opened
  rw [List.take_succ_eq_append_getElem hk, List.filter_append]
  split
  · next h => rw [List.filter_cons_of_pos h]; rfl
  · next h => rw [List.filter_cons_of_neg h]; simp
theorem opened_out (S : DSt) (hn : S.files.Nodup) (k : Nat) (hk : k < S.files.length) : S.files[k] ∉ opened S k := fun h => by
  have h1 := (List.mem_filter.1 h).1
  obtain ⟨i, hi, e⟩ := List.getElem_of_mem h1
  rw [List.getElem_take] at e
  have hi2 : i < k := by rw [List.length_take] at hi; omega
  have := (List.getElem_inj (h₀ := by omega) (h₁ := hk) hn).1 e
  omega
structure RdC (B : Nat) (bd b1 b2 bm : Nat) (S : DSt) (fs : List Int) (vf vt : Value) (bn bl : Nat) (l : List Nat) (pre : List Nat) (W : World) : Prop where
  disk : ∃ ρ V, DiskIn B W bd ρ (cutS S pre fs) vf vt bn bl V
  x1 : W.cell? ⟨b1, 0, none⟩ = some (.pointer (some ⟨bd, 0, none⟩))
  x2 : W.cell? ⟨b2, 0, none⟩ = some (.map (some bm))
  set : PSet W bm l
def okC2 (S : DSt) (pre : List Nat) (f : Nat) (_ : World) : Prop := f ∈ S.files ∧ f ∉ pre ∧ openB S f = true
theorem bool_ways {e : Ending} {A C : Prop} (h : (e = .returned (.bool true) ∧ A) ∨ (e = .returned (.bool false) ∧ C)) : ∃ b : Bool, e = .returned (.bool b) ∧ ((b = true ∧ A) ∨ (b = false ∧ C)) := by
  rcases h with ⟨h1, h2⟩ | ⟨h1, h2⟩
  · exact ⟨true, h1, .inl ⟨rfl, h2⟩⟩
  · exact ⟨false, h1, .inr ⟨rfl, h2⟩⟩
set_option maxRecDepth 100000 in
set_option maxHeartbeats 2000000 in
theorem openIt_any (n : Nat) (hn : 1 ≤ n) (K : Nat → Prop) (B bd b1 b2 bm : Nat) (S : DSt) (hok : DOk S) (fs : List Int) (vf vt : Value) (bn bl : Nat) (l : List Nat) (hl : ∀ y ∈ l, y ∈ S.files) (hcome : ∀ f ∈ S.files, f ∈ l ↔ comeB S f = true) (w : World) :
    SeqR Fence.wide n Try.prog 55 #[.pointer (some ⟨b1, 0, none⟩), .pointer (some ⟨b2, 0, none⟩)] (fun f => #[ptrB f]) K (RdC B bd b1 b2 bm S fs vf vt bn bl l) (fun xs => xs = opened S S.files.length) (fun _ => True) (okC2 S) w := by
  intro ly J Jx W hW hJ hJx hRd hY h0
  have hwf : ∀ f, Fence.wide.fn f = True := fun _ => rfl
  have R0 := hRd _ _ _ h0
  obtain ⟨ρ0, V0, D0⟩ := R0.disk
  obtain ⟨af, cf, hvf⟩ := owns_slice D0.files
  subst hvf
  have x1 := R0.x1
  have x6 : W.cell? ⟨bd, 6, none⟩ = some (.slice af S.files.length cf) := D0.head.cell (i := 6) (by omega)
  refine callsIn_of_wp Try.func55 rfl trivial ?_ rfl
  simp only [Try.ntmps55, List.size_toArray, List.length_cons, List.length_nil, Nat.reduceAdd, Nat.reduceSub, Array.replicate_succ, Array.replicate_zero, List.push_toArray, List.append_toArray, List.nil_append, List.cons_append]
  have HY := Lib.hid hY
  have HJ := Lib.hid hJ
  have HJX := Lib.hid hJx
  have HRD := Lib.hid hRd
  have H0 := Lib.hid h0
  have HOK := Lib.hid hok
  have HL := Lib.hid hl
  have HCO := Lib.hid hcome
  have hmany := hok.many.1
  clear hY hJ hJx h0 hRd hok hl hcome hW R0 D0
  gi_wp2
  clear x1 x6
  gi_loopw [5, 11] (fun _ v11 wr => ∃ (k : Nat) (X : Nat → Prop), k ≤ S.files.length ∧ v11 = .int .i64 (k : Int) ∧ J X (opened S k) wr) (fun _ v11 _ => S.files.length - (intOf v11).toNat)
  case atStart => exact ⟨0, _, Nat.zero_le _, rfl, H0.out⟩
  case round =>
    obtain ⟨k, X, hk, rfl, hj⟩ := hrel
    have HJ0 := Lib.hid hj
    clear hj
    by_cases hlt : k < S.files.length
    · have hR := HRD.out _ _ _ HJ0.out
      obtain ⟨ρ, V, hd⟩ := hR.disk
      obtain ⟨g, cap, hform⟩ := owns_form hd.files (by show 0 < S.files.length; omega)
      injection hform with h1 h2 h3
      clear h2 h3
      subst h1
      have cf0 : wr.cell? ⟨g, k, none⟩ = some (ptrB S.files[k]) := (hd.files.cellAt k (by show k < S.files.length * 1; omega)).trans (by show (S.files.map ptrB)[k]? = _; simp [hlt])
      have hmem : S.files[k] ∈ S.files := List.getElem_mem hlt
      have hlook := fun q => set_look (wr.drewN q) (hR.set.of_block rfl) (fun y hy => cellB_row ((hd.below (below_drewN (Below.refl _ wr) q)).file y (HL.out y hy))) (cellB_row ((hd.below (below_drewN (Below.refl _ wr) q)).file _ hmem))
      have hnp := opened_out S HOK.out.nodup k hlt
      have hfb : (cutS S (opened S k) fs).fb S.files[k] = S.fb S.files[k] := truncL_other _ _ _ _ _ hnp
      have hfr := hd.file _ hmem
      have hby := hd.bytes _ hmem
      rw [hfb] at hby
      obtain ⟨a2, c2, hv2⟩ := owns_slice hby
      rw [hv2] at hfr
      have f0 : wr.cell? ⟨S.files[k], 0, none⟩ = some (.slice a2 (S.fb S.files[k]).length c2) := hfr.cell (i := 0) (by omega)
      have f1 : wr.cell? ⟨S.files[k], 1, none⟩ = some (.int .i64 (S.fl S.files[k] : Int)) := hfr.cell (i := 1) (by omega)
      have x1 := hR.x1
      have x2 := hR.x2
      have hsn := opened_snoc S k hlt
      have hcm := HCO.out _ hmem
      have hob : openB S S.files[k] = (comeB S S.files[k] && decide (S.fl S.files[k] < (S.fb S.files[k]).length)) := rfl
      generalize S.files[k] = f at *
      have HNP := Lib.hid hnp
      have HSN := Lib.hid hsn
      have HMEM := Lib.hid hmem
      clear hR hd hmem hnp hfb hfr hby hv2 hsn
      by_cases hin : f ∈ l
      · have hb1 : decide (f ∈ l) = true := by simp [hin]
        rw [hcm.1 hin, Bool.true_and] at hob
        by_cases hlen : S.fl f < (S.fb f).length
        · have hb2 : decide ((S.fl f : Int) < ((S.fb f).length : Int)) = true := by simp; omega
          have hb3 : decide (S.fl f < (S.fb f).length) = true := by simpa using hlen
          have hob2 : openB S f = true := by rw [hob]; simpa using hlen
          rw [if_pos hob2] at HSN
          have hJ2 : J X (opened S k) wr.drew := HJ.out.step HJ0.out (StepX.of_below ((Below.refl _ wr).drew))
          obtain ⟨fn, tmps, assign, body, hy, hR⟩ := HY.out X (opened S k) f wr.drew hJ2 ⟨HMEM.out, HNP.out, hob2⟩
          have HYR := Lib.hid hR
          have hlook0 : (Instr.lookup 77 (.map (some bm)) (ptrB f) false).run Try.prog wr.drew = .ok (.bool (decide (f ∈ l))) wr.drew := hlook 1
          clear hR hJ2 hin hcm hob hob2 hlen hlook
          gi_wp2
          gi_region_with (refine HYR.out.mono ?_; rintro e0 W3 ⟨hkx, hkk, hor⟩; obtain ⟨b, rfl, hb⟩ := bool_ways hor; have HBW := Lib.hid hb; clear hkx hkk hor hb)
          all_goals
            clear hy x1 x2 f0 f1 cf0 hb1 hb2 hb3 HYR hlook0
            rcases HBW.out with ⟨rfl, hJ3⟩ | ⟨rfl, hJ3⟩
            · have HJ3 := Lib.hid hJ3
              clear hJ3 HBW
              gi_wp2
              go_roundw
              case rel => exact ⟨k + 1, X, by omega, by go_num, by rw [HSN.out]; exact HJ3.out⟩
              case measure => simp [intOf]; omega
            · have HJ3 := Lib.hid hJ3
              clear hJ3 HBW
              gi_wp2
              refine bodyPost_ret (results_none rfl _ _ _) rfl ?_
              exact ⟨⟨_, rfl⟩, .inr ⟨_, _, trivial, HJ3.out⟩⟩
        · have hb2 : decide ((S.fl f : Int) < ((S.fb f).length : Int)) = false := by simp; omega
          have hb3 : decide (S.fl f < (S.fb f).length) = false := by simpa using hlen
          have hob2 : openB S f = false := by rw [hob]; simpa using hlen
          rw [if_neg (by rw [hob2]; simp)] at HSN
          clear hin hcm hob hob2 hlen
          gi_wp2
          gi_quiet (fail)
          gi_wp2
          go_roundw
          case rel => exact ⟨k + 1, X, by omega, by go_num, by rw [HSN.out]; exact HJ.out.step HJ0.out (StepX.of_below (below_drewN (Below.refl _ _) _))⟩
          case measure => simp [intOf]; omega
      · have hb1 : decide (f ∈ l) = false := by simp [hin]
        have hob2 : openB S f = false := by
          rw [hob]
          cases hq : comeB S f with
          | false => rfl
          | true => exact absurd (hcm.2 hq) hin
        rw [if_neg (by rw [hob2]; simp)] at HSN
        clear hin hcm hob hob2
        gi_wp2
        gi_quiet (fail)
        gi_wp2
        go_roundw
        case rel => exact ⟨k + 1, X, by omega, by go_num, by rw [HSN.out]; exact HJ.out.step HJ0.out (StepX.of_below (below_drewN (Below.refl _ _) _))⟩
        case measure => simp [intOf]; omega
    · obtain rfl : k = S.files.length := by omega
      have hd : decide ((S.files.length : Int) < (S.files.length : Int)) = false := by simp
      gi_wp2
      go_end0
      exact ⟨⟨_, rfl⟩, .inl ⟨_, _, rfl, HJ0.out⟩⟩
end Go.Proofs.Ytelndbjjkhlacaa
