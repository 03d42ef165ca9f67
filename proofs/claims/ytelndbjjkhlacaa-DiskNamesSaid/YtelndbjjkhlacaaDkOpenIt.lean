/-
  open: the files that may still be come to, put into a set.
  open's iterator: the files that may still be come to, and whose bytes do not all last, one by one.
-/
import Derived.Test.YtelndbjjkhlacaaDkVisit
import Derived.Test.YtelndbjjkhlacaaSeqR
namespace Go.Proofs.Ytelndbjjkhlacaa
open Go.RowKit Go.Maps Go.WideMaps

def openW (w : World) (bd : Nat) : World := ((w.alloc (.cells #[.pointer (some ⟨bd, 0, none⟩)] 22)).alloc (.map #[] 0)).alloc (.cells #[.map (some (w.heap.size + 1))] 77)
structure Come (W1 : World) (bm : Nat) (F : List Nat) (P : Nat → Prop) (wr : World) (l : List Nat) : Prop where
  set : PSet wr bm l
  sub : ∀ y ∈ l, y ∈ F
  iff : ∀ f ∈ F, f ∈ l ↔ P f
  gb : W1.grownBy wr (some bm)
theorem Come.congr {W1 : World} {bm : Nat} {F : List Nat} {P Q : Nat → Prop} {wr : World} {l : List Nat} (h : Come W1 bm F P wr l) (k : ∀ f ∈ F, P f ↔ Q f) : Come W1 bm F Q wr l :=
  ⟨h.set, h.sub, fun f hf => (h.iff f hf).trans (k f hf), h.gb⟩
theorem Come.other {W1 : World} {bm : Nat} {F : List Nat} {P : Nat → Prop} {wr wx : World} {l : List Nat} (h : Come W1 bm F P wr l) {k : Nat} (g : wr.grownBy wx (some k)) (hk : W1.heap.size ≤ k) (hb : bm < W1.heap.size) : Come W1 bm F P wx l :=
  ⟨h.set.of_block (g.block bm h.set.lt (fun e => by cases e; omega)), h.sub, h.iff, gb_new h.gb g hk⟩
theorem Come.none {W1 : World} {bm : Nat} {F : List Nat} {P : Nat → Prop} {wr wx : World} {l : List Nat} (h : Come W1 bm F P wr l) (g : wr.grownBy wx none) : Come W1 bm F P wx l :=
  ⟨h.set.of_block (g.block bm h.set.lt (by simp)), h.sub, h.iff, gb_none h.gb g⟩
theorem Come.put {W1 : World} {bm : Nat} {F : List Nat} {P : Nat → Prop} {wr : World} {l : List Nat} (h : Come W1 bm F P wr l) (hF : ∀ f ∈ F, CellB W1 f) (hne : ∀ f ∈ F, f ≠ bm) {x : Nat} (hx : x ∈ F) :
    ∃ w', (Instr.mapUpdate 77 (.map (some bm)) (ptrB x) (.bool true)).run Try.prog wr = .ok () w' ∧ Come W1 bm F (fun f => P f ∨ f = x) w' (if x ∈ l then l else l ++ [x]) ∧ wr.grownBy w' (some bm) := by
  have hc : ∀ f ∈ F, CellB wr f := fun f hf => cellB_gb (hF f hf) h.gb (fun e => hne f hf (by cases e; rfl))
  obtain ⟨w', h1, h2, h3⟩ := set_put wr h.set (fun y hy => hc y (h.sub y hy)) (hc x hx)
  refine ⟨w', h1, ⟨h2, ?_, fun f hf => mem_more.trans (or_congr (h.iff f hf) Iff.rfl), gb_trans h.gb h3⟩, h3⟩
  intro y hy
  rcases mem_more.1 hy with hy | rfl
  · exact h.sub y hy
  · exact hx
def Pk (S : DSt) (k : Nat) (f : Nat) : Prop := (0 < k ∧ inD S.names f = true) ∨ (1 < k ∧ inD S.last f = true)
theorem pk0 (S : DSt) (f : Nat) : Pk S 0 f ↔ False := by simp [Pk]
theorem owns_form {w : World} {B : Nat} {e : TypeId} {size : Nat} {v : Value} {n : Nat} {xs : List Value} (h : w.ownsRow B e size v n xs) (hn : 0 < n) : ∃ g c, v = .slice (some ⟨g, 0, none⟩) n c := by
  rcases h.2 with ⟨h0, h1⟩ | ⟨g, cap, cur, rfl, _⟩
  · omega
  · exact ⟨_, _, rfl⟩
theorem pk_a (S : DSt) (f : Nat) : (Pk S 0 f ∨ inD S.names f = true) ↔ Pk S 1 f := by simp [Pk]
theorem pk_b (S : DSt) (f : Nat) : (Pk S 1 f ∨ inD S.last f = true) ↔ Pk S 2 f := by simp [Pk]
set_option maxRecDepth 100000 in
set_option maxHeartbeats 2000000 in
theorem open_any (B : Nat) (w : World) (bd : Nat) (S : DSt) (ρ : Nat → Role) (vf vt : Value) (bn bl : Nat) (V : Nat → Value) (hd : DiskIn B w bd ρ S vf vt bn bl V) (hok : DOk S) :
    Calls Try.prog 42 #[.pointer (some ⟨bd, 0, none⟩)] w fun e w' => e = .returned (.func (.func 55) #[] #[.pointer (some ⟨w.heap.size, 0, none⟩), .pointer (some ⟨w.heap.size + 1 + 1, 0, none⟩)]) ∧
      ∃ l, Come (openW w bd) (w.heap.size + 1) S.files (fun f => comeB S f = true) w' l := by
  have hbd := hd.lt
  have hbw : Below w.heap.size w (openW w bd) := (((Below.refl _ w).alloc (Nat.le_refl _) _).alloc (by simp) _).alloc (by simp; omega) _
  have hsz : (openW w bd).heap.size = w.heap.size + 3 := by unfold openW; simp
  have B0 := Boxed.new w 22 (.pointer (some ⟨bd, 0, none⟩))
  have b0 : (openW w bd).cell? ⟨w.heap.size, 0, none⟩ = some (.pointer (some ⟨bd, 0, none⟩)) := ((B0.alloc (.map #[] 0)).alloc (.cells #[.map (some (w.heap.size + 1))] 77)).cell
  have B2 := (Boxed.new ((w.alloc (.cells #[.pointer (some ⟨bd, 0, none⟩)] 22)).alloc (.map #[] 0)) 77 (.map (some (w.heap.size + 1)))).cell
  simp only [World.size_alloc] at B2
  have b2 : (openW w bd).cell? ⟨w.heap.size + 1 + 1, 0, none⟩ = some (.map (some (w.heap.size + 1))) := B2
  have hcm : Come (openW w bd) (w.heap.size + 1) S.files (fun _ => False) (openW w bd) [] := by
    refine ⟨?_, by simp, by simp, gb_refl _ _⟩
    have h1 : PSet ((w.alloc (.cells #[.pointer (some ⟨bd, 0, none⟩)] 22)).alloc (.map #[] 0)) (w.heap.size + 1) [] := by
      have := PSet.made (w.alloc (.cells #[.pointer (some ⟨bd, 0, none⟩)] 22))
      rwa [World.size_alloc] at this
    exact h1.of_block (Below.heap_alloc _ _ _ (by simp))
  have HBN := Lib.hid hd.names.lt
  have HTG := Lib.hid (fun g hg => (hd.turns.lt g hg).2)
  have HBL := Lib.hid hd.last.lt
  have hN : Hid (∀ f ∈ S.files, f ≠ w.heap.size + 1) := fun f hf e => by have := hd.file_lt hf; omega
  have HD0 := hd.below hbw
  obtain ⟨W1, hW1⟩ : ∃ W1, W1 = openW w bd := ⟨_, rfl⟩
  rw [← hW1] at b0 b2 hcm hsz HD0 ⊢
  unfold openW at hW1
  have hF : Hid (∀ f ∈ S.files, CellB W1 f) := fun f hf => cellB_row (HD0.file f hf)
  have c7 : W1.cell? ⟨bd, 7, none⟩ = some (.map (some bn)) := HD0.head.cell (i := 7) (by omega)
  have c8 : W1.cell? ⟨bd, 8, none⟩ = some (.map (some bl)) := HD0.head.cell (i := 8) (by omega)
  have c9 : W1.cell? ⟨bd, 9, none⟩ = some vt := HD0.head.cell (i := 9) (by omega)
  have HD := Lib.hid HD0
  have HOK := Lib.hid hok
  have HC := Lib.hid hcm
  have HW1 := Lib.hid hW1
  have HSZ := Lib.hid hsz
  have hmm := @run_makeMap Try.prog
  clear hd HD0 hok hcm B0 B2 hbw hW1 hsz
  go_enter Try.func42, Try.ntmps42
  go_upto_region 2 with fail
  rw [← HW1.out]
  clear hmm HW1
  go_quiet (fail)
  have HB0 := Lib.hid b0
  have HB2 := Lib.hid b2
  have HC9 := Lib.hid c9
  clear c7 c8 b0 b2 c9
  generalize hW2 : W1.drewN nq = W2
  have HC2 : Hid (Come W1 (w.heap.size + 1) S.files (Pk S 0) W2 []) := by
    refine (HC.out.none (wx := W2) ?_).congr (fun f hf => (pk0 S f).symm)
    rw [← hW2]; exact ⟨rfl, rfl, rfl, Nat.le_refl _, fun _ _ _ => rfl⟩
  have hbn : bn < w.heap.size := HBN.out
  have hbl : bl < w.heap.size := HBL.out
  clear hW2 HC
  go_wp2_with fail
  go_loopw [5, 7, 20] (fun _ _ v20 wr => ∃ k l, ((k = 0 ∧ v20 = .int .i64 0) ∨ (k = 1 ∧ v20 = .int .i64 1) ∨ (k = 2 ∧ v20 = .int .i64 2)) ∧ Come W1 (w.heap.size + 1) S.files (Pk S k) wr l) (fun _ _ v20 _ => 2 - (intOf v20).toNat)
  case atStart => exact ⟨0, [], .inl ⟨rfl, rfl⟩, HC2.out⟩
  case round =>
    obtain ⟨k, l0, hk, hcom⟩ := hrel
    have HCM := Lib.hid hcom
    clear hcom HC2
    rcases hk with ⟨rfl, rfl⟩ | ⟨rfl, rfl⟩ | ⟨rfl, rfl⟩
    ·
      have hr0 := HCM.out.gb.size
      have hsz := HSZ.out
      have hnr : NmAt wr bn S.names := HD.out.names.of_block (HCM.out.gb.block _ (by rw [hsz]; omega) (fun e => by cases e; omega))
      have HN := Lib.hid hnr
      have hix : (Instr.index 86 (.agg #[.map (some bn), .map (some bl)]) (.int .i64 0)).run Try.prog wr = .ok (.map (some bn)) wr := by kernel_rfl
      go_wp2_with (first | (at_range; refine wpList_range_own _ rfl _ 56 rfl 9 62 law_str Try.underlying56 fileR bn (size S.names) S.names rfl HN.out ?_; intro w0 hrg0 hg0 hs0) | fail)
      go_frame
      clear hix
      have HRG := Lib.hid hrg0
      have HC0 := Lib.hid ((HCM.out.none hg0).congr (Q := fun f => Pk S 0 f ∨ visited S.names (has S.names) f) (fun f hf => ⟨.inl, fun h => h.resolve_right (visited_start _ _)⟩))
      clear hrg0 hg0 hs0 hnr
      generalize hrz : wr.heap.size = rz at *
      have HRZ : Hid (W1.heap.size ≤ rz) := hr0
      clear hr0 hrz HCM
      go_loopw [7] (fun _ wr => ∃ left cnt l, wr.ranges Try.prog 9 fileR bn rz (size S.names) S.names left cnt ∧ Come W1 (w.heap.size + 1) S.files (fun f => Pk S 0 f ∨ visited S.names left f) wr l) (fun _ wr => wr.rangeLeft bn rz)
      case atStart => exact ⟨_, _, _, HRG.out, HC0.out⟩
      case round =>
        obtain ⟨left, cnt, l, hrg, hcom⟩ := hrel
        have HCM := Lib.hid hcom
        clear hcom HC0 HRG
        go_wp2_with (first | (at_next; refine wpList_next_ranges _ rfl _ rfl 9 law_str fileR Value.string pF inv_key inv_val bn rz (size S.names) S.names left cnt rfl hrg ?_ ?_) | fail)
        · intro _ hl0
          have HC3 := Lib.hid ((HCM.out.congr (Q := Pk S (0 + 1)) (fun f hf => (or_congr Iff.rfl (visited_end HN.out.canon (HOK.out.names.leads) left hl0 f)).trans (pk_a S f))))
          clear hrg hl0 HCM
          go_wp2
          go_roundw
          case rel => exact ⟨0 + 1, l, (.inr (.inl ⟨rfl, by go_num⟩)), HC3.out⟩
          case measure => simp [intOf]
        · intro x c kl y ps w1 cnt1 hkx hlx hy hat hrg1 hlt hg1 hs1 hen
          obtain ⟨f, hf, ha⟩ := HOK.out.names kl (has_true_of_atKey hat)
          have hye : y = enc f := by rw [← hat .nil, ha]
          have hc : c = some f := by rw [← fileR_pF c (y, ps) hy]; show decF y = some f; rw [hye, decF_enc]
          subst hc
          have hsz := HSZ.out
          have hcm1 := HCM.out.other hg1 HRZ.out (by rw [hsz]; omega)
          obtain ⟨w2, hput, hcm2, hg2⟩ := hcm1.put hF.out hN.out hf
          have HC3 := Lib.hid (hcm2.congr (Q := fun g => Pk S 0 g ∨ visited S.names (fun z => left z && !z.sameKey kl) g) (fun g hg => by rw [or_assoc]; exact or_congr Iff.rfl (visited_step HN.out.canon left kl ha hlx g).symm))
          have HR2 := Lib.hid (hrg1.kept hg2 (fun e => by cases e; omega) (fun e => by cases e; have := HRZ.out; omega))
          have HR0 := Lib.hid hrg
          have HLT := Lib.hid hlt
          have b2 : w1.cell? ⟨w.heap.size + 1 + 1, 0, none⟩ = some (.map (some (w.heap.size + 1))) := (World.cell?_of_block (a := ⟨w.heap.size + 1 + 1, 0, none⟩) (hcm1.gb.block _ (by rw [hsz]; show w.heap.size + 1 + 1 < _; omega) (fun e => by have := Option.some.inj e; simp at this))).trans HB2.out
          unfold pF at hen
          simp only at hen
          clear hrg hrg1 hlt hg1 hs1 hat ha hy hye hkx hlx hf hcm1 hcm2 hg2 hsz
          go_wp2_with fail
          go_roundw
          case rel => exact ⟨_, _, _, HR2.out, HC3.out⟩
          case measure => rw [HR2.out.left_eq, HR0.out.left_eq]; exact HLT.out
    ·
      have hr0 := HCM.out.gb.size
      have hsz := HSZ.out
      have hnr : NmAt wr bl S.last := HD.out.last.of_block (HCM.out.gb.block _ (by rw [hsz]; omega) (fun e => by cases e; omega))
      have HN := Lib.hid hnr
      have hix : (Instr.index 86 (.agg #[.map (some bn), .map (some bl)]) (.int .i64 1)).run Try.prog wr = .ok (.map (some bl)) wr := by kernel_rfl
      go_wp2_with (first | (at_range; refine wpList_range_own _ rfl _ 56 rfl 9 62 law_str Try.underlying56 fileR bl (size S.last) S.last rfl HN.out ?_; intro w0 hrg0 hg0 hs0) | fail)
      go_frame
      clear hix
      have HRG := Lib.hid hrg0
      have HC0 := Lib.hid ((HCM.out.none hg0).congr (Q := fun f => Pk S 1 f ∨ visited S.last (has S.last) f) (fun f hf => ⟨.inl, fun h => h.resolve_right (visited_start _ _)⟩))
      clear hrg0 hg0 hs0 hnr
      generalize hrz : wr.heap.size = rz at *
      have HRZ : Hid (W1.heap.size ≤ rz) := hr0
      clear hr0 hrz HCM
      go_loopw [7] (fun _ wr => ∃ left cnt l, wr.ranges Try.prog 9 fileR bl rz (size S.last) S.last left cnt ∧ Come W1 (w.heap.size + 1) S.files (fun f => Pk S 1 f ∨ visited S.last left f) wr l) (fun _ wr => wr.rangeLeft bl rz)
      case atStart => exact ⟨_, _, _, HRG.out, HC0.out⟩
      case round =>
        obtain ⟨left, cnt, l, hrg, hcom⟩ := hrel
        have HCM := Lib.hid hcom
        clear hcom HC0 HRG
        go_wp2_with (first | (at_next; refine wpList_next_ranges _ rfl _ rfl 9 law_str fileR Value.string pF inv_key inv_val bl rz (size S.last) S.last left cnt rfl hrg ?_ ?_) | fail)
        · intro _ hl0
          have HC3 := Lib.hid ((HCM.out.congr (Q := Pk S (1 + 1)) (fun f hf => (or_congr Iff.rfl (visited_end HN.out.canon (HOK.out.last.leads) left hl0 f)).trans (pk_b S f))))
          clear hrg hl0 HCM
          go_wp2
          go_roundw
          case rel => exact ⟨1 + 1, l, (.inr (.inr ⟨rfl, by go_num⟩)), HC3.out⟩
          case measure => simp [intOf]
        · intro x c kl y ps w1 cnt1 hkx hlx hy hat hrg1 hlt hg1 hs1 hen
          obtain ⟨f, hf, ha⟩ := HOK.out.last kl (has_true_of_atKey hat)
          have hye : y = enc f := by rw [← hat .nil, ha]
          have hc : c = some f := by rw [← fileR_pF c (y, ps) hy]; show decF y = some f; rw [hye, decF_enc]
          subst hc
          have hsz := HSZ.out
          have hcm1 := HCM.out.other hg1 HRZ.out (by rw [hsz]; omega)
          obtain ⟨w2, hput, hcm2, hg2⟩ := hcm1.put hF.out hN.out hf
          have HC3 := Lib.hid (hcm2.congr (Q := fun g => Pk S 1 g ∨ visited S.last (fun z => left z && !z.sameKey kl) g) (fun g hg => by rw [or_assoc]; exact or_congr Iff.rfl (visited_step HN.out.canon left kl ha hlx g).symm))
          have HR2 := Lib.hid (hrg1.kept hg2 (fun e => by cases e; omega) (fun e => by cases e; have := HRZ.out; omega))
          have HR0 := Lib.hid hrg
          have HLT := Lib.hid hlt
          have b2 : w1.cell? ⟨w.heap.size + 1 + 1, 0, none⟩ = some (.map (some (w.heap.size + 1))) := (World.cell?_of_block (a := ⟨w.heap.size + 1 + 1, 0, none⟩) (hcm1.gb.block _ (by rw [hsz]; show w.heap.size + 1 + 1 < _; omega) (fun e => by have := Option.some.inj e; simp at this))).trans HB2.out
          unfold pF at hen
          simp only at hen
          clear hrg hrg1 hlt hg1 hs1 hat ha hy hye hkx hlx hf hcm1 hcm2 hg2 hsz
          go_wp2_with fail
          go_roundw
          case rel => exact ⟨_, _, _, HR2.out, HC3.out⟩
          case measure => rw [HR2.out.left_eq, HR0.out.left_eq]; exact HLT.out
    ·
      have hsz := HSZ.out
      have b0 : wr.cell? ⟨w.heap.size, 0, none⟩ = some (.pointer (some ⟨bd, 0, none⟩)) := (World.cell?_of_block (a := ⟨w.heap.size, 0, none⟩) (HCM.out.gb.block _ (by rw [hsz]; show w.heap.size < _; omega) (fun e => by have := Option.some.inj e; simp at this))).trans HB0.out
      have c9 : wr.cell? ⟨bd, 9, none⟩ = some vt := (World.cell?_of_block (a := ⟨bd, 9, none⟩) (HCM.out.gb.block _ (by rw [hsz]; show bd < _; omega) (fun e => by have := Option.some.inj e; simp only at this; omega))).trans HC9.out
      obtain ⟨at', ct, hvt⟩ := owns_slice HD.out.turns
      subst hvt
      clear hsz
      go_wp2_with fail
      clear b0 c9
      have hlen := HOK.out.many.2
      go_loopw [9, 37] (fun _ v37 wr => ∃ k l, k ≤ S.turns.length ∧ v37 = .int .i64 ((k : Nat) : Int) ∧ Come W1 (w.heap.size + 1) S.files (fun f => Pk S 2 f ∨ ∃ t ∈ S.turns.take k, t.f = some f) wr l) (fun _ v37 _ => S.turns.length - (intOf v37).toNat)
      case atStart => exact ⟨0, _, by omega, rfl, HCM.out.congr (fun f hf => by simp)⟩
      case round =>
        obtain ⟨k, l, hk, rfl, hcom⟩ := hrel
        have HC3 := Lib.hid hcom
        clear hcom HCM
        by_cases hlt : k < S.turns.length
        · obtain ⟨g, cap, hform⟩ := owns_form HD.out.turns (by omega)
          injection hform with h1 h2 h3
          subst h1
          have hgl := HTG.out g rfl
          obtain ⟨t0, t1, t2, t3⟩ := turn_cells HD.out.turns k hlt
          have hgk : wr.heap[g]? = W1.heap[g]? := HC3.out.gb.block _ (by rw [HSZ.out]; omega) (fun e => by have := Option.some.inj e; omega)
          rw [← World.cell?_of_block (a := ⟨g, k * 4, none⟩) hgk] at t0
          rw [← World.cell?_of_block (a := ⟨g, k * 4 + 1, none⟩) hgk] at t1
          rw [← World.cell?_of_block (a := ⟨g, k * 4 + 2, none⟩) hgk] at t2
          rw [← World.cell?_of_block (a := ⟨g, k * 4 + 3, none⟩) hgk] at t3
          have hstep : ∀ f, (Pk S 2 f ∨ ∃ t ∈ S.turns.take (k + 1), t.f = some f) ↔ ((Pk S 2 f ∨ ∃ t ∈ S.turns.take k, t.f = some f) ∨ S.turns[k].f = some f) := fun f => by
            rw [List.take_succ_eq_append_getElem hlt, or_assoc]
            simp only [List.mem_append, List.mem_singleton]
            constructor
            · rintro (h | ⟨t, h | rfl, e⟩)
              · exact .inl h
              · exact .inr (.inl ⟨t, h, e⟩)
              · exact .inr (.inr e)
            · rintro (h | ⟨t, h, e⟩ | e)
              · exact .inl h
              · exact .inr ⟨t, .inl h, e⟩
              · exact .inr ⟨_, .inr rfl, e⟩
          have hmem := HOK.out.turns _ (List.getElem_mem hlt)
          have HST := Lib.hid hstep
          have HMEM := Lib.hid hmem
          clear hstep hmem hgk
          generalize S.turns[k] = t at *
          obtain ⟨tk, ta, tb, tf⟩ := t
          simp only at *
          have hca : Come W1 (w.heap.size + 1) S.files (fun f => Pk S 2 f ∨ ∃ t ∈ S.turns.take k, t.f = some f) (wr.alloc (.cells #[.int .i64 tk, .string ta, .string tb, pF tf] 66)) l := HC3.out.none (World.grownBy_alloc wr _ none)
          have HCA := Lib.hid hca
          have b2 : (wr.alloc (.cells #[.int .i64 tk, .string ta, .string tb, pF tf] 66)).cell? ⟨w.heap.size + 1 + 1, 0, none⟩ = some (.map (some (w.heap.size + 1))) := (World.cell?_of_block (a := ⟨w.heap.size + 1 + 1, 0, none⟩) (hca.gb.block _ (by rw [HSZ.out]; show w.heap.size + 1 + 1 < _; omega) (fun e => by have := Option.some.inj e; simp at this))).trans HB2.out
          cases tf with
          | none =>
            have HC4 := Lib.hid (hca.congr (fun f hf => ((HST.out f).trans (by simp)).symm))
            clear hca HC3 HCA b2
            unfold pF at *
            simp only at *
            go_wp2_with fail
            go_roundw
            case rel => exact ⟨k + 1, l, by omega, by go_num, HC4.out⟩
            case measure => simp [intOf]; omega
          | some f =>
            obtain ⟨w2, hput, hcm2, hg2⟩ := hca.put hF.out hN.out (HMEM.out f rfl)
            have HC4 := Lib.hid (hcm2.congr (fun g hg => ((HST.out g).trans (or_congr Iff.rfl ⟨fun e => (Option.some.inj e).symm, fun e => congrArg some e.symm⟩)).symm))
            clear hca HC3 HCA hcm2 hg2
            unfold pF at *
            simp only at *
            go_wp2_with fail
            go_roundw
            case rel => exact ⟨k + 1, _, by omega, by go_num, HC4.out⟩
            case measure => simp [intOf]; omega
        · obtain rfl : k = S.turns.length := by omega
          have HC4 := Lib.hid (HC3.out.congr (Q := fun f => comeB S f = true) (fun f hf => by
            rw [List.take_length]
            unfold Pk comeB
            simp [or_assoc]))
          clear HC3
          go_wp2
          go_ret
          exact ⟨rfl, l, HC4.out⟩
end Go.Proofs.Ytelndbjjkhlacaa
namespace Go.Proofs.Ytelndbjjkhlacaa
open Go.RowKit Go.Maps
attribute [local go_sem] Oper.semAt_some

def cutS (S : DSt) (pre : List Nat) (fs : List Int) : DSt := { S with fb := truncL S.fl pre fs S.fb }
def opened (S : DSt) (k : Nat) : List Nat := (S.files.take k).filter (openB S)
theorem opened_snoc (S : DSt) (k : Nat) (hk : k < S.files.length) : opened S (k + 1) = if openB S S.files[k] = true then opened S k ++ [S.files[k]] else opened S k := by
  unfold opened
  rw [List.take_succ_eq_append_getElem hk, List.filter_append]
  split
  · next h => rw [List.filter_cons_of_pos h]; rfl
  · next h => rw [List.filter_cons_of_neg h]; simp
theorem opened_out (S : DSt) (hn : S.files.Nodup) (k : Nat) (hk : k < S.files.length) : S.files[k] ∉ opened S k := fun h => by
  have h1 := (List.mem_filter.1 h).1
  obtain ⟨i, hi, e⟩ := List.getElem_of_mem h1
  rw [List.getElem_take] at e
  have hi2 : i < k := by rw [List.length_take] at hi; omega
  have := (List.getElem_inj (h₀ := by omega) (h₁ := hk) hn).1 e
  omega
structure RdC (B : Nat) (bd b1 b2 bm : Nat) (S : DSt) (fs : List Int) (vf vt : Value) (bn bl : Nat) (l : List Nat) (pre : List Nat) (W : World) : Prop where
  disk : ∃ ρ V, DiskIn B W bd ρ (cutS S pre fs) vf vt bn bl V
  x1 : W.cell? ⟨b1, 0, none⟩ = some (.pointer (some ⟨bd, 0, none⟩))
  x2 : W.cell? ⟨b2, 0, none⟩ = some (.map (some bm))
  set : PSet W bm l
def okC2 (S : DSt) (pre : List Nat) (f : Nat) (_ : World) : Prop := f ∈ S.files ∧ f ∉ pre ∧ openB S f = true
theorem bool_ways {e : Ending} {A C : Prop} (h : (e = .returned (.bool true) ∧ A) ∨ (e = .returned (.bool false) ∧ C)) : ∃ b : Bool, e = .returned (.bool b) ∧ ((b = true ∧ A) ∨ (b = false ∧ C)) := by
  rcases h with ⟨h1, h2⟩ | ⟨h1, h2⟩
  · exact ⟨true, h1, .inl ⟨rfl, h2⟩⟩
  · exact ⟨false, h1, .inr ⟨rfl, h2⟩⟩
set_option maxRecDepth 100000 in
set_option maxHeartbeats 2000000 in
theorem openIt_any (n : Nat) (hn : 1 ≤ n) (K : Nat → Prop) (B bd b1 b2 bm : Nat) (S : DSt) (hok : DOk S) (fs : List Int) (vf vt : Value) (bn bl : Nat) (l : List Nat) (hl : ∀ y ∈ l, y ∈ S.files) (hcome : ∀ f ∈ S.files, f ∈ l ↔ comeB S f = true) (w : World) :
    SeqR Fence.wide n Try.prog 55 #[.pointer (some ⟨b1, 0, none⟩), .pointer (some ⟨b2, 0, none⟩)] (fun f => #[ptrB f]) K (RdC B bd b1 b2 bm S fs vf vt bn bl l) (fun xs => xs = opened S S.files.length) (fun _ => True) (okC2 S) w := by
  intro ly J Jx W hW hJ hJx hRd hY h0
  have hwf : ∀ f, Fence.wide.fn f = True := fun _ => rfl
  have R0 := hRd _ _ _ h0
  obtain ⟨ρ0, V0, D0⟩ := R0.disk
  obtain ⟨af, cf, hvf⟩ := owns_slice D0.files
  subst hvf
  have x1 := R0.x1
  have x6 : W.cell? ⟨bd, 6, none⟩ = some (.slice af S.files.length cf) := D0.head.cell (i := 6) (by omega)
  refine callsIn_of_wp Try.func55 rfl trivial ?_ rfl
  simp only [Try.ntmps55, List.size_toArray, List.length_cons, List.length_nil, Nat.reduceAdd, Nat.reduceSub, Array.replicate_succ, Array.replicate_zero, List.push_toArray, List.append_toArray, List.nil_append, List.cons_append]
  have HY := Lib.hid hY
  have HJ := Lib.hid hJ
  have HJX := Lib.hid hJx
  have HRD := Lib.hid hRd
  have H0 := Lib.hid h0
  have HOK := Lib.hid hok
  have HL := Lib.hid hl
  have HCO := Lib.hid hcome
  have hmany := hok.many.1
  clear hY hJ hJx h0 hRd hok hl hcome hW R0 D0
  gi_wp2
  clear x1 x6
  gi_loopw [5, 11] (fun _ v11 wr => ∃ (k : Nat) (X : Nat → Prop), k ≤ S.files.length ∧ v11 = .int .i64 (k : Int) ∧ J X (opened S k) wr) (fun _ v11 _ => S.files.length - (intOf v11).toNat)
  case atStart => exact ⟨0, _, Nat.zero_le _, rfl, H0.out⟩
  case round =>
    obtain ⟨k, X, hk, rfl, hj⟩ := hrel
    have HJ0 := Lib.hid hj
    clear hj
    by_cases hlt : k < S.files.length
    · have hR := HRD.out _ _ _ HJ0.out
      obtain ⟨ρ, V, hd⟩ := hR.disk
      obtain ⟨g, cap, hform⟩ := owns_form hd.files (by show 0 < S.files.length; omega)
      injection hform with h1 h2 h3
      clear h2 h3
      subst h1
      have cf0 : wr.cell? ⟨g, k, none⟩ = some (ptrB S.files[k]) := (hd.files.cellAt k (by show k < S.files.length * 1; omega)).trans (by show (S.files.map ptrB)[k]? = _; simp [hlt])
      have hmem : S.files[k] ∈ S.files := List.getElem_mem hlt
      have hlook := fun q => set_look (wr.drewN q) (hR.set.of_block rfl) (fun y hy => cellB_row ((hd.below (below_drewN (Below.refl _ wr) q)).file y (HL.out y hy))) (cellB_row ((hd.below (below_drewN (Below.refl _ wr) q)).file _ hmem))
      have hnp := opened_out S HOK.out.nodup k hlt
      have hfb : (cutS S (opened S k) fs).fb S.files[k] = S.fb S.files[k] := truncL_other _ _ _ _ _ hnp
      have hfr := hd.file _ hmem
      have hby := hd.bytes _ hmem
      rw [hfb] at hby
      obtain ⟨a2, c2, hv2⟩ := owns_slice hby
      rw [hv2] at hfr
      have f0 : wr.cell? ⟨S.files[k], 0, none⟩ = some (.slice a2 (S.fb S.files[k]).length c2) := hfr.cell (i := 0) (by omega)
      have f1 : wr.cell? ⟨S.files[k], 1, none⟩ = some (.int .i64 (S.fl S.files[k] : Int)) := hfr.cell (i := 1) (by omega)
      have x1 := hR.x1
      have x2 := hR.x2
      have hsn := opened_snoc S k hlt
      have hcm := HCO.out _ hmem
      have hob : openB S S.files[k] = (comeB S S.files[k] && decide (S.fl S.files[k] < (S.fb S.files[k]).length)) := rfl
      generalize S.files[k] = f at *
      have HNP := Lib.hid hnp
      have HSN := Lib.hid hsn
      have HMEM := Lib.hid hmem
      clear hR hd hmem hnp hfb hfr hby hv2 hsn
      by_cases hin : f ∈ l
      · have hb1 : decide (f ∈ l) = true := by simp [hin]
        rw [hcm.1 hin, Bool.true_and] at hob
        by_cases hlen : S.fl f < (S.fb f).length
        · have hb2 : decide ((S.fl f : Int) < ((S.fb f).length : Int)) = true := by simp; omega
          have hb3 : decide (S.fl f < (S.fb f).length) = true := by simpa using hlen
          have hob2 : openB S f = true := by rw [hob]; simpa using hlen
          rw [if_pos hob2] at HSN
          have hJ2 : J X (opened S k) wr.drew := HJ.out.step HJ0.out (StepX.of_below ((Below.refl _ wr).drew))
          obtain ⟨fn, tmps, assign, body, hy, hR⟩ := HY.out X (opened S k) f wr.drew hJ2 ⟨HMEM.out, HNP.out, hob2⟩
          have HYR := Lib.hid hR
          have hlook0 : (Instr.lookup 77 (.map (some bm)) (ptrB f) false).run Try.prog wr.drew = .ok (.bool (decide (f ∈ l))) wr.drew := hlook 1
          clear hR hJ2 hin hcm hob hob2 hlen hlook
          gi_wp2
          gi_region_with (refine HYR.out.mono ?_; rintro e0 W3 ⟨hkx, hkk, hor⟩; obtain ⟨b, rfl, hb⟩ := bool_ways hor; have HBW := Lib.hid hb; clear hkx hkk hor hb)
          all_goals
            clear hy x1 x2 f0 f1 cf0 hb1 hb2 hb3 HYR hlook0
            rcases HBW.out with ⟨rfl, hJ3⟩ | ⟨rfl, hJ3⟩
            · have HJ3 := Lib.hid hJ3
              clear hJ3 HBW
              gi_wp2
              go_roundw
              case rel => exact ⟨k + 1, X, by omega, by go_num, by rw [HSN.out]; exact HJ3.out⟩
              case measure => simp [intOf]; omega
            · have HJ3 := Lib.hid hJ3
              clear hJ3 HBW
              gi_wp2
              refine bodyPost_ret (results_none rfl _ _ _) rfl ?_
              exact ⟨⟨_, rfl⟩, .inr ⟨_, _, trivial, HJ3.out⟩⟩
        · have hb2 : decide ((S.fl f : Int) < ((S.fb f).length : Int)) = false := by simp; omega
          have hb3 : decide (S.fl f < (S.fb f).length) = false := by simpa using hlen
          have hob2 : openB S f = false := by rw [hob]; simpa using hlen
          rw [if_neg (by rw [hob2]; simp)] at HSN
          clear hin hcm hob hob2 hlen
          gi_wp2
          gi_quiet (fail)
          gi_wp2
          go_roundw
          case rel => exact ⟨k + 1, X, by omega, by go_num, by rw [HSN.out]; exact HJ.out.step HJ0.out (StepX.of_below (below_drewN (Below.refl _ _) _))⟩
          case measure => simp [intOf]; omega
      · have hb1 : decide (f ∈ l) = false := by simp [hin]
        have hob2 : openB S f = false := by
          rw [hob]
          cases hq : comeB S f with
          | false => rfl
          | true => exact absurd (hcm.2 hq) hin
        rw [if_neg (by rw [hob2]; simp)] at HSN
        clear hin hcm hob hob2
        gi_wp2
        gi_quiet (fail)
        gi_wp2
        go_roundw
        case rel => exact ⟨k + 1, X, by omega, by go_num, by rw [HSN.out]; exact HJ.out.step HJ0.out (StepX.of_below (below_drewN (Below.refl _ _) _))⟩
        case measure => simp [intOf]; omega
    · obtain rfl : k = S.files.length := by omega
      have hd : decide ((S.files.length : Int) < (S.files.length : Int)) = false := by simp
      gi_wp2
      go_end0
      exact ⟨⟨_, rfl⟩, .inl ⟨_, _, rfl, HJ0.out⟩⟩
end Go.Proofs.Ytelndbjjkhlacaa
