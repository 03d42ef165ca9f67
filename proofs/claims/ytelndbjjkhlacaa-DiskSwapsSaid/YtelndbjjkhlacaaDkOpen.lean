/-
  open: the files that may still be come to, put into a set.
-/
import Derived.Test.YtelndbjjkhlacaaDkVisit
namespace Go.Proofs.Ytelndbjjkhlacaa
open Go.RowKit Go.Maps Go.WideMaps

def openW (w : World) (bd : Nat) : World := ((w.alloc (.cells #[.pointer (some ⟨bd, 0, none⟩)] 22)).alloc (.map #[] 0)).alloc (.cells #[.map (some (w.heap.size + 1))] 77)
structure Come (W1 : World) (bm : Nat) (F : List Nat) (P : Nat → Prop) (wr : World) (l : List Nat) : Prop where
  set : PSet wr bm l
  sub : ∀ y ∈ l, y ∈ F
  iff : ∀ f ∈ F, f ∈ l ↔ P f
  gb : W1.grownBy wr (some bm)
theorem Come.congr {W1 : World} {bm : Nat} {F : List Nat} {P Q : Nat → Prop} {wr : World} {l : List Nat} (h : Come W1 bm F P wr l) (k : ∀ f ∈ F, P f ↔ Q f) : Come W1 bm F Q wr l :=
  ⟨h.set, h.sub, fun f hf => (h.iff f hf).trans (k f hf), h.gb⟩
theorem Come.other {W1 : World} {bm : Nat} {F : List Nat} {P : Nat → Prop} {wr wx : World} {l : List Nat} (h : Come W1 bm F P wr l) {k : Nat} (g : wr.grownBy wx (some k)) (hk : W1.heap.size ≤ k) (hb : bm < W1.heap.size) : Come W1 bm F P wx l :=
  ⟨h.set.of_block (g.block bm h.set.lt (fun e => by cases e; omega)), h.sub, h.iff, gb_new h.gb g hk⟩
theorem Come.none {W1 : World} {bm : Nat} {F : List Nat} {P : Nat → Prop} {wr wx : World} {l : List Nat} (h : Come W1 bm F P wr l) (g : wr.grownBy wx none) : Come W1 bm F P wx l :=
  ⟨h.set.of_block (g.block bm h.set.lt (by simp)), h.sub, h.iff, gb_none h.gb g⟩
theorem Come.put {W1 : World} {bm : Nat} {F : List Nat} {P : Nat → Prop} {wr : World} {l : List Nat} (h : Come W1 bm F P wr l) (hF : ∀ f ∈ F, CellB W1 f) (hne : ∀ f ∈ F, f ≠ bm) {x : Nat} (hx : x ∈ F) :
    ∃ w', (Instr.mapUpdate 77 (.map (some bm)) (ptrB x) (.bool true)).run Try.prog wr = .ok () w' ∧ Come W1 bm F (fun f => P f ∨ f = x) w' (if x ∈ l then l else l ++ [x]) ∧ wr.grownBy w' (some bm) := by
  have hc : ∀ f ∈ F, CellB wr f := fun f hf => cellB_gb (hF f hf) h.gb (fun e => hne f hf (by cases e; rfl))
  obtain ⟨w', h1, h2, h3⟩ := set_put wr h.set (fun y hy => hc y (h.sub y hy)) (hc x hx)
  refine ⟨w', h1, ⟨h2, ?_, fun f hf => mem_more.trans (or_congr (h.iff f hf) Iff.rfl), gb_trans h.gb h3⟩, h3⟩
  intro y hy
  rcases mem_more.1 hy with hy | rfl
  · exact h.sub y hy
  · exact hx
def Pk (S : DSt) (k : Nat) (f : Nat) : Prop := (0 < k ∧ inD S.names f = true) ∨ (1 < k ∧ inD S.last f = true)
theorem pk0 (S : DSt) (f : Nat) : Pk S 0 f ↔ False := by simp [Pk]
theorem owns_form {w : World} {B : Nat} {e : TypeId} {size : Nat} {v : Value} {n : Nat} {xs : List Value} (h : w.ownsRow B e size v n xs) (hn : 0 < n) : ∃ g c, v = .slice (some ⟨g, 0, none⟩) n c := by
  rcases h.2 with ⟨h0, h1⟩ | ⟨g, cap, cur, rfl, _⟩
  · omega
  · exact ⟨_, _, rfl⟩
theorem pk_a (S : DSt) (f : Nat) : (Pk S 0 f ∨ inD S.names f = true) ↔ Pk S 1 f := by simp [Pk]
theorem pk_b (S : DSt) (f : Nat) : (Pk S 1 f ∨ inD S.last f = true) ↔ Pk S 2 f := by simp [Pk]
set_option maxRecDepth 100000 in
set_option maxHeartbeats 2000000 in
theorem open_any (B : Nat) (w : World) (bd : Nat) (S : DSt) (ρ : Nat → Role) (vf vt : Value) (bn bl : Nat) (V : Nat → Value) (hd : DiskIn B w bd ρ S vf vt bn bl V) (hok : DOk S) :
    Calls Try.prog 42 #[.pointer (some ⟨bd, 0, none⟩)] w fun e w' => e = .returned (.func (.func 55) #[] #[.pointer (some ⟨w.heap.size, 0, none⟩), .pointer (some ⟨w.heap.size + 1 + 1, 0, none⟩)]) ∧
      ∃ l, Come (openW w bd) (w.heap.size + 1) S.files (fun f => comeB S f = true) w' l := by
  have hbd := hd.lt
  have hbw : Below w.heap.size w (openW w bd) := (((Below.refl _ w).alloc (Nat.le_refl _) _).alloc (by simp) _).alloc (by simp; omega) _
  have hsz : (openW w bd).heap.size = w.heap.size + 3 := by unfold openW; simp
  have B0 := Boxed.new w 22 (.pointer (some ⟨bd, 0, none⟩))
  have b0 : (openW w bd).cell? ⟨w.heap.size, 0, none⟩ = some (.pointer (some ⟨bd, 0, none⟩)) := ((B0.alloc (.map #[] 0)).alloc (.cells #[.map (some (w.heap.size + 1))] 77)).cell
  have B2 := (Boxed.new ((w.alloc (.cells #[.pointer (some ⟨bd, 0, none⟩)] 22)).alloc (.map #[] 0)) 77 (.map (some (w.heap.size + 1)))).cell
  simp only [World.size_alloc] at B2
  have b2 : (openW w bd).cell? ⟨w.heap.size + 1 + 1, 0, none⟩ = some (.map (some (w.heap.size + 1))) := B2
  have hcm : Come (openW w bd) (w.heap.size + 1) S.files (fun _ => False) (openW w bd) [] := by
    refine ⟨?_, by simp, by simp, gb_refl _ _⟩
    have h1 : PSet ((w.alloc (.cells #[.pointer (some ⟨bd, 0, none⟩)] 22)).alloc (.map #[] 0)) (w.heap.size + 1) [] := by
      have := PSet.made (w.alloc (.cells #[.pointer (some ⟨bd, 0, none⟩)] 22))
      rwa [World.size_alloc] at this
    exact h1.of_block (Below.heap_alloc _ _ _ (by simp))
  have HBN := Lib.hid hd.names.lt
  have HTG := Lib.hid (fun g hg => (hd.turns.lt g hg).2)
  have HBL := Lib.hid hd.last.lt
  have hN : Hid (∀ f ∈ S.files, f ≠ w.heap.size + 1) := fun f hf e => by have := hd.file_lt hf; omega
  have HD0 := hd.below hbw
  obtain ⟨W1, hW1⟩ : ∃ W1, W1 = openW w bd := ⟨_, rfl⟩
  rw [← hW1] at b0 b2 hcm hsz HD0 ⊢
  unfold openW at hW1
  have hF : Hid (∀ f ∈ S.files, CellB W1 f) := fun f hf => cellB_row (HD0.file f hf)
  have c7 : W1.cell? ⟨bd, 7, none⟩ = some (.map (some bn)) := HD0.head.cell (i := 7) (by omega)
  have c8 : W1.cell? ⟨bd, 8, none⟩ = some (.map (some bl)) := HD0.head.cell (i := 8) (by omega)
  have c9 : W1.cell? ⟨bd, 9, none⟩ = some vt := HD0.head.cell (i := 9) (by omega)
  have HD := Lib.hid HD0
  have HOK := Lib.hid hok
  have HC := Lib.hid hcm
  have HW1 := Lib.hid hW1
  have HSZ := Lib.hid hsz
  have hmm := @run_makeMap Try.prog
  clear hd HD0 hok hcm B0 B2 hbw hW1 hsz
  go_enter Try.func42, Try.ntmps42
  go_upto_region 2 with fail
  rw [← HW1.out]
  clear hmm HW1
  go_quiet (fail)
  have HB0 := Lib.hid b0
  have HB2 := Lib.hid b2
  have HC9 := Lib.hid c9
  clear c7 c8 b0 b2 c9
  generalize hW2 : W1.drewN nq = W2
  have HC2 : Hid (Come W1 (w.heap.size + 1) S.files (Pk S 0) W2 []) := by
    refine (HC.out.none (wx := W2) ?_).congr (fun f hf => (pk0 S f).symm)
    rw [← hW2]; exact ⟨rfl, rfl, rfl, Nat.le_refl _, fun _ _ _ => rfl⟩
  have hbn : bn < w.heap.size := HBN.out
  have hbl : bl < w.heap.size := HBL.out
  clear hW2 HC
  go_wp2_with fail
  go_loopw [5, 7, 20] (fun _ _ v20 wr => ∃ k l, ((k = 0 ∧ v20 = .int .i64 0) ∨ (k = 1 ∧ v20 = .int .i64 1) ∨ (k = 2 ∧ v20 = .int .i64 2)) ∧ Come W1 (w.heap.size + 1) S.files (Pk S k) wr l) (fun _ _ v20 _ => 2 - (intOf v20).toNat)
  case atStart => exact ⟨0, [], .inl ⟨rfl, rfl⟩, HC2.out⟩
  case round =>
    obtain ⟨k, l0, hk, hcom⟩ := hrel
    have HCM := Lib.hid hcom
    clear hcom HC2
    rcases hk with ⟨rfl, rfl⟩ | ⟨rfl, rfl⟩ | ⟨rfl, rfl⟩
    ·
      have hr0 := HCM.out.gb.size
      have hsz := HSZ.out
      have hnr : NmAt wr bn S.names := HD.out.names.of_block (HCM.out.gb.block _ (by rw [hsz]; omega) (fun e => by cases e; omega))
      have HN := Lib.hid hnr
      have hix : (Instr.index 86 (.agg #[.map (some bn), .map (some bl)]) (.int .i64 0)).run Try.prog wr = .ok (.map (some bn)) wr := by kernel_rfl
      go_wp2_with (first | (at_range; refine wpList_range_own _ rfl _ 56 rfl 9 62 law_str Try.underlying56 fileR bn (size S.names) S.names rfl HN.out ?_; intro w0 hrg0 hg0 hs0) | fail)
      go_frame
      clear hix
      have HRG := Lib.hid hrg0
      have HC0 := Lib.hid ((HCM.out.none hg0).congr (Q := fun f => Pk S 0 f ∨ visited S.names (has S.names) f) (fun f hf => ⟨.inl, fun h => h.resolve_right (visited_start _ _)⟩))
      clear hrg0 hg0 hs0 hnr
      generalize hrz : wr.heap.size = rz at *
      have HRZ : Hid (W1.heap.size ≤ rz) := hr0
      clear hr0 hrz HCM
      go_loopw [7] (fun _ wr => ∃ left cnt l, wr.ranges Try.prog 9 fileR bn rz (size S.names) S.names left cnt ∧ Come W1 (w.heap.size + 1) S.files (fun f => Pk S 0 f ∨ visited S.names left f) wr l) (fun _ wr => wr.rangeLeft bn rz)
      case atStart => exact ⟨_, _, _, HRG.out, HC0.out⟩
      case round =>
        obtain ⟨left, cnt, l, hrg, hcom⟩ := hrel
        have HCM := Lib.hid hcom
        clear hcom HC0 HRG
        go_wp2_with (first | (at_next; refine wpList_next_ranges _ rfl _ rfl 9 law_str fileR Value.string pF inv_key inv_val bn rz (size S.names) S.names left cnt rfl hrg ?_ ?_) | fail)
        · intro _ hl0
          have HC3 := Lib.hid ((HCM.out.congr (Q := Pk S (0 + 1)) (fun f hf => (or_congr Iff.rfl (visited_end HN.out.canon (HOK.out.names.leads) left hl0 f)).trans (pk_a S f))))
          clear hrg hl0 HCM
          go_wp2
          go_roundw
          case rel => exact ⟨0 + 1, l, (.inr (.inl ⟨rfl, by go_num⟩)), HC3.out⟩
          case measure => simp [intOf]
        · intro x c kl y ps w1 cnt1 hkx hlx hy hat hrg1 hlt hg1 hs1 hen
          obtain ⟨f, hf, ha⟩ := HOK.out.names kl (has_true_of_atKey hat)
          have hye : y = enc f := by rw [← hat .nil, ha]
          have hc : c = some f := by rw [← fileR_pF c (y, ps) hy]; show decF y = some f; rw [hye, decF_enc]
          subst hc
          have hsz := HSZ.out
          have hcm1 := HCM.out.other hg1 HRZ.out (by rw [hsz]; omega)
          obtain ⟨w2, hput, hcm2, hg2⟩ := hcm1.put hF.out hN.out hf
          have HC3 := Lib.hid (hcm2.congr (Q := fun g => Pk S 0 g ∨ visited S.names (fun z => left z && !z.sameKey kl) g) (fun g hg => by rw [or_assoc]; exact or_congr Iff.rfl (visited_step HN.out.canon left kl ha hlx g).symm))
          have HR2 := Lib.hid (hrg1.kept hg2 (fun e => by cases e; omega) (fun e => by cases e; have := HRZ.out; omega))
          have HR0 := Lib.hid hrg
          have HLT := Lib.hid hlt
          have b2 : w1.cell? ⟨w.heap.size + 1 + 1, 0, none⟩ = some (.map (some (w.heap.size + 1))) := (World.cell?_of_block (a := ⟨w.heap.size + 1 + 1, 0, none⟩) (hcm1.gb.block _ (by rw [hsz]; show w.heap.size + 1 + 1 < _; omega) (fun e => by have := Option.some.inj e; simp at this))).trans HB2.out
          unfold pF at hen
          simp only at hen
          clear hrg hrg1 hlt hg1 hs1 hat ha hy hye hkx hlx hf hcm1 hcm2 hg2 hsz
          go_wp2_with fail
          go_roundw
          case rel => exact ⟨_, _, _, HR2.out, HC3.out⟩
          case measure => rw [HR2.out.left_eq, HR0.out.left_eq]; exact HLT.out
    ·
      have hr0 := HCM.out.gb.size
      have hsz := HSZ.out
      have hnr : NmAt wr bl S.last := HD.out.last.of_block (HCM.out.gb.block _ (by rw [hsz]; omega) (fun e => by cases e; omega))
      have HN := Lib.hid hnr
      have hix : (Instr.index 86 (.agg #[.map (some bn), .map (some bl)]) (.int .i64 1)).run Try.prog wr = .ok (.map (some bl)) wr := by kernel_rfl
      go_wp2_with (first | (at_range; refine wpList_range_own _ rfl _ 56 rfl 9 62 law_str Try.underlying56 fileR bl (size S.last) S.last rfl HN.out ?_; intro w0 hrg0 hg0 hs0) | fail)
      go_frame
      clear hix
      have HRG := Lib.hid hrg0
      have HC0 := Lib.hid ((HCM.out.none hg0).congr (Q := fun f => Pk S 1 f ∨ visited S.last (has S.last) f) (fun f hf => ⟨.inl, fun h => h.resolve_right (visited_start _ _)⟩))
      clear hrg0 hg0 hs0 hnr
      generalize hrz : wr.heap.size = rz at *
      have HRZ : Hid (W1.heap.size ≤ rz) := hr0
      clear hr0 hrz HCM
      go_loopw [7] (fun _ wr => ∃ left cnt l, wr.ranges Try.prog 9 fileR bl rz (size S.last) S.last left cnt ∧ Come W1 (w.heap.size + 1) S.files (fun f => Pk S 1 f ∨ visited S.last left f) wr l) (fun _ wr => wr.rangeLeft bl rz)
      case atStart => exact ⟨_, _, _, HRG.out, HC0.out⟩
      case round =>
        obtain ⟨left, cnt, l, hrg, hcom⟩ := hrel
        have HCM := Lib.hid hcom
        clear hcom HC0 HRG
        go_wp2_with (first | (at_next; refine wpList_next_ranges _ rfl _ rfl 9 law_str fileR Value.string pF inv_key inv_val bl rz (size S.last) S.last left cnt rfl hrg ?_ ?_) | fail)
        · intro _ hl0
          have HC3 := Lib.hid ((HCM.out.congr (Q := Pk S (1 + 1)) (fun f hf => (or_congr Iff.rfl (visited_end HN.out.canon (HOK.out.last.leads) left hl0 f)).trans (pk_b S f))))
          clear hrg hl0 HCM
          go_wp2
          go_roundw
          case rel => exact ⟨1 + 1, l, (.inr (.inr ⟨rfl, by go_num⟩)), HC3.out⟩
          case measure => simp [intOf]
        · intro x c kl y ps w1 cnt1 hkx hlx hy hat hrg1 hlt hg1 hs1 hen
          obtain ⟨f, hf, ha⟩ := HOK.out.last kl (has_true_of_atKey hat)
          have hye : y = enc f := by rw [← hat .nil, ha]
          have hc : c = some f := by rw [← fileR_pF c (y, ps) hy]; show decF y = some f; rw [hye, decF_enc]
          subst hc
          have hsz := HSZ.out
          have hcm1 := HCM.out.other hg1 HRZ.out (by rw [hsz]; omega)
          obtain ⟨w2, hput, hcm2, hg2⟩ := hcm1.put hF.out hN.out hf
          have HC3 := Lib.hid (hcm2.congr (Q := fun g => Pk S 1 g ∨ visited S.last (fun z => left z && !z.sameKey kl) g) (fun g hg => by rw [or_assoc]; exact or_congr Iff.rfl (visited_step HN.out.canon left kl ha hlx g).symm))
          have HR2 := Lib.hid (hrg1.kept hg2 (fun e => by cases e; omega) (fun e => by cases e; have := HRZ.out; omega))
          have HR0 := Lib.hid hrg
          have HLT := Lib.hid hlt
          have b2 : w1.cell? ⟨w.heap.size + 1 + 1, 0, none⟩ = some (.map (some (w.heap.size + 1))) := (World.cell?_of_block (a := ⟨w.heap.size + 1 + 1, 0, none⟩) (hcm1.gb.block _ (by rw [hsz]; show w.heap.size + 1 + 1 < _; omega) (fun e => by have := Option.some.inj e; simp at this))).trans HB2.out
          unfold pF at hen
          simp only at hen
          clear hrg hrg1 hlt hg1 hs1 hat ha hy hye hkx hlx hf hcm1 hcm2 hg2 hsz
          go_wp2_with fail
          go_roundw
          case rel => exact ⟨_, _, _, HR2.out, HC3.out⟩
          case measure => rw [HR2.out.left_eq, HR0.out.left_eq]; exact HLT.out
    ·
      have hsz := HSZ.out
      have b0 : wr.cell? ⟨w.heap.size, 0, none⟩ = some (.pointer (some ⟨bd, 0, none⟩)) := (World.cell?_of_block (a := ⟨w.heap.size, 0, none⟩) (HCM.out.gb.block _ (by rw [hsz]; show w.heap.size < _; omega) (fun e => by have := Option.some.inj e; simp at this))).trans HB0.out
      have c9 : wr.cell? ⟨bd, 9, none⟩ = some vt := (World.cell?_of_block (a := ⟨bd, 9, none⟩) (HCM.out.gb.block _ (by rw [hsz]; show bd < _; omega) (fun e => by have := Option.some.inj e; simp only at this; omega))).trans HC9.out
      obtain ⟨at', ct, hvt⟩ := owns_slice HD.out.turns
      subst hvt
      clear hsz
      go_wp2_with fail
      clear b0 c9
      have hlen := HOK.out.many.2
      go_loopw [9, 37] (fun _ v37 wr => ∃ k l, k ≤ S.turns.length ∧ v37 = .int .i64 ((k : Nat) : Int) ∧ Come W1 (w.heap.size + 1) S.files (fun f => Pk S 2 f ∨ ∃ t ∈ S.turns.take k, t.f = some f) wr l) (fun _ v37 _ => S.turns.length - (intOf v37).toNat)
      case atStart => exact ⟨0, _, by omega, rfl, HCM.out.congr (fun f hf => by simp)⟩
      case round =>
        obtain ⟨k, l, hk, rfl, hcom⟩ := hrel
        have HC3 := Lib.hid hcom
        clear hcom HCM
        by_cases hlt : k < S.turns.length
        · obtain ⟨g, cap, hform⟩ := owns_form HD.out.turns (by omega)
          injection hform with h1 h2 h3
          subst h1
          have hgl := HTG.out g rfl
          obtain ⟨t0, t1, t2, t3⟩ := turn_cells HD.out.turns k hlt
          have hgk : wr.heap[g]? = W1.heap[g]? := HC3.out.gb.block _ (by rw [HSZ.out]; omega) (fun e => by have := Option.some.inj e; omega)
          rw [← World.cell?_of_block (a := ⟨g, k * 4, none⟩) hgk] at t0
          rw [← World.cell?_of_block (a := ⟨g, k * 4 + 1, none⟩) hgk] at t1
          rw [← World.cell?_of_block (a := ⟨g, k * 4 + 2, none⟩) hgk] at t2
          rw [← World.cell?_of_block (a := ⟨g, k * 4 + 3, none⟩) hgk] at t3
          have hstep : ∀ f, (Pk S 2 f ∨ ∃ t ∈ S.turns.take (k + 1), t.f = some f) ↔ ((Pk S 2 f ∨ ∃ t ∈ S.turns.take k, t.f = some f) ∨ S.turns[k].f = some f) := fun f => by
            rw [List.take_succ_eq_append_getElem hlt, or_assoc]
            simp only [List.mem_append, List.mem_singleton]
            constructor
            · rintro (h | ⟨t, h | rfl, e⟩)
              · exact .inl h
              · exact .inr (.inl ⟨t, h, e⟩)
              · exact .inr (.inr e)
            · rintro (h | ⟨t, h, e⟩ | e)
              · exact .inl h
              · exact .inr ⟨t, .inl h, e⟩
              · exact .inr ⟨_, .inr rfl, e⟩
          have hmem := HOK.out.turns _ (List.getElem_mem hlt)
          have HST := Lib.hid hstep
          have HMEM := Lib.hid hmem
          clear hstep hmem hgk
          generalize S.turns[k] = t at *
          obtain ⟨tk, ta, tb, tf⟩ := t
          simp only at *
          have hca : Come W1 (w.heap.size + 1) S.files (fun f => Pk S 2 f ∨ ∃ t ∈ S.turns.take k, t.f = some f) (wr.alloc (.cells #[.int .i64 tk, .string ta, .string tb, pF tf] 66)) l := HC3.out.none (World.grownBy_alloc wr _ none)
          have HCA := Lib.hid hca
          have b2 : (wr.alloc (.cells #[.int .i64 tk, .string ta, .string tb, pF tf] 66)).cell? ⟨w.heap.size + 1 + 1, 0, none⟩ = some (.map (some (w.heap.size + 1))) := (World.cell?_of_block (a := ⟨w.heap.size + 1 + 1, 0, none⟩) (hca.gb.block _ (by rw [HSZ.out]; show w.heap.size + 1 + 1 < _; omega) (fun e => by have := Option.some.inj e; simp at this))).trans HB2.out
          cases tf with
          | none =>
            have HC4 := Lib.hid (hca.congr (fun f hf => ((HST.out f).trans (by simp)).symm))
            clear hca HC3 HCA b2
            unfold pF at *
            simp only at *
            go_wp2_with fail
            go_roundw
            case rel => exact ⟨k + 1, l, by omega, by go_num, HC4.out⟩
            case measure => simp [intOf]; omega
          | some f =>
            obtain ⟨w2, hput, hcm2, hg2⟩ := hca.put hF.out hN.out (HMEM.out f rfl)
            have HC4 := Lib.hid (hcm2.congr (fun g hg => ((HST.out g).trans (or_congr Iff.rfl ⟨fun e => (Option.some.inj e).symm, fun e => congrArg some e.symm⟩)).symm))
            clear hca HC3 HCA hcm2 hg2
            unfold pF at *
            simp only at *
            go_wp2_with fail
            go_roundw
            case rel => exact ⟨k + 1, _, by omega, by go_num, HC4.out⟩
            case measure => simp [intOf]; omega
        · obtain rfl : k = S.turns.length := by omega
          have HC4 := Lib.hid (HC3.out.congr (Q := fun f => comeB S f = true) (fun f hf => by
            rw [List.take_length]
            unfold Pk comeB
            simp [or_assoc]))
          clear HC3
          go_wp2
          go_ret
          exact ⟨rfl, l, HC4.out⟩
end Go.Proofs.Ytelndbjjkhlacaa
