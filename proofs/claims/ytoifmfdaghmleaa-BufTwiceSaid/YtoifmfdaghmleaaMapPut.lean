/-
  A map is turned: a key has a value, a key is taken away.
-/
import Derived.Test.YtoifmfdaghmleaaMapSet
import Derived.Test.YtoifmfdaghmleaaBagInsM
import Derived.Test.YtoifmfdaghmleaaBagAdd
import Derived.Deep.RegionLaw
set_option linter.unusedVariables false
namespace Go.Proofs.Ytoifmfdaghmleaa
open Go.RowKit Go.Lib Go.Sort Go.Shelf
attribute [local go_sem] Oper.semAt_some

theorem run_clear_one {P : Program} (w : World) (t e ty : TypeId) (z : Value) (z0 z1 : Value) (ht : P.underlying t = some (.slice e)) (hv : ∀ w, (zeroValue e).run P w = .ok z w) (hz : z.cells = #[z0, z1]) (h0 : z0.oneCell' = true) (h1 : z1.oneCell' = true) (b o c : Nat)
    (hc : ∀ j, j < 2 → (w.cell? ⟨b, o + j, none⟩).isSome = true) (hf : ∀ j, j < 2 → w.frozen? ⟨b, o + j, none⟩ = false) :
    (Builtin.clear_ #[t] ty #[.slice (some ⟨b, o, none⟩) 1 c]).run P w = .ok (.tuple #[]) (w.setCells b o [z0, z1]) := by
  have hzc : (Builtin.zeroCells z.cells 1).toList = [z0, z1] := by
    rw [hz]
    simp [Builtin.zeroCells]
    apply List.ext_getElem
    · simp
    · intro i h1 h2
      have : i = 0 ∨ i = 1 := by simp at h2; omega
      rcases this with rfl | rfl <;> simp
  have hst := run_storeCells_cells (P := P) b o [z0, z1] 0 w (by simpa using hc) (by simpa using hf) (by intro v hv'; simp at hv'; rcases hv' with rfl | rfl <;> assumption)
  simp only [Nat.add_zero] at hst
  simp [Builtin.clear_, run_underlying ht, hv, hzc, hst]
theorem run_cutHm {P : Program} (W : World) (t e : TypeId) (m : Nat) (ht : P.underlying t = some (.slice e)) (hz : ∀ w, (Go.sizeOf e).run P w = .ok m w) (g n cap k : Nat) (hk : k ≤ cap) :
    (Instr.slice t (.slice (some ⟨g, 0, none⟩) n cap) none (some (.int .i64 (k : Int))) none).run P W = .ok (.slice (some ⟨g, 0, none⟩) k cap) W := by
  have ht' : P.underlying t = some (.slice (P.elem t)) := by simp [Program.elem, ht]
  have he : P.elem t = e := by simp [Program.elem, ht]
  rw [run_slice_h W t _ _ _ ht' .i64 _ (by omega) (by omega), he, hz]
  by_cases h0 : cap = 0
  · simp [Result.andThen, sliced, h0]
  · simp [Result.andThen, sliced, Addr.add, h0]
theorem run_cutLm {P : Program} (W : World) (t e : TypeId) (m : Nat) (ht : P.underlying t = some (.slice e)) (hz : ∀ w, (Go.sizeOf e).run P w = .ok m w) (g n cap k : Nat) (hk : k ≤ n) (hk0 : 0 < k) (hm : 0 < m) :
    (Instr.slice t (.slice (some ⟨g, 0, none⟩) n cap) (some (.int .i64 (k : Int))) none none).run P W = .ok (.slice (if cap = k then some ⟨g, 0, none⟩ else some ⟨g, k * m, none⟩) (n - k) (cap - k)) W := by
  have ht' : P.underlying t = some (.slice (P.elem t)) := by simp [Program.elem, ht]
  have he : P.elem t = e := by simp [Program.elem, ht]
  rw [run_slice_l W t _ _ _ ht' .i64 _ (by omega) (by omega), he, hz]
  have h2 : k * m ≠ 0 := Nat.ne_of_gt (Nat.mul_pos hk0 hm)
  by_cases h0 : cap = k
  · simp [Result.andThen, sliced, h0]
  · simp [Result.andThen, sliced, Addr.add, h0, h2]
theorem run_cutMm {P : Program} (W : World) (t e : TypeId) (m : Nat) (ht : P.underlying t = some (.slice e)) (hz : ∀ w, (Go.sizeOf e).run P w = .ok m w) (g n cap k h : Nat) (hk : k ≤ h) (hh : h ≤ cap) (hk0 : k < cap) :
    (Instr.slice t (.slice (some ⟨g, 0, none⟩) n cap) (some (.int .i64 (k : Int))) (some (.int .i64 (h : Int))) none).run P W = .ok (.slice (some ⟨g, k * m, none⟩) (h - k) (cap - k)) W := by
  have ht' : P.underlying t = some (.slice (P.elem t)) := by simp [Program.elem, ht]
  have he : P.elem t = e := by simp [Program.elem, ht]
  rw [run_slice_lh W t _ _ _ ht' .i64 .i64 _ _ (by omega) (by omega) (by omega), he, hz]
  have h0 : ¬ cap = k := by omega
  by_cases h2 : k * m = 0
  · simp [Result.andThen, sliced, Addr.add, h0, h2]
  · simp [Result.andThen, sliced, Addr.add, h0, h2]
set_option maxRecDepth 100000 in
set_option maxHeartbeats 1000000 in
theorem delMS (w : World) (base n i cap g : Nat) (l : List (ByteArray × Value)) (hown : w.ownsRow base 123 2 (.slice (some ⟨g, 0, none⟩) n cap) n (mvs (fun x : ByteArray => (Value.string x : Value)) l)) (hl : l.length = n) (h1 : ∀ e ∈ l, e.2.oneCell' = true) (hi : i < n) (hn : n ≤ 1000000) :
    Calls Try.prog 91 #[.slice (some ⟨g, 0, none⟩) n cap, .int .i64 (i : Int), .int .i64 ((i : Int) + 1)] w fun e w' => e = .returned (.slice (some ⟨g, 0, none⟩) (n - 1) cap) ∧ w'.ownsRow base 123 2 (.slice (some ⟨g, 0, none⟩) (n - 1) cap) (n - 1) (mvs (fun x : ByteArray => (Value.string x : Value)) (delAt l i)) ∧ w.grownBy w' (some g) := by
  obtain ⟨i0, hi0, hz0, hz1, hz2⟩ := info_parts info_eE
  obtain ⟨hb, hnc, hcm, f, hr, hf⟩ := owns_some hown
  have hml := mvs_len (fun x : ByteArray => (Value.string x : Value)) l
  rw [hl] at hml
  have hmo := mvs_one (fun x : ByteArray => (Value.string x : Value)) (fun _ => rfl) l h1
  have hmd := mvs_del (fun x : ByteArray => (Value.string x : Value)) l i
  have hdl := delAt_len l i (by omega)
  obtain ⟨L, hL⟩ : ∃ L, L = mvs (fun x : ByteArray => (Value.string x : Value)) l := ⟨_, rfl⟩
  rw [← hL] at hml hmo hmd hf
  obtain ⟨news, hnews⟩ : ∃ news, news = L.drop ((i + 1) * 2) := ⟨_, rfl⟩
  have hlen : news.length = (n - (i + 1)) * 2 := by rw [hnews, List.length_drop]; omega
  have hfs : ∀ j, j < n * 2 → w.cell? ⟨g, j, none⟩ = some (L.getD j undef) := fun j hj => by rw [hr.cell (by omega), hf j hj]
  obtain ⟨AD, hAD, hsrc⟩ : ∃ AD : Addr, (if cap = i + 1 then some (⟨g, 0, none⟩ : Addr) else some ⟨g, (i + 1) * 2, none⟩) = some AD ∧ Hid (∀ t u, news[t]? = some u → w.drew.cell? (AD.add t) = some u) := by
    have key : ∀ t u, news[t]? = some u → w.drew.cell? ⟨g, (i + 1) * 2 + t, none⟩ = some u := fun t u hu => by
      have ht : t < news.length := (List.getElem?_eq_some_iff.1 hu).1
      have := hfs ((i + 1) * 2 + t) (by omega)
      show w.cell? _ = _
      rw [this, hnews, List.getElem?_drop] at *
      rw [List.getD_eq_getElem?_getD, hu]; rfl
    by_cases h : cap = i + 1
    · refine ⟨⟨g, 0, none⟩, by simp [h], fun t u hu => ?_⟩
      have ht : t < news.length := (List.getElem?_eq_some_iff.1 hu).1
      omega
    · refine ⟨⟨g, (i + 1) * 2, none⟩, by simp [h], fun t u hu => ?_⟩
      rw [Addr.add_lit]
      exact key t u hu
  have s1 : Hid (news.length = (n - (i + 1)) * 2) := hlen
  have s2 : Hid (∀ u ∈ news, u.oneCell' = true) := fun u hu => hmo u (by rw [hnews] at hu; exact List.mem_of_mem_drop hu)
  have s3 : Hid (∀ t, t < news.length → (w.drew.cell? ⟨g, 0 + i * 2 + t, none⟩).isSome = true ∧ w.drew.frozen? ⟨g, 0 + i * 2 + t, none⟩ = false) := by
    intro t ht
    rw [hlen] at ht
    refine ⟨?_, hr.frozen _⟩
    show (w.cell? _).isSome = true
    rw [show 0 + i * 2 + t = i * 2 + t by omega, hfs _ (by omega)]; rfl
  obtain ⟨W1, hW1⟩ : ∃ W1, W1 = w.drew.setCells g (0 + i * 2) news := ⟨_, rfl⟩
  have hr1 := row_setCells news (0 + i * 2) _ _ (row_drewN hr 1)
  have hg1 : w.grownBy W1 (some g) := by rw [hW1]; exact gb_setCells g _ _ _ (gb_drewN (gb_refl _ _) 1)
  change (w.drew.setCells g (0 + i * 2) news).rowIs _ _ _ _ at hr1
  rw [← hW1] at hr1
  have hcl : ∀ ty, (Builtin.clear_ #[119] ty #[.slice (some ⟨g, (n - 1) * 2, none⟩) 1 (cap - (n - 1))]).run Try.prog W1 = .ok (.tuple #[]) (W1.setCells g ((n - 1) * 2) [Value.string (⟨#[]⟩ : ByteArray), (Value.int .i64 0)]) :=
    fun ty => run_clear_one W1 _ _ ty (.agg #[Value.string (⟨#[]⟩ : ByteArray), (Value.int .i64 0)]) _ _ Try.underlying119 (fun w => by kernel_rfl) rfl rfl rfl g _ _ (fun j hj => by rw [hr1.cell (by omega)]; rfl) (fun j hj => hr1.frozen _)
  have hr2 := row_setCells [Value.string (⟨#[]⟩ : ByteArray), (Value.int .i64 0)] ((n - 1) * 2) _ _ hr1
  have hg2 : w.grownBy (W1.setCells g ((n - 1) * 2) [Value.string (⟨#[]⟩ : ByteArray), (Value.int .i64 0)]) (some g) := gb_setCells g _ _ _ hg1
  have HFIN : Hid ((W1.setCells g ((n - 1) * 2) [Value.string (⟨#[]⟩ : ByteArray), (Value.int .i64 0)]).ownsRow base 123 2 (.slice (some ⟨g, 0, none⟩) (n - 1) cap) (n - 1) (mvs (fun x : ByteArray => (Value.string x : Value)) (delAt l i)) ∧ w.grownBy (W1.setCells g ((n - 1) * 2) [Value.string (⟨#[]⟩ : ByteArray), (Value.int .i64 0)]) (some g)) := by
    refine ⟨owns_of hr2 hb (by omega) hcm (by rw [mvs_len]; omega) (fun j hj => ?_), hg2⟩
    have lt : (L.take (i * 2)).length = i * 2 := by rw [List.length_take]; omega
    rw [if_neg (by omega), ← hmd, getD_app, lt]
    by_cases h0 : j < i * 2
    · rw [if_neg (by omega), if_pos h0, hf j (by omega), getD_take _ _ _ _ h0]
    · rw [if_pos (by omega), if_neg h0, ← hnews]
      congr 1; omega
  have hW : Hid (W1 = w.drew.setCells g (0 + i * 2) news) := hW1
  have t1 : (i : Int) + 1 ≤ (n : Int) := by omega
  have t2 : (i : Int) ≤ (i : Int) + 1 := by omega
  have t3 : ((i : Int) == (i : Int) + 1) = false := beq_false_of_ne (by omega)
  have hnn : ((n : Int)) ≤ 1000000 := by omega
  have hsA := fun W => run_cutHm W 119 123 2 Try.underlying119 (fun w => by kernel_rfl) g n cap i (by omega)
  have hsB := fun W => run_cutLm W 119 123 2 Try.underlying119 (fun w => by kernel_rfl) g n cap (i + 1) (by omega) (by omega) (by omega)
  have hsC : Hid (∀ W, (Instr.slice 119 (.slice (some ⟨g, 0, none⟩) (n - 1) cap) (some (.int .i64 ((n - 1 : Nat) : Int))) (some (.int .i64 (n : Int))) none).run Try.prog W = .ok (.slice (some ⟨g, (n - 1) * 2, none⟩) 1 (cap - (n - 1))) W) := fun W => by
    have := run_cutMm W 119 123 2 Try.underlying119 (fun w => by kernel_rfl) g (n - 1) cap (n - 1) n (by omega) (by omega) (by omega)
    rwa [show n - (n - 1) = 1 by omega] at this
  rw [hAD] at hsB
  rw [show ((i + 1 : Nat) : Int) = (i : Int) + 1 by omega] at hsB
  clear hr hf hfs hlen hnews hmd hmo hml hL hown hr1 hg1 hr2 hg2 hdl hW1
  go_enter Try.func91, Try.ntmps91
  go_wp2_with fail
  go_region_law (refine step_append_room rfl _ _ 119 rfl 123 i0 2 Try.underlying119 hi0 hz1 g 0 i cap (by simp [Act.eval, Act.put]) AD (n - (i + 1)) (cap - (i + 1)) news (by simp [Act.eval, Act.put]) s1.out hsrc.out s2.out (by omega) s3.out ?_; rw [← hW.out])
  refine (show ∀ {Q : Exit → Act → World → Prop} {a w}, Q .normal a w → Q .normal a w from fun h => h) ?_
  go_frame
  rw [show i + (n - (i + 1)) = n - 1 by omega]
  have hsD := hsC.out
  clear hsA hsB
  generalize hm : n - 1 = m at *
  have HMM := Lib.hid hm
  clear hm
  go_wp2
  go_ret
  have hmm := HMM.out
  rw [hmm]
  exact ⟨rfl, HFIN.out.1, HFIN.out.2⟩
theorem mput_oneS {l : List (ByteArray × Value)} (h : ∀ e ∈ l, e.2.oneCell' = true) (x : ByteArray) (u : Value) (hu : u.oneCell' = true) : ∀ e ∈ mput ltT l x u, e.2.oneCell' = true := by
  intro e he
  unfold mput at he
  split at he
  · rcases List.mem_or_eq_of_mem_set he with h1 | h1
    · exact h e h1
    · subst h1; exact hu
  · unfold insAt at he
    rcases List.mem_append.1 he with h1 | h1
    · exact h e (List.mem_of_mem_take h1)
    · rcases List.mem_cons.1 h1 with h2 | h2
      · subst h2; exact hu
      · exact h e (List.mem_of_mem_drop h2)
theorem mdel_oneS {l : List (ByteArray × Value)} (h : ∀ e ∈ l, e.2.oneCell' = true) (x : ByteArray) : ∀ e ∈ mdel ltT l x, e.2.oneCell' = true := by
  intro e he
  unfold mdel at he
  split at he
  · unfold delAt at he
    rcases List.mem_append.1 he with h1 | h1
    · exact h e (List.mem_of_mem_take h1)
    · exact h e (List.mem_of_mem_drop h1)
  · exact h e he
/-- how a map is turned -/
def MapTurnS (w : World) (p : Nat) (v : Value) (b : Bool) (l : List (ByteArray × Value)) (e : Ending) (w' : World) : Prop :=
  ∃ v', e = .returned (.bool b) ∧ MapS w' p v' l ∧ StepX (SetB p v) w w' ∧ (∀ g, v'.ownBlock = some g → SetB p v g ∨ w.heap.size ≤ g)
set_option maxRecDepth 100000 in
set_option maxHeartbeats 2000000 in
theorem putMS (w : World) (p : Nat) (v : Value) (l : List (ByteArray × Value)) (h : MapS w p v l) (hn : l.length ≤ 900000) (x : ByteArray) (z : Int) :
    Calls Try.prog 50 #[.pointer (some ⟨p, 0, none⟩), Value.string x, (.int .i64 z)] w (MapTurnS w p v (!memB (keysL l) x) (mput ltT l x (.int .i64 z))) := by
  have HPL := Lib.hid (placeMS w p v l h (by omega) x)
  have hrise : Rise ltT (keysL (mput ltT l x (.int .i64 z))) := by rw [mput_keys ordT h.rise]; exact putL_rise ordT h.rise x
  have HRI := Lib.hid hrise
  have HON := Lib.hid (mput_oneS h.one x (.int .i64 z) rfl)
  by_cases hm : x ∈ keysL l
  · obtain ⟨hlt, hke⟩ := (rk_mem ordT h.rise x).1 hm
    have hlt2 := hlt
    rw [keysL_len] at hlt2
    have hput : mput ltT l x (.int .i64 z) = l.set (rk ltT (keysL l) x) (x, (.int .i64 z)) := if_pos hm
    rw [memB_true hm] at HPL ⊢
    obtain ⟨g, cap, rfl⟩ : ∃ g cap, v = .slice (some ⟨g, 0, none⟩) l.length cap := by
      rcases h.row.2 with ⟨_, e⟩ | ⟨g, cap, cur, e, _⟩
      · omega
      · exact ⟨g, cap, e⟩
    have hix := run_ixN (P := Try.prog) 119 2 (by kernel_rfl) (fun w => by kernel_rfl) (some ⟨g, 0, none⟩) l.length cap (.inr rfl)
    have hxk : ∀ W, (Instr.indexAt 119 (.slice (some ⟨g, 0, none⟩) l.length cap) (.int .i64 ((rk ltT (keysL l) x : Nat) : Int))).run Try.prog W = .ok (.pointer (some ⟨g, rk ltT (keysL l) x * 2, none⟩)) W := fun W => by
      have := hix W (rk ltT (keysL l) x) hlt2
      simpa [bOf, oOf] using this
    have hsl : (l.set (rk ltT (keysL l) x) (x, (.int .i64 z))).length = l.length := List.length_set
    have hms : mvs (fun x : ByteArray => (Value.string x : Value)) (mput ltT l x (.int .i64 z)) = (mvs (fun x : ByteArray => (Value.string x : Value)) l).set (rk ltT (keysL l) x * 2 + 1) (.int .i64 z) := by
      rw [hput]
      refine mvs_set _ l _ x (.int .i64 z) hlt2 (fun hr => ?_)
      exact (keys_get hlt hr).symm.trans hke
    have hpl : (mput ltT l x (.int .i64 z)).length = l.length := by rw [hput, hsl]
    have HM := Lib.hid h
    have HMS := Lib.hid hms
    have HPN := Lib.hid hpl
    have HLT := Lib.hid hlt2
    have hn2 : l.length ≤ 900000 := hn
    clear hput hrise hm hlt hke hlt2 hix hsl hms hpl h
    obtain ⟨L', hL'⟩ : ∃ L', L' = mput ltT l x (.int .i64 z) := ⟨_, rfl⟩
    rw [← hL'] at HRI HON HMS HPN ⊢
    clear hL'
    generalize rk ltT (keysL l) x = r at *
    go_enter Try.func50, Try.ntmps50
    go_wp2_with fail
    refine HPL.out.mono ?_
    rintro e w1 ⟨rfl, hb⟩
    have hM1 := HM.out.kept hb
    have c1 := hM1.box.cell
    obtain ⟨hb9, hnc, hcm, f, hr, hf⟩ := owns_some hM1.row
    have d1 := hr.cell (i := r * 2 + 1) (by have := HLT.out; omega)
    have f1 : w1.frozen? ⟨g, r * 2 + 1, none⟩ = false := hr.frozen _
    have hr2 := hr.set (r * 2 + 1) (.int .i64 z)
    have HFIN : Hid (MapS (w1.setCell ⟨g, r * 2 + 1, none⟩ (.int .i64 z)) p (.slice (some ⟨g, 0, none⟩) l.length cap) L' ∧ StepX (SetB p (.slice (some ⟨g, 0, none⟩) l.length cap)) w (w1.setCell ⟨g, r * 2 + 1, none⟩ (.int .i64 z))) := by
      have hne := HM.out.ne
      have hgp : some p ≠ some g := fun e => hne e.symm
      have hgb : w1.grownBy (w1.setCell ⟨g, r * 2 + 1, none⟩ (.int .i64 z)) (some g) := gb_setCells g [(.int .i64 z)] (r * 2 + 1) w1 (gb_refl _ _)
      refine ⟨⟨hM1.box.kept hgb hgp, ?_, HRI.out, HON.out⟩, (StepX.of_below hb).trans (StepX.setCell w1 ⟨g, r * 2 + 1, none⟩ (.int .i64 z) (.inr rfl))⟩
      rw [HPN.out, HMS.out]
      have hml := mvs_len (fun x : ByteArray => (Value.string x : Value)) l
      refine owns_of hr2 hb9 hnc hcm (by rw [List.length_set, hml]) (fun j hj => ?_)
      rw [List.getD_eq_getElem?_getD, List.getElem?_set]
      by_cases e : j = r * 2 + 1
      · subst e
        rw [if_pos rfl, if_pos rfl, if_pos (by rw [hml]; exact hj)]; rfl
      · rw [if_neg e, if_neg (fun h => e h.symm), hf j hj, List.getD_eq_getElem?_getD]
    clear hM1 hb hb9 hnc hcm hr hf hr2 HPL HM
    clear HMS
    generalize f (r * 2 + 1) = old at *
    clear f
    generalize l.length = n at *
    go_wp2
    go_ret
    exact ⟨_, rfl, HFIN.out.1, HFIN.out.2, fun g' e => .inl (.inr e)⟩
  · have hput : mput ltT l x (.int .i64 z) = insAt l (rk ltT (keysL l) x) (x, (.int .i64 z)) := if_neg hm
    rw [memB_false hm] at HPL ⊢
    have hle := rk_le (lt := ltT) (keysL l) x
    rw [keysL_len] at hle
    obtain ⟨a, cap, rfl, -⟩ := mrow_of_owns h.row rfl
    have HM := Lib.hid h
    have HLL : Hid ((mput ltT l x (.int .i64 z)).length = l.length + 1) := by show _ = _; rw [hput]; exact insAt_len _ _ _
    have HIN := Lib.hid (fun w1 (hb : Below w.heap.size w w1) => by
      have hw2 : Below w1.heap.size w1 (w1.alloc (.cells #[Value.string x, (.int .i64 z)] 123)) := (Below.refl _ w1).alloc (Nat.le_refl _) _
      have hM2 := (h.kept hb).kept hw2
      have hvb : (w1.alloc (.cells #[Value.string x, (.int .i64 z)] 123)).heap[w1.heap.size]? = some (.cells [(Value.string x : Value), (.int .i64 z)].toArray 123 (0, 0)) := heap_alloc_new w1 _
      have := insE (w1.alloc (.cells #[Value.string x, (.int .i64 z)] 123)) (p + 1) l.length (rk ltT (keysL l) x) w1.heap.size (.slice a l.length cap) _ [(Value.string x : Value), (.int .i64 z)] hM2.row hle (by omega) (mvs_one _ (fun _ => rfl) l h.one) rfl (by intro q hq; simp at hq; rcases hq with rfl | rfl; rfl; rfl) hvb (fun e => by have := ((h.kept hb).row.lt _ e).2; omega) (by have := (h.kept hb).box.lt; simp; omega)
      rw [mvs_ins (fun x : ByteArray => (Value.string x : Value)) l _ (x, (.int .i64 z)), ← hput] at this
      exact this)
    clear hput hrise hm hle h
    obtain ⟨L', hL'⟩ : ∃ L', L' = mput ltT l x (.int .i64 z) := ⟨_, rfl⟩
    rw [← hL'] at HRI HON HLL ⊢
    simp only [← hL'] at HIN
    clear hL'
    generalize rk ltT (keysL l) x = r at *
    have HNE := Lib.hid HM.out.ne
    generalize hln : l.length = n at *
    have HLN := Lib.hid hln
    clear hln
    go_enter Try.func50, Try.ntmps50
    go_wp2_with fail
    refine HPL.out.mono ?_
    rintro e w1 ⟨rfl, hb⟩
    have hM1 := HM.out.kept hb
    have c1 := hM1.box.cell
    have HB := Lib.hid hb
    have HI1 := Lib.hid (HIN.out w1 hb)
    have HW2 : Hid (Below w1.heap.size w1 (w1.alloc (.cells #[Value.string x, (.int .i64 z)] 123))) := (Below.refl _ w1).alloc (Nat.le_refl _) _
    have HX1 := Lib.hid (hM1.kept HW2.out).box
    have HPS := Lib.hid hM1.box.lt
    clear hM1 hb HPL HIN
    go_wp2_with fail
    refine HI1.out.mono ?_
    rintro e w2 ⟨v', rfl, ho2, hg2, hat2⟩
    obtain ⟨a', cap', rfl, -⟩ := mrow_of_owns (l := L') ho2 HLL.out.symm
    have x2 := HX1.out.kept hg2 (fun e => HNE.out e.symm)
    have c2 := x2.cell
    have f2 := x2.frozen
    have HX2 := Lib.hid x2
    have HO2 := Lib.hid ho2
    have HG2 := Lib.hid hg2
    have HAT := Lib.hid hat2
    clear x2 ho2 hg2 hat2 c1 HI1 HX1
    go_wp2
    go_ret
    refine ⟨_, rfl, ⟨HX2.out.set _, ?_, HRI.out, HON.out⟩, (((StepX.of_below HB.out).trans (StepX.of_below HW2.out)).trans (SetB.row HG2.out)).trans (StepX.setCell w2 ⟨p, 0, none⟩ _ (.inl rfl)), fun g e => ?_⟩
    · have ho := HO2.out.kept (grownBy_setCell' w2 p (.slice a' L'.length cap')) (.inr (fun e => by
        rcases HAT.out with h | h
        · exact HNE.out (h ▸ e)
        · rw [h] at e; simp at e; have := HPS.out; omega))
      rw [← HLL.out] at ho
      exact ho
    · rcases HAT.out with h | h
      · exact .inl (.inr (h ▸ e))
      · right; rw [h] at e; simp at e; have := HB.out.size; omega
set_option maxRecDepth 100000 in
set_option maxHeartbeats 2000000 in
theorem dropMS (w : World) (p : Nat) (v : Value) (l : List (ByteArray × Value)) (h : MapS w p v l) (hn : l.length ≤ 900000) (x : ByteArray) :
    Calls Try.prog 51 #[.pointer (some ⟨p, 0, none⟩), Value.string x] w (MapTurnS w p v (memB (keysL l) x) (mdel ltT l x)) := by
  have HPL := Lib.hid (placeMS w p v l h (by omega) x)
  have hrise : Rise ltT (keysL (mdel ltT l x)) := by rw [mdel_keys]; exact delL_rise h.rise x
  have HRI := Lib.hid hrise
  have HON := Lib.hid (mdel_oneS h.one x)
  by_cases hm : x ∈ keysL l
  · have hlt := ((rk_mem ordT h.rise x).1 hm).1
    rw [keysL_len] at hlt
    have hput : mdel ltT l x = delAt l (rk ltT (keysL l) x) := if_pos hm
    rw [memB_true hm] at HPL ⊢
    obtain ⟨g, cap, rfl⟩ : ∃ g cap, v = .slice (some ⟨g, 0, none⟩) l.length cap := by
      rcases h.row.2 with ⟨_, e⟩ | ⟨g, cap, cur, e, _⟩
      · omega
      · exact ⟨g, cap, e⟩
    have HLL : Hid (l.length - 1 = (mdel ltT l x).length) := by have := delAt_len l _ hlt; show _ = _; rw [hput]; omega
    have HDE := Lib.hid (fun w1 (hb : Below w.heap.size w w1) => by
      have := delMS w1 (p + 1) l.length (rk ltT (keysL l) x) cap g l (h.kept hb).row rfl h.one hlt (by omega)
      rw [← hput] at this
      exact this)
    have HM := Lib.hid h
    have HNE := Lib.hid h.ne
    have e1 : IntKind.i64.wrap ((rk ltT (keysL l) x : Int) + 1) = (rk ltT (keysL l) x : Int) + 1 := IntWalk.i64_in _ (by omega)
    clear hput hrise hm hlt h
    obtain ⟨L', hL'⟩ : ∃ L', L' = mdel ltT l x := ⟨_, rfl⟩
    rw [← hL'] at HRI HON HLL ⊢
    simp only [← hL'] at HDE
    clear hL'
    generalize rk ltT (keysL l) x = r at *
    generalize hln : l.length = n at *
    have HLN := Lib.hid hln
    clear hln
    go_enter Try.func51, Try.ntmps51
    go_wp2_with fail
    refine HPL.out.mono ?_
    rintro e w1 ⟨rfl, hb⟩
    have hM1 := HM.out.kept hb
    have c1 := hM1.box.cell
    have HB := Lib.hid hb
    have HD1 := Lib.hid (HDE.out w1 hb)
    have HX1 := Lib.hid hM1.box
    clear hM1 hb HPL HDE
    go_wp2_with fail
    refine HD1.out.mono ?_
    rintro e w2 ⟨rfl, ho2, hg2⟩
    have x2 := HX1.out.kept hg2 (fun e => HNE.out e.symm)
    have c2 := x2.cell
    have f2 := x2.frozen
    have HX2 := Lib.hid x2
    have HO2 := Lib.hid ho2
    have HG2 := Lib.hid hg2
    clear x2 ho2 hg2 c1 HD1 HX1
    go_wp2
    go_ret
    refine ⟨_, rfl, ⟨HX2.out.set _, ?_, HRI.out, HON.out⟩, ((StepX.of_below HB.out).trans (SetB.row (v := .slice (some ⟨g, 0, none⟩) n cap) HG2.out)).trans (StepX.setCell w2 ⟨p, 0, none⟩ _ (.inl rfl)), fun g' e => .inl (.inr e)⟩
    rw [← HLL.out]
    exact HO2.out.kept (grownBy_setCell' w2 p _) (.inr HNE.out)
  · have hput : mdel ltT l x = l := if_neg hm
    rw [memB_false hm] at HPL ⊢
    rw [hput]
    have HM := Lib.hid h
    clear hput hrise hm h HRI HON
    generalize rk ltT (keysL l) x = r at *
    go_enter Try.func51, Try.ntmps51
    go_wp2_with fail
    refine HPL.out.mono ?_
    rintro e w1 ⟨rfl, hb⟩
    have HB := Lib.hid hb
    clear hb HPL
    go_wp2
    go_ret
    exact ⟨v, rfl, HM.out.kept HB.out, StepX.of_below HB.out, fun g e => .inl (.inr e)⟩
set_option maxRecDepth 100000 in
set_option maxHeartbeats 1000000 in
theorem delMI (w : World) (base n i cap g : Nat) (l : List (Int × Value)) (hown : w.ownsRow base 133 2 (.slice (some ⟨g, 0, none⟩) n cap) n (mvs (fun x : Int => (Value.int .i64 x : Value)) l)) (hl : l.length = n) (h1 : ∀ e ∈ l, e.2.oneCell' = true) (hi : i < n) (hn : n ≤ 1000000) :
    Calls Try.prog 97 #[.slice (some ⟨g, 0, none⟩) n cap, .int .i64 (i : Int), .int .i64 ((i : Int) + 1)] w fun e w' => e = .returned (.slice (some ⟨g, 0, none⟩) (n - 1) cap) ∧ w'.ownsRow base 133 2 (.slice (some ⟨g, 0, none⟩) (n - 1) cap) (n - 1) (mvs (fun x : Int => (Value.int .i64 x : Value)) (delAt l i)) ∧ w.grownBy w' (some g) := by
  obtain ⟨i0, hi0, hz0, hz1, hz2⟩ := info_parts info_eF
  obtain ⟨hb, hnc, hcm, f, hr, hf⟩ := owns_some hown
  have hml := mvs_len (fun x : Int => (Value.int .i64 x : Value)) l
  rw [hl] at hml
  have hmo := mvs_one (fun x : Int => (Value.int .i64 x : Value)) (fun _ => rfl) l h1
  have hmd := mvs_del (fun x : Int => (Value.int .i64 x : Value)) l i
  have hdl := delAt_len l i (by omega)
  obtain ⟨L, hL⟩ : ∃ L, L = mvs (fun x : Int => (Value.int .i64 x : Value)) l := ⟨_, rfl⟩
  rw [← hL] at hml hmo hmd hf
  obtain ⟨news, hnews⟩ : ∃ news, news = L.drop ((i + 1) * 2) := ⟨_, rfl⟩
  have hlen : news.length = (n - (i + 1)) * 2 := by rw [hnews, List.length_drop]; omega
  have hfs : ∀ j, j < n * 2 → w.cell? ⟨g, j, none⟩ = some (L.getD j undef) := fun j hj => by rw [hr.cell (by omega), hf j hj]
  obtain ⟨AD, hAD, hsrc⟩ : ∃ AD : Addr, (if cap = i + 1 then some (⟨g, 0, none⟩ : Addr) else some ⟨g, (i + 1) * 2, none⟩) = some AD ∧ Hid (∀ t u, news[t]? = some u → w.drew.cell? (AD.add t) = some u) := by
    have key : ∀ t u, news[t]? = some u → w.drew.cell? ⟨g, (i + 1) * 2 + t, none⟩ = some u := fun t u hu => by
      have ht : t < news.length := (List.getElem?_eq_some_iff.1 hu).1
      have := hfs ((i + 1) * 2 + t) (by omega)
      show w.cell? _ = _
      rw [this, hnews, List.getElem?_drop] at *
      rw [List.getD_eq_getElem?_getD, hu]; rfl
    by_cases h : cap = i + 1
    · refine ⟨⟨g, 0, none⟩, by simp [h], fun t u hu => ?_⟩
      have ht : t < news.length := (List.getElem?_eq_some_iff.1 hu).1
      omega
    · refine ⟨⟨g, (i + 1) * 2, none⟩, by simp [h], fun t u hu => ?_⟩
      rw [Addr.add_lit]
      exact key t u hu
  have s1 : Hid (news.length = (n - (i + 1)) * 2) := hlen
  have s2 : Hid (∀ u ∈ news, u.oneCell' = true) := fun u hu => hmo u (by rw [hnews] at hu; exact List.mem_of_mem_drop hu)
  have s3 : Hid (∀ t, t < news.length → (w.drew.cell? ⟨g, 0 + i * 2 + t, none⟩).isSome = true ∧ w.drew.frozen? ⟨g, 0 + i * 2 + t, none⟩ = false) := by
    intro t ht
    rw [hlen] at ht
    refine ⟨?_, hr.frozen _⟩
    show (w.cell? _).isSome = true
    rw [show 0 + i * 2 + t = i * 2 + t by omega, hfs _ (by omega)]; rfl
  obtain ⟨W1, hW1⟩ : ∃ W1, W1 = w.drew.setCells g (0 + i * 2) news := ⟨_, rfl⟩
  have hr1 := row_setCells news (0 + i * 2) _ _ (row_drewN hr 1)
  have hg1 : w.grownBy W1 (some g) := by rw [hW1]; exact gb_setCells g _ _ _ (gb_drewN (gb_refl _ _) 1)
  change (w.drew.setCells g (0 + i * 2) news).rowIs _ _ _ _ at hr1
  rw [← hW1] at hr1
  have hcl : ∀ ty, (Builtin.clear_ #[129] ty #[.slice (some ⟨g, (n - 1) * 2, none⟩) 1 (cap - (n - 1))]).run Try.prog W1 = .ok (.tuple #[]) (W1.setCells g ((n - 1) * 2) [Value.int .i64 (0 : Int), (Value.slice none 0 0)]) :=
    fun ty => run_clear_one W1 _ _ ty (.agg #[Value.int .i64 (0 : Int), (Value.slice none 0 0)]) _ _ Try.underlying129 (fun w => by kernel_rfl) rfl rfl rfl g _ _ (fun j hj => by rw [hr1.cell (by omega)]; rfl) (fun j hj => hr1.frozen _)
  have hr2 := row_setCells [Value.int .i64 (0 : Int), (Value.slice none 0 0)] ((n - 1) * 2) _ _ hr1
  have hg2 : w.grownBy (W1.setCells g ((n - 1) * 2) [Value.int .i64 (0 : Int), (Value.slice none 0 0)]) (some g) := gb_setCells g _ _ _ hg1
  have HFIN : Hid ((W1.setCells g ((n - 1) * 2) [Value.int .i64 (0 : Int), (Value.slice none 0 0)]).ownsRow base 133 2 (.slice (some ⟨g, 0, none⟩) (n - 1) cap) (n - 1) (mvs (fun x : Int => (Value.int .i64 x : Value)) (delAt l i)) ∧ w.grownBy (W1.setCells g ((n - 1) * 2) [Value.int .i64 (0 : Int), (Value.slice none 0 0)]) (some g)) := by
    refine ⟨owns_of hr2 hb (by omega) hcm (by rw [mvs_len]; omega) (fun j hj => ?_), hg2⟩
    have lt : (L.take (i * 2)).length = i * 2 := by rw [List.length_take]; omega
    rw [if_neg (by omega), ← hmd, getD_app, lt]
    by_cases h0 : j < i * 2
    · rw [if_neg (by omega), if_pos h0, hf j (by omega), getD_take _ _ _ _ h0]
    · rw [if_pos (by omega), if_neg h0, ← hnews]
      congr 1; omega
  have hW : Hid (W1 = w.drew.setCells g (0 + i * 2) news) := hW1
  have t1 : (i : Int) + 1 ≤ (n : Int) := by omega
  have t2 : (i : Int) ≤ (i : Int) + 1 := by omega
  have t3 : ((i : Int) == (i : Int) + 1) = false := beq_false_of_ne (by omega)
  have hnn : ((n : Int)) ≤ 1000000 := by omega
  have hsA := fun W => run_cutHm W 129 133 2 Try.underlying129 (fun w => by kernel_rfl) g n cap i (by omega)
  have hsB := fun W => run_cutLm W 129 133 2 Try.underlying129 (fun w => by kernel_rfl) g n cap (i + 1) (by omega) (by omega) (by omega)
  have hsC : Hid (∀ W, (Instr.slice 129 (.slice (some ⟨g, 0, none⟩) (n - 1) cap) (some (.int .i64 ((n - 1 : Nat) : Int))) (some (.int .i64 (n : Int))) none).run Try.prog W = .ok (.slice (some ⟨g, (n - 1) * 2, none⟩) 1 (cap - (n - 1))) W) := fun W => by
    have := run_cutMm W 129 133 2 Try.underlying129 (fun w => by kernel_rfl) g (n - 1) cap (n - 1) n (by omega) (by omega) (by omega)
    rwa [show n - (n - 1) = 1 by omega] at this
  rw [hAD] at hsB
  rw [show ((i + 1 : Nat) : Int) = (i : Int) + 1 by omega] at hsB
  clear hr hf hfs hlen hnews hmd hmo hml hL hown hr1 hg1 hr2 hg2 hdl hW1
  go_enter Try.func97, Try.ntmps97
  go_wp2_with fail
  go_region_law (refine step_append_room rfl _ _ 129 rfl 133 i0 2 Try.underlying129 hi0 hz1 g 0 i cap (by simp [Act.eval, Act.put]) AD (n - (i + 1)) (cap - (i + 1)) news (by simp [Act.eval, Act.put]) s1.out hsrc.out s2.out (by omega) s3.out ?_; rw [← hW.out])
  refine (show ∀ {Q : Exit → Act → World → Prop} {a w}, Q .normal a w → Q .normal a w from fun h => h) ?_
  go_frame
  rw [show i + (n - (i + 1)) = n - 1 by omega]
  have hsD := hsC.out
  clear hsA hsB
  generalize hm : n - 1 = m at *
  have HMM := Lib.hid hm
  clear hm
  go_wp2
  go_ret
  have hmm := HMM.out
  rw [hmm]
  exact ⟨rfl, HFIN.out.1, HFIN.out.2⟩
theorem mput_oneI {l : List (Int × Value)} (h : ∀ e ∈ l, e.2.oneCell' = true) (x : Int) (u : Value) (hu : u.oneCell' = true) : ∀ e ∈ mput ltI l x u, e.2.oneCell' = true := by
  intro e he
  unfold mput at he
  split at he
  · rcases List.mem_or_eq_of_mem_set he with h1 | h1
    · exact h e h1
    · subst h1; exact hu
  · unfold insAt at he
    rcases List.mem_append.1 he with h1 | h1
    · exact h e (List.mem_of_mem_take h1)
    · rcases List.mem_cons.1 h1 with h2 | h2
      · subst h2; exact hu
      · exact h e (List.mem_of_mem_drop h2)
theorem mdel_oneI {l : List (Int × Value)} (h : ∀ e ∈ l, e.2.oneCell' = true) (x : Int) : ∀ e ∈ mdel ltI l x, e.2.oneCell' = true := by
  intro e he
  unfold mdel at he
  split at he
  · unfold delAt at he
    rcases List.mem_append.1 he with h1 | h1
    · exact h e (List.mem_of_mem_take h1)
    · exact h e (List.mem_of_mem_drop h1)
  · exact h e he
/-- how a map is turned -/
def MapTurnI (w : World) (p : Nat) (v : Value) (b : Bool) (l : List (Int × Value)) (e : Ending) (w' : World) : Prop :=
  ∃ v', e = .returned (.bool b) ∧ MapI w' p v' l ∧ StepX (SetB p v) w w' ∧ (∀ g, v'.ownBlock = some g → SetB p v g ∨ w.heap.size ≤ g)
set_option maxRecDepth 100000 in
set_option maxHeartbeats 2000000 in
theorem putMI (w : World) (p : Nat) (v : Value) (l : List (Int × Value)) (h : MapI w p v l) (hn : l.length ≤ 900000) (x : Int) (ua : Option Addr) (un uc : Nat) :
    Calls Try.prog 58 #[.pointer (some ⟨p, 0, none⟩), Value.int .i64 x, (.slice ua un uc)] w (MapTurnI w p v (!memB (keysL l) x) (mput ltI l x (.slice ua un uc))) := by
  have HPL := Lib.hid (placeMI w p v l h (by omega) x)
  have hrise : Rise ltI (keysL (mput ltI l x (.slice ua un uc))) := by rw [mput_keys ordI h.rise]; exact putL_rise ordI h.rise x
  have HRI := Lib.hid hrise
  have HON := Lib.hid (mput_oneI h.one x (.slice ua un uc) rfl)
  by_cases hm : x ∈ keysL l
  · obtain ⟨hlt, hke⟩ := (rk_mem ordI h.rise x).1 hm
    have hlt2 := hlt
    rw [keysL_len] at hlt2
    have hput : mput ltI l x (.slice ua un uc) = l.set (rk ltI (keysL l) x) (x, (.slice ua un uc)) := if_pos hm
    rw [memB_true hm] at HPL ⊢
    obtain ⟨g, cap, rfl⟩ : ∃ g cap, v = .slice (some ⟨g, 0, none⟩) l.length cap := by
      rcases h.row.2 with ⟨_, e⟩ | ⟨g, cap, cur, e, _⟩
      · omega
      · exact ⟨g, cap, e⟩
    have hix := run_ixN (P := Try.prog) 129 2 (by kernel_rfl) (fun w => by kernel_rfl) (some ⟨g, 0, none⟩) l.length cap (.inr rfl)
    have hxk : ∀ W, (Instr.indexAt 129 (.slice (some ⟨g, 0, none⟩) l.length cap) (.int .i64 ((rk ltI (keysL l) x : Nat) : Int))).run Try.prog W = .ok (.pointer (some ⟨g, rk ltI (keysL l) x * 2, none⟩)) W := fun W => by
      have := hix W (rk ltI (keysL l) x) hlt2
      simpa [bOf, oOf] using this
    have hsl : (l.set (rk ltI (keysL l) x) (x, (.slice ua un uc))).length = l.length := List.length_set
    have hms : mvs (fun x : Int => (Value.int .i64 x : Value)) (mput ltI l x (.slice ua un uc)) = (mvs (fun x : Int => (Value.int .i64 x : Value)) l).set (rk ltI (keysL l) x * 2 + 1) (.slice ua un uc) := by
      rw [hput]
      refine mvs_set _ l _ x (.slice ua un uc) hlt2 (fun hr => ?_)
      exact (keys_get hlt hr).symm.trans hke
    have hpl : (mput ltI l x (.slice ua un uc)).length = l.length := by rw [hput, hsl]
    have HM := Lib.hid h
    have HMS := Lib.hid hms
    have HPN := Lib.hid hpl
    have HLT := Lib.hid hlt2
    have hn2 : l.length ≤ 900000 := hn
    clear hput hrise hm hlt hke hlt2 hix hsl hms hpl h
    obtain ⟨L', hL'⟩ : ∃ L', L' = mput ltI l x (.slice ua un uc) := ⟨_, rfl⟩
    rw [← hL'] at HRI HON HMS HPN ⊢
    clear hL'
    generalize rk ltI (keysL l) x = r at *
    go_enter Try.func58, Try.ntmps58
    go_wp2_with fail
    refine HPL.out.mono ?_
    rintro e w1 ⟨rfl, hb⟩
    have hM1 := HM.out.kept hb
    have c1 := hM1.box.cell
    obtain ⟨hb9, hnc, hcm, f, hr, hf⟩ := owns_some hM1.row
    have d1 := hr.cell (i := r * 2 + 1) (by have := HLT.out; omega)
    have f1 : w1.frozen? ⟨g, r * 2 + 1, none⟩ = false := hr.frozen _
    have hr2 := hr.set (r * 2 + 1) (.slice ua un uc)
    have HFIN : Hid (MapI (w1.setCell ⟨g, r * 2 + 1, none⟩ (.slice ua un uc)) p (.slice (some ⟨g, 0, none⟩) l.length cap) L' ∧ StepX (SetB p (.slice (some ⟨g, 0, none⟩) l.length cap)) w (w1.setCell ⟨g, r * 2 + 1, none⟩ (.slice ua un uc))) := by
      have hne := HM.out.ne
      have hgp : some p ≠ some g := fun e => hne e.symm
      have hgb : w1.grownBy (w1.setCell ⟨g, r * 2 + 1, none⟩ (.slice ua un uc)) (some g) := gb_setCells g [(.slice ua un uc)] (r * 2 + 1) w1 (gb_refl _ _)
      refine ⟨⟨hM1.box.kept hgb hgp, ?_, HRI.out, HON.out⟩, (StepX.of_below hb).trans (StepX.setCell w1 ⟨g, r * 2 + 1, none⟩ (.slice ua un uc) (.inr rfl))⟩
      rw [HPN.out, HMS.out]
      have hml := mvs_len (fun x : Int => (Value.int .i64 x : Value)) l
      refine owns_of hr2 hb9 hnc hcm (by rw [List.length_set, hml]) (fun j hj => ?_)
      rw [List.getD_eq_getElem?_getD, List.getElem?_set]
      by_cases e : j = r * 2 + 1
      · subst e
        rw [if_pos rfl, if_pos rfl, if_pos (by rw [hml]; exact hj)]; rfl
      · rw [if_neg e, if_neg (fun h => e h.symm), hf j hj, List.getD_eq_getElem?_getD]
    clear hM1 hb hb9 hnc hcm hr hf hr2 HPL HM
    clear HMS
    generalize f (r * 2 + 1) = old at *
    clear f
    generalize l.length = n at *
    go_wp2
    go_ret
    exact ⟨_, rfl, HFIN.out.1, HFIN.out.2, fun g' e => .inl (.inr e)⟩
  · have hput : mput ltI l x (.slice ua un uc) = insAt l (rk ltI (keysL l) x) (x, (.slice ua un uc)) := if_neg hm
    rw [memB_false hm] at HPL ⊢
    have hle := rk_le (lt := ltI) (keysL l) x
    rw [keysL_len] at hle
    obtain ⟨a, cap, rfl, -⟩ := mrow_of_owns h.row rfl
    have HM := Lib.hid h
    have HLL : Hid ((mput ltI l x (.slice ua un uc)).length = l.length + 1) := by show _ = _; rw [hput]; exact insAt_len _ _ _
    have HIN := Lib.hid (fun w1 (hb : Below w.heap.size w w1) => by
      have hw2 : Below w1.heap.size w1 (w1.alloc (.cells #[Value.int .i64 x, (.slice ua un uc)] 133)) := (Below.refl _ w1).alloc (Nat.le_refl _) _
      have hM2 := (h.kept hb).kept hw2
      have hvb : (w1.alloc (.cells #[Value.int .i64 x, (.slice ua un uc)] 133)).heap[w1.heap.size]? = some (.cells [(Value.int .i64 x : Value), (.slice ua un uc)].toArray 133 (0, 0)) := heap_alloc_new w1 _
      have := insF (w1.alloc (.cells #[Value.int .i64 x, (.slice ua un uc)] 133)) (p + 1) l.length (rk ltI (keysL l) x) w1.heap.size (.slice a l.length cap) _ [(Value.int .i64 x : Value), (.slice ua un uc)] hM2.row hle (by omega) (mvs_one _ (fun _ => rfl) l h.one) rfl (by intro q hq; simp at hq; rcases hq with rfl | rfl; rfl; rfl) hvb (fun e => by have := ((h.kept hb).row.lt _ e).2; omega) (by have := (h.kept hb).box.lt; simp; omega)
      rw [mvs_ins (fun x : Int => (Value.int .i64 x : Value)) l _ (x, (.slice ua un uc)), ← hput] at this
      exact this)
    clear hput hrise hm hle h
    obtain ⟨L', hL'⟩ : ∃ L', L' = mput ltI l x (.slice ua un uc) := ⟨_, rfl⟩
    rw [← hL'] at HRI HON HLL ⊢
    simp only [← hL'] at HIN
    clear hL'
    generalize rk ltI (keysL l) x = r at *
    have HNE := Lib.hid HM.out.ne
    generalize hln : l.length = n at *
    have HLN := Lib.hid hln
    clear hln
    go_enter Try.func58, Try.ntmps58
    go_wp2_with fail
    refine HPL.out.mono ?_
    rintro e w1 ⟨rfl, hb⟩
    have hM1 := HM.out.kept hb
    have c1 := hM1.box.cell
    have HB := Lib.hid hb
    have HI1 := Lib.hid (HIN.out w1 hb)
    have HW2 : Hid (Below w1.heap.size w1 (w1.alloc (.cells #[Value.int .i64 x, (.slice ua un uc)] 133))) := (Below.refl _ w1).alloc (Nat.le_refl _) _
    have HX1 := Lib.hid (hM1.kept HW2.out).box
    have HPS := Lib.hid hM1.box.lt
    clear hM1 hb HPL HIN
    go_wp2_with fail
    refine HI1.out.mono ?_
    rintro e w2 ⟨v', rfl, ho2, hg2, hat2⟩
    obtain ⟨a', cap', rfl, -⟩ := mrow_of_owns (l := L') ho2 HLL.out.symm
    have x2 := HX1.out.kept hg2 (fun e => HNE.out e.symm)
    have c2 := x2.cell
    have f2 := x2.frozen
    have HX2 := Lib.hid x2
    have HO2 := Lib.hid ho2
    have HG2 := Lib.hid hg2
    have HAT := Lib.hid hat2
    clear x2 ho2 hg2 hat2 c1 HI1 HX1
    go_wp2
    go_ret
    refine ⟨_, rfl, ⟨HX2.out.set _, ?_, HRI.out, HON.out⟩, (((StepX.of_below HB.out).trans (StepX.of_below HW2.out)).trans (SetB.row HG2.out)).trans (StepX.setCell w2 ⟨p, 0, none⟩ _ (.inl rfl)), fun g e => ?_⟩
    · have ho := HO2.out.kept (grownBy_setCell' w2 p (.slice a' L'.length cap')) (.inr (fun e => by
        rcases HAT.out with h | h
        · exact HNE.out (h ▸ e)
        · rw [h] at e; simp at e; have := HPS.out; omega))
      rw [← HLL.out] at ho
      exact ho
    · rcases HAT.out with h | h
      · exact .inl (.inr (h ▸ e))
      · right; rw [h] at e; simp at e; have := HB.out.size; omega
set_option maxRecDepth 100000 in
set_option maxHeartbeats 2000000 in
theorem dropMI (w : World) (p : Nat) (v : Value) (l : List (Int × Value)) (h : MapI w p v l) (hn : l.length ≤ 900000) (x : Int) :
    Calls Try.prog 60 #[.pointer (some ⟨p, 0, none⟩), Value.int .i64 x] w (MapTurnI w p v (memB (keysL l) x) (mdel ltI l x)) := by
  have HPL := Lib.hid (placeMI w p v l h (by omega) x)
  have hrise : Rise ltI (keysL (mdel ltI l x)) := by rw [mdel_keys]; exact delL_rise h.rise x
  have HRI := Lib.hid hrise
  have HON := Lib.hid (mdel_oneI h.one x)
  by_cases hm : x ∈ keysL l
  · have hlt := ((rk_mem ordI h.rise x).1 hm).1
    rw [keysL_len] at hlt
    have hput : mdel ltI l x = delAt l (rk ltI (keysL l) x) := if_pos hm
    rw [memB_true hm] at HPL ⊢
    obtain ⟨g, cap, rfl⟩ : ∃ g cap, v = .slice (some ⟨g, 0, none⟩) l.length cap := by
      rcases h.row.2 with ⟨_, e⟩ | ⟨g, cap, cur, e, _⟩
      · omega
      · exact ⟨g, cap, e⟩
    have HLL : Hid (l.length - 1 = (mdel ltI l x).length) := by have := delAt_len l _ hlt; show _ = _; rw [hput]; omega
    have HDE := Lib.hid (fun w1 (hb : Below w.heap.size w w1) => by
      have := delMI w1 (p + 1) l.length (rk ltI (keysL l) x) cap g l (h.kept hb).row rfl h.one hlt (by omega)
      rw [← hput] at this
      exact this)
    have HM := Lib.hid h
    have HNE := Lib.hid h.ne
    have e1 : IntKind.i64.wrap ((rk ltI (keysL l) x : Int) + 1) = (rk ltI (keysL l) x : Int) + 1 := IntWalk.i64_in _ (by omega)
    clear hput hrise hm hlt h
    obtain ⟨L', hL'⟩ : ∃ L', L' = mdel ltI l x := ⟨_, rfl⟩
    rw [← hL'] at HRI HON HLL ⊢
    simp only [← hL'] at HDE
    clear hL'
    generalize rk ltI (keysL l) x = r at *
    generalize hln : l.length = n at *
    have HLN := Lib.hid hln
    clear hln
    go_enter Try.func60, Try.ntmps60
    go_wp2_with fail
    refine HPL.out.mono ?_
    rintro e w1 ⟨rfl, hb⟩
    have hM1 := HM.out.kept hb
    have c1 := hM1.box.cell
    have HB := Lib.hid hb
    have HD1 := Lib.hid (HDE.out w1 hb)
    have HX1 := Lib.hid hM1.box
    clear hM1 hb HPL HDE
    go_wp2_with fail
    refine HD1.out.mono ?_
    rintro e w2 ⟨rfl, ho2, hg2⟩
    have x2 := HX1.out.kept hg2 (fun e => HNE.out e.symm)
    have c2 := x2.cell
    have f2 := x2.frozen
    have HX2 := Lib.hid x2
    have HO2 := Lib.hid ho2
    have HG2 := Lib.hid hg2
    clear x2 ho2 hg2 c1 HD1 HX1
    go_wp2
    go_ret
    refine ⟨_, rfl, ⟨HX2.out.set _, ?_, HRI.out, HON.out⟩, ((StepX.of_below HB.out).trans (SetB.row (v := .slice (some ⟨g, 0, none⟩) n cap) HG2.out)).trans (StepX.setCell w2 ⟨p, 0, none⟩ _ (.inl rfl)), fun g' e => .inl (.inr e)⟩
    rw [← HLL.out]
    exact HO2.out.kept (grownBy_setCell' w2 p _) (.inr HNE.out)
  · have hput : mdel ltI l x = l := if_neg hm
    rw [memB_false hm] at HPL ⊢
    rw [hput]
    have HM := Lib.hid h
    clear hput hrise hm h HRI HON
    generalize rk ltI (keysL l) x = r at *
    go_enter Try.func60, Try.ntmps60
    go_wp2_with fail
    refine HPL.out.mono ?_
    rintro e w1 ⟨rfl, hb⟩
    have HB := Lib.hid hb
    clear hb HPL
    go_wp2
    go_ret
    exact ⟨v, rfl, HM.out.kept HB.out, StepX.of_below HB.out, fun g e => .inl (.inr e)⟩
end Go.Proofs.Ytoifmfdaghmleaa
