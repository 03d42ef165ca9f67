/-
  Create: a file more, and its name.
  Create: the call.
-/
import Derived.Test.YtelndbjjkhlacaaDkLead
import Derived.Deep.DeepCutAuto
namespace Go.Proofs.Ytelndbjjkhlacaa
open Go.RowKit Go.Maps

theorem info_fileP : (Try.prog.info? 62).map (fun i => (i.zero, i.size, i.bytes)) = some (some (.pointer none), 1, 8) := by kernel_rfl
def createR (S : DSt) (s : ByteArray) (z : Int) (S' : DSt) : Prop := match fileOf S.names s with
  | some _ => z = 12 ∧ S' = S
  | none => if 64 ≤ size S.names then z = 65 ∧ S' = S
    else z = 0 ∧ ∃ fn, fn ∉ S.files ∧ S' = { S with files := S.files ++ [fn], fb := updN S.fb fn [], fl := updN S.fl fn 0, names := S.names.put (kl s) (enc fn), turns := S.turns ++ [⟨0, s, ByteArray.empty, some fn⟩] }
theorem createR_many {S : DSt} {s : ByteArray} (hf : fileOf S.names s = none) (hg : 64 ≤ size S.names) : createR S s 65 S := by
  unfold createR
  rw [hf]
  show (if 64 ≤ size S.names then (65 : Int) = 65 ∧ S = S else _)
  rw [if_pos hg]
  exact ⟨rfl, rfl⟩
theorem createR_new {S : DSt} {s : ByteArray} (hf : fileOf S.names s = none) (hg : size S.names < 64) (fn : Nat) (hn : fn ∉ S.files) : createR S s 0 { S with files := S.files ++ [fn], fb := updN S.fb fn [], fl := updN S.fl fn 0, names := S.names.put (kl s) (enc fn), turns := S.turns ++ [⟨0, s, ByteArray.empty, some fn⟩] } := by
  unfold createR
  rw [hf]
  show (if 64 ≤ size S.names then _ else (0 : Int) = 0 ∧ _)
  rw [if_neg (by omega)]
  exact ⟨rfl, fn, hn, rfl⟩
set_option maxRecDepth 100000 in
set_option maxHeartbeats 2000000 in
theorem create1_any (B : Nat) (W : World) (bd : Nat) (S : DSt) (A : Nat → Prop) (h : DiskAv B W bd S A) (hAl : ∀ b, A b → b < W.heap.size) (hok : DOk S) (hB : B ≤ W.heap.size) (s : ByteArray) (hs : s.size ≤ maxLen) (b0 b1 : Nat) (ha0 : A b0) (ha1 : A b1) (c0 : W.cell? ⟨b0, 0, none⟩ = some (.pointer (some ⟨bd, 0, none⟩))) (c1 : W.cell? ⟨b1, 0, none⟩ = some (.string s)) :
    Calls Try.prog 34 #[.pointer (some ⟨b0, 0, none⟩), .pointer (some ⟨b1, 0, none⟩)] W (DPost B A W bd (createR S s)) := by
  have HAL := Lib.hid hAl
  clear hAl
  have HA := Lib.hid h
  obtain ⟨ρ, vf, vt, bn, bl, V, hd, hav⟩ := h
  have HAA := Lib.hid hav
  have HAV := Lib.hid (And.intro (hav b0 ha0) (hav b1 ha1))
  have c7 : W.cell? ⟨bd, 7, none⟩ = some (.map (some bn)) := hd.head.cell (i := 7) (by omega)
  have hlk : ∀ q, (Instr.lookup 56 (.map (some bn)) (.string s) false).run Try.prog (W.drewN q) = .ok (pF (fileOf S.names s)) (W.drewN q) := fun q => (hd.names.of_block (w' := W.drewN q) rfl).look s hs
  have HD := Lib.hid hd
  have HOK := Lib.hid hok
  clear hd hok hav ha0 ha1
  cases hf : fileOf S.names s with
  | some f =>
    rw [hf] at hlk
    unfold pF at hlk
    simp only at hlk
    have HF := Lib.hid hf
    clear hf
    go_enter Try.func34, Try.ntmps34
    go_wp2_with fail
    go_quiet (fail)
    clear hlk c0 c1 c7
    go_wp2
    go_ret
    exact ⟨12, S, rfl, by unfold createR; rw [HF.out]; exact ⟨rfl, rfl⟩, HA.out.drewN _, below_drewN (Below.refl _ _) _, (KeepX.refl _ _).drewN _⟩
  | none =>
    rw [hf] at hlk
    unfold pF at hlk
    simp only at hlk
    have HF := Lib.hid hf
    have HLN := Lib.hid (fun q => show (W.drewN q).ownsMap Try.prog 9 fileR bn (size S.names) S.names from HD.out.names.of_block (w' := W.drewN q) rfl)
    clear hf
    by_cases g1 : 64 ≤ size S.names
    · have G1 := Lib.hid g1
      have t1 : (64 : Int) ≤ (size S.names : Int) := by omega
      go_enter Try.func34, Try.ntmps34
      go_upto_region 1 with fail
      go_quiet (fail)
      clear hlk c1
      go_wp2_with (first | (at_len; refine wpList_len_own _ rfl _ _ rfl _ _ Try.underlying56 fileR bn (size S.names) S.names rfl (HLN.out _) ?_) | fail)
      go_ret
      exact ⟨65, S, rfl, createR_many HF.out (by have := G1.out; omega), HA.out.drewN _, below_drewN (Below.refl _ _) _, (KeepX.refl _ _).drewN _⟩
    · have G1 := Lib.hid g1
      have t1 : decide ((64 : Int) ≤ (size S.names : Int)) = false := by simp; omega
      have l0 := World.block_lt_of_cell? W _ c0
      have l1 := World.block_lt_of_cell? W _ c1
      simp only at l0 l1
      have HX : Hid (∀ w5, Below W.heap.size W w5 → w5.cell? ⟨b0, 0, none⟩ = some (.pointer (some ⟨bd, 0, none⟩)) ∧ w5.cell? ⟨b1, 0, none⟩ = some (.string s)) := fun w5 hb =>
        ⟨(hb.cell (p := ⟨b0, 0, none⟩) l0).trans c0, (hb.cell (p := ⟨b1, 0, none⟩) l1).trans c1⟩
      go_enter Try.func34, Try.ntmps34
      go_upto_region 1 with fail
      go_quiet (fail)
      clear hlk
      go_upto_region 6 with (first | (at_len; refine wpList_len_own _ rfl _ _ rfl _ _ Try.underlying56 fileR bn (size S.names) S.names rfl (HLN.out _) ?_) | fail)
      have hwa : Below W.heap.size W ((W.drewN nq).alloc (.cells #[.slice none 0 0, .int .i64 0] 64)) := (below_drewN (Below.refl _ W) nq).alloc (Nat.le_refl _) _
      have hra : ((W.drewN nq).alloc (.cells #[.slice none 0 0, .int .i64 0] 64)).rowIs W.heap.size 64 2 (fileV (.slice none 0 0) 0) := World.rowIs_alloc (W.drewN nq) #[.slice none 0 0, .int .i64 0] 64 _ (by
        intro i hi
        match i, hi with
        | 0, _ => rfl
        | 1, _ => rfl)
      have hsa : ((W.drewN nq).alloc (.cells #[.slice none 0 0, .int .i64 0] 64)).heap.size = W.heap.size + 1 := by simp
      generalize (W.drewN nq).alloc (.cells #[.slice none 0 0, .int .i64 0] 64) = WA at *
      obtain ⟨af, cf, hvf⟩ := owns_slice HD.out.files
      subst hvf
      have HAT := HD.out
      have hwa2 : Below W.heap.size W (WA.drew.alloc (.cells #[ptrB W.heap.size] 62)) := (hwa.drew).alloc (by show W.heap.size ≤ WA.heap.size; omega) _
      obtain ⟨i0, hi0, hz0, hz1, hz2⟩ := info_parts info_fileP
      have hdt := HD.out.below hwa2
      obtain ⟨v', w3, hrun, hown', hgrow, hiff, hat⟩ := run_append_own_at (P := Try.prog) (WA.drew.alloc (.cells #[ptrB W.heap.size] 62)) B 57 57 62 i0 _ 1 8 Try.underlying57 hi0 hz0 hz1 hz2 rfl (by decide) _ _ _ hdt.files ⟨WA.heap.size, 0, none⟩ 1 1 [ptrB W.heap.size] rfl (cell_one_new WA.drew _ _) (by simp [Value.oneCell']) (by have := HOK.out.many.1; simp only [maxLen]; omega) (by have := HOK.out.many.1; omega) (by simp; omega)
      clear hiff
      obtain ⟨a3, cap3, rfl⟩ := owns_slice hown'
      have hnb : some bd ≠ (Value.slice af S.files.length cf).ownBlock := fun e => by have := HD.out.rf bd e.symm; rw [HD.out.rd] at this; cases this
      have hh3 := row_gb hdt.head hgrow hnb
      have x6 : w3.cell? ⟨bd, 6, none⟩ = some (.slice af S.files.length cf) := hh3.cell (i := 6) (by omega)
      have y6 : WA.cell? ⟨bd, 6, none⟩ = some (.slice af S.files.length cf) := (hwa.cell (p := ⟨bd, 6, none⟩) HD.out.lt).trans (HD.out.head.cell (i := 6) (by omega))
      have y6a : (WA.alloc (.cells #[.pointer (some ⟨W.heap.size, 0, none⟩)] 62)).cell? ⟨bd, 6, none⟩ = some (.slice af S.files.length cf) := hdt.head.cell (i := 6) (by omega)
      have f6 := hh3.frozen 6
      obtain ⟨k0, k1⟩ := HX.out WA hwa
      have hgl : ∀ g, (Value.slice af S.files.length cf).ownBlock = some g → g < W.heap.size := fun g hg => (HD.out.files.lt g hg).2
      have hk3 : KeepX (fun b => b ≠ bd ∧ some b ≠ (Value.slice af S.files.length cf).ownBlock) W w3 := (KeepX.of_below hwa2).trans (KeepX.gb hgrow (fun r e h => h.2 e.symm))
      have hks : KeepX (fun b => b ≠ bd) w3 (w3.setCell ⟨bd, 6, none⟩ (.slice a3 (S.files.length + 1) cap3)) := KeepX.setCell w3 ⟨bd, 6, none⟩ _ (fun h => h rfl)
      have hk4 : KeepX (fun b => b ≠ bd ∧ some b ≠ (Value.slice af S.files.length cf).ownBlock) W (w3.setCell ⟨bd, 6, none⟩ (.slice a3 (S.files.length + 1) cap3)) := hk3.trans (hks.mono fun b _ h => h.1)
      have hsz4 : (w3.setCell ⟨bd, 6, none⟩ (.slice a3 (S.files.length + 1) cap3)).heap.size = w3.heap.size := by simp [World.setCell]
      have hat2 : ∀ g, (Value.slice a3 (S.files.length + 1) cap3).ownBlock = some g → (Value.slice af S.files.length cf).ownBlock = some g ∨ (W.heap.size ≤ g ∧ g < w3.heap.size ∧ g ≠ W.heap.size) := fun g hg => by
        have hlt := (hown'.lt g hg).2
        rcases hat with h | h
        · exact .inl (by rw [← h]; exact hg)
        · rw [hg] at h
          have : g = WA.heap.size + 1 := by have := Option.some.inj h; rw [this]; simp
          exact .inr ⟨by omega, hlt, by omega⟩
      have hnbd : ∀ g, (Value.slice a3 (S.files.length + 1) cap3).ownBlock = some g → g ≠ bd := fun g hg e => by
        subst e
        rcases hat2 g hg with h1 | h1
        · exact hnb h1.symm
        · have := HD.out.lt; omega
      obtain ⟨ρ4, hd4, ho4⟩ := HD.out.addFile (w' := w3.setCell ⟨bd, 6, none⟩ (.slice a3 (S.files.length + 1) cap3)) W.heap.size (Nat.le_refl _) (.slice a3 (S.files.length + 1) cap3) hk4
        (rowIs_keepX (row_gb ((show WA.drew.rowIs W.heap.size 64 2 (fileV (.slice none 0 0) 0) from hra).alloc (.cells #[ptrB W.heap.size] 62)) hgrow (fun e => by have := hgl _ e.symm; omega)) hks (by have := HD.out.lt; omega))
        ((hh3.set 6 _).congr (ten rfl rfl rfl rfl rfl rfl rfl rfl rfl rfl))
        (by
          have := owns_keepX hown' hks hnbd
          rw [List.length_append, List.length_singleton, List.map_append, List.map_singleton]
          exact this)
        (fun g hg => (hat2 g hg).imp id (fun h => ⟨h.1, by rw [hsz4]; exact h.2.1, h.2.2⟩))
      have HD4 := Lib.hid hd4
      have HO4 := Lib.hid ho4
      clear ho4
      have HK4 := Lib.hid hk4
      have HB4 : Hid (Below B W (w3.setCell ⟨bd, 6, none⟩ (.slice a3 (S.files.length + 1) cap3))) := by
        have h1 : Below B W w3 := (hwa2.mono hB).grown hgrow (by have := hwa2.size; omega) (fun k hk => (HD.out.base k (by rw [HD.out.rf k hk]; simp)).1)
        exact h1.setCell (p := ⟨bd, 6, none⟩) HD.out.ge _
      have HRUN := Lib.hid hrun
      have hbo : b0 ≠ bd ∧ some b0 ≠ (Value.slice af S.files.length cf).ownBlock := ⟨fun e => (by have := HAV.out.1; rw [e, HD.out.rd] at this; cases this), fun e => (by have := HD.out.rf b0 e.symm; rw [HAV.out.1] at this; cases this)⟩
      have hb1 : b1 ≠ bd ∧ some b1 ≠ (Value.slice af S.files.length cf).ownBlock := ⟨fun e => (by have := HAV.out.2; rw [e, HD.out.rd] at this; cases this), fun e => (by have := HD.out.rf b1 e.symm; rw [HAV.out.2] at this; cases this)⟩
      have k0a : (WA.alloc (.cells #[.pointer (some ⟨W.heap.size, 0, none⟩)] 62)).cell? ⟨b0, 0, none⟩ = some (.pointer (some ⟨bd, 0, none⟩)) := (HX.out _ hwa2).1
      have k0b : w3.cell? ⟨b0, 0, none⟩ = some (.pointer (some ⟨bd, 0, none⟩)) := (World.cell?_of_block (a := ⟨b0, 0, none⟩) (hk3.block b0 l0 hbo)).trans c0
      have m0 : (w3.setCell ⟨bd, 6, none⟩ (.slice a3 (S.files.length + 1) cap3)).cell? ⟨b0, 0, none⟩ = some (.pointer (some ⟨bd, 0, none⟩)) := (World.cell?_of_block (a := ⟨b0, 0, none⟩) (hk4.block b0 l0 hbo)).trans c0
      have m1 : (w3.setCell ⟨bd, 6, none⟩ (.slice a3 (S.files.length + 1) cap3)).cell? ⟨b1, 0, none⟩ = some (.string s) := (World.cell?_of_block (a := ⟨b1, 0, none⟩) (hk4.block b1 l1 hb1)).trans c1
      have HM0 := Lib.hid m0
      have HM1 := Lib.hid m1
      have hz4 : W.heap.size < (w3.setCell ⟨bd, 6, none⟩ (.slice a3 (S.files.length + 1) cap3)).heap.size := by
        rw [hsz4]
        have h1 := hk3.size
        have h2 := hgrow.size
        simp only [World.size_alloc] at h2
        have : WA.drew.heap.size = WA.heap.size := rfl
        omega
      clear hd4 hk4 hk3 hks hrun hown' hgrow hat hat2 hnbd hh3 hdt hwa2 hwa hra hsa hgl hnb m0 m1 hbo hb1 c0 c1 c7 hsz4 HAT HX HLN
      clear hi0 hz0 hz1 hz2 g1
      go_cut [] (fun wx => wx = w3.setCell ⟨bd, 6, none⟩ (.slice a3 (S.files.length + 1) cap3))
      case first =>
        go_region_law ((with_reducible refine step_append_run rfl _ _ _ rfl HRUN.out rfl rfl ?_))
        all_goals
          go_wp2_with fail
          go_meet
          exact rfl
      case rest =>
        subst hcut
        have hne0 : b0 ≠ bn := fun e => (by have := HAV.out.1; rw [e, HD.out.rn] at this; cases this)
        have hne1 : b1 ≠ bn := fun e => (by have := HAV.out.2; rw [e, HD.out.rn] at this; cases this)
        clear HRUN HK4 x6 y6 y6a f6 k0 k1 k0a k0b
        generalize w3.setCell ⟨bd, 6, none⟩ (.slice a3 (S.files.length + 1) cap3) = W4 at *
        obtain ⟨w5, hput, hd5, hb5, hk5⟩ := (HD4.out.below ((Below.refl _ W4).drew)).name_put (by have := HOK.out.small.1; simp only [maxLen]; show size S.names < _; omega) s hs W.heap.size
        have m0 := HM0.out
        have m1 := HM1.out
        have m7 : W4.cell? ⟨bd, 7, none⟩ = some (.map (some bn)) := HD4.out.head.cell (i := 7) (by omega)
        have q0 : w5.cell? ⟨b0, 0, none⟩ = some (.pointer (some ⟨bd, 0, none⟩)) := (World.cell?_of_block (a := ⟨b0, 0, none⟩) (hk5.block b0 (World.block_lt_of_cell? W4 _ m0) hne0)).trans m0
        have q1 : w5.cell? ⟨b1, 0, none⟩ = some (.string s) := (World.cell?_of_block (a := ⟨b1, 0, none⟩) (hk5.block b1 (World.block_lt_of_cell? W4 _ m1) hne1)).trans m1
        have HD5 := Lib.hid hd5
        have HO5 := Lib.hid (HO4.out.trans ((Out.below ((Below.refl _ W4).drew)).trans (Out.same hk5 (fun b h0 e => by rw [e, HD4.out.rn] at h0; cases h0))))
        have HB5 := Lib.hid (HB4.out.trans ((Below.refl B W4).drew.trans hb5))
        have HQ0 := Lib.hid q0
        have HQ1 := Lib.hid q1
        clear hd5 hb5 hk5 q0 q1 hne0 hne1
        go_upto_region 8 with (go_region)
        clear m0 m1 m7 hput HM0 HM1
        have hz5 : (w5.drew).heap.size = w5.heap.size := rfl
        obtain ⟨at', ct, hvt⟩ := owns_slice HD5.out.turns
        subst hvt
        have hd6 := HD5.out.below ((Below.refl _ w5).drew)
        obtain ⟨a6, cap6, w6, hrun, hh6, ⟨ρ6, hd7, ho7⟩, hb7, hk7⟩ := hd6.turn_append HOK.out.many.2 (by have := HB5.out.size; rw [hz5]; omega) ⟨0, s, ByteArray.empty, some W.heap.size⟩
        have y9 : w5.cell? ⟨bd, 9, none⟩ = some (.slice at' S.turns.length ct) := HD5.out.head.cell (i := 9) (by omega)
        have x9 : w6.cell? ⟨bd, 9, none⟩ = some (.slice at' S.turns.length ct) := hh6.cell (i := 9) (by omega)
        have f9 := hh6.frozen 9
        have HRUN := Lib.hid hrun
        have HD7 := Lib.hid hd7
        have HO7 := Lib.hid ((HO5.out.trans (Out.below ((Below.refl _ w5).drew))).trans ho7)
        clear ho7
        have HB7 := Lib.hid ((HB5.out.drew).trans hb7)
        have q0 := HQ0.out
        have q1 := HQ1.out
        have hno : b0 ≠ bd ∧ some b0 ≠ (Value.slice at' S.turns.length ct).ownBlock := ⟨fun e => (by have := HAV.out.1; rw [e, HD.out.rd] at this; cases this), fun e => (by have := HD.out.rt b0 e.symm; rw [HAV.out.1] at this; cases this)⟩
        have q0b : w6.cell? ⟨b0, 0, none⟩ = some (.pointer (some ⟨bd, 0, none⟩)) := (World.cell?_of_block (a := ⟨b0, 0, none⟩) (hk7.block b0 (World.block_lt_of_cell? w5 _ q0) hno)).trans q0
        have hba : Below w5.heap.size w5 (w5.alloc (.cells #[.int .i64 0, .string s, .string ⟨#[]⟩, .pointer (some ⟨W.heap.size, 0, none⟩)] 66)) := (Below.refl _ w5).alloc (Nat.le_refl _) _
        have y9a := (hba.cell (p := ⟨bd, 9, none⟩) (World.block_lt_of_cell? w5 _ y9)).trans y9
        have q0a := (hba.cell (p := ⟨b0, 0, none⟩) (World.block_lt_of_cell? w5 _ q0)).trans q0
        clear hrun hd7 hb7 hd6 hh6 hno hk7 hba
        simp only [turnC, pF, hz5] at HRUN
        go_cut [] (fun wx => wx = w6.setCell ⟨bd, 9, none⟩ (.slice a6 (S.turns.length + 1) cap6))
        case first =>
          go_region_law ((with_reducible refine step_append_run rfl _ _ _ rfl HRUN.out rfl rfl ?_))
          all_goals
            go_wp2_with fail
            go_meet
            exact rfl
        case rest =>
          subst hcut
          clear HRUN x9 y9 f9 q0a q0b y9a q0 q1
          go_wp2
          go_ret
          exact ⟨0, _, rfl, createR_new HF.out (by have := G1.out; omega) W.heap.size (fun hm => by have := HD.out.file_lt hm; omega), ⟨ρ6, _, _, _, _, _, HD7.out, fun b hb => HO7.out.role b (HAL.out b hb) (HAA.out b hb)⟩, HB7.out, HO7.out.keep.mono fun b _ hb => HAA.out b hb⟩
end Go.Proofs.Ytelndbjjkhlacaa
namespace Go.Proofs.Ytelndbjjkhlacaa
open Go.RowKit Go.Maps

def createRR (S : DSt) (s : ByteArray) (z : Int) (S' : DSt) : Prop := if okN s = true then createR { S with calls := S.calls + 1 } s z S' else z = 10 ∧ S' = S
set_option maxRecDepth 100000 in
set_option maxHeartbeats 1000000 in
theorem create_any (B : Nat) (w : World) (bd : Nat) (S : DSt) (A : Nat → Prop) (h : DiskAv B w bd S A) (hAl : ∀ b, A b → b < w.heap.size) (hok : DOk S) (h1 : S.dead = false) (h2 : S.stop ≤ 0) (h3 : S.fail ≤ 0) (hB : B ≤ w.heap.size) (hc : S.calls < 100000) (s : ByteArray) (hs : s.size ≤ maxLen) :
    Calls Try.prog 14 #[.pointer (some ⟨bd, 0, none⟩), .string s] w (DPost B A w bd (createRR S s)) := by
  have hbl : bd < w.heap.size := by obtain ⟨ρ, vf, vt, bn, bl, V, hd, _⟩ := h; exact hd.lt
  have B0 := Boxed.new w 22 (.pointer (some ⟨bd, 0, none⟩))
  have B1 := Boxed.new (w.alloc (.cells #[.pointer (some ⟨bd, 0, none⟩)] 22)) 9 (.string s)
  simp only [World.size_alloc] at B1
  have B0' := B0.alloc (.cells #[.string s] 9)
  have hb2 : Below w.heap.size w ((w.alloc (.cells #[.pointer (some ⟨bd, 0, none⟩)] 22)).alloc (.cells #[.string s] 9)) := ((Below.refl _ w).alloc (Nat.le_refl _) _).alloc (by simp) _
  have hsz : ((w.alloc (.cells #[.pointer (some ⟨bd, 0, none⟩)] 22)).alloc (.cells #[.string s] 9)).heap.size = w.heap.size + 2 := by simp
  have HNM := Lib.hid (name_any ((w.alloc (.cells #[.pointer (some ⟨bd, 0, none⟩)] 22)).alloc (.cells #[.string s] 9)) s hs)
  have HDB := Lib.hid (h.below hb2)
  have HC := Lib.hid (fun q => call_create B (((w.alloc (.cells #[.pointer (some ⟨bd, 0, none⟩)] 22)).alloc (.cells #[.string s] 9)).drewN q) bd S (fun b => A b ∨ (b = w.heap.size ∨ b = w.heap.size + 1)) ((h.avoid hb2 (fun b => b = w.heap.size ∨ b = w.heap.size + 1) (fun b hb => by omega)).drewN q) hok h1 h2 h3 (by have e : ((((w.alloc (.cells #[.pointer (some ⟨bd, 0, none⟩)] 22)).alloc (.cells #[.string s] 9)).drewN q)).heap.size = w.heap.size + 2 := hsz; omega) #[.pointer (some ⟨w.heap.size, 0, none⟩), .pointer (some ⟨w.heap.size + 1, 0, none⟩)] (createR { S with calls := S.calls + 1 } s) (fun W hW hu =>
    create1_any B W bd { S with calls := S.calls + 1 } _ hW (fun b hb => by have := hu.keep.size; change _ ≤ W.heap.size at this; have e : ((((w.alloc (.cells #[.pointer (some ⟨bd, 0, none⟩)] 22)).alloc (.cells #[.string s] 9)).drewN q)).heap.size = w.heap.size + 2 := hsz; rcases hb with hb | hb; have := hAl b hb; omega; omega) (hok.call hc) (by have := hu.keep.size; change _ ≤ W.heap.size at this; have e : ((((w.alloc (.cells #[.pointer (some ⟨bd, 0, none⟩)] 22)).alloc (.cells #[.string s] 9)).drewN q)).heap.size = w.heap.size + 2 := hsz; omega) s hs _ _ (.inr (.inl rfl)) (.inr (.inr rfl)) (hu.cell (p := ⟨w.heap.size, 0, none⟩) B0'.cell (by show w.heap.size ≠ bd; omega)) (hu.cell (p := ⟨w.heap.size + 1, 0, none⟩) B1.cell (by show w.heap.size + 1 ≠ bd; omega))))
  have HB2 := Lib.hid hb2
  clear h hAl hok h1 h2 h3 hb2 B0 B1 B0' hsz
  unfold createRR
  cases hk : okN s with
  | false =>
    rw [hk] at HNM
    clear hk HC
    go_enter Try.func14, Try.ntmps14
    go_wp2_with fail
    refine HNM.out.mono ?_
    rintro e w' ⟨rfl, j, rfl⟩
    clear HNM
    go_wp2
    go_ret
    exact ⟨10, S, rfl, ⟨rfl, rfl⟩, HDB.out.drewN j, below_drewN (HB2.out.mono hB) j, (KeepX.of_below HB2.out).drewN j⟩
  | true =>
    rw [hk] at HNM
    clear hk
    go_enter Try.func14, Try.ntmps14
    go_wp2_with fail
    refine HNM.out.mono ?_
    rintro e w' ⟨rfl, j, rfl⟩
    clear HNM
    go_wp2_with fail
    refine (HC.out j).mono ?_
    rintro e w4 ⟨z, S2, rfl, hR, hd2, hb4, hk4⟩
    have HK4 := Lib.hid (hk4.mono fun b _ (hb : A b) => .inl hb)
    have HR := Lib.hid hR
    have HD2 := Lib.hid (hd2.mono fun b (hb : A b) => .inl hb)
    have HB4 := Lib.hid hb4
    clear hR hd2 hb4 hk4 HC
    go_wp2
    go_ret
    exact ⟨z, S2, rfl, HR.out, HD2.out, (below_drewN (HB2.out.mono hB) j).trans HB4.out, ((KeepX.of_below HB2.out).drewN j).trans HK4.out⟩
end Go.Proofs.Ytelndbjjkhlacaa
