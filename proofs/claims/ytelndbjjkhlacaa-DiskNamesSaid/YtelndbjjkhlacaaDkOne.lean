/-
  Bytes of the disk's statements; strings cut, put together, turned to bytes; what is read of one file; a disk with one file, under one name.
-/
import Derived.Test.YtelndbjjkhlacaaDkAwake
import Derived.Test.YtelndbjjkhlacaaDkMoved
import Derived.Test.YtelndbjjkhlacaaRowCap
import Derived.OpenShut
namespace Go.Proofs.Ytelndbjjkhlacaa
open Go.RowKit Go.Maps

def bysL (n long : Nat) : List Nat := (List.range long).map fun i => (n + 3 * i) % 256
theorem bysL_len (n long : Nat) : (bysL n long).length = long := by simp [bysL]
theorem bysL_byte (n long : Nat) : ∀ c ∈ bysL n long, c < 256 := by
  intro c hc
  obtain ⟨i, _, rfl⟩ := List.mem_map.1 hc
  exact Nat.mod_lt _ (by omega)
theorem bysL_at (n long k : Nat) (h : k < long) : (bysL n long).getD k 0 = (n + 3 * k) % 256 := by simp [bysL, List.getD_eq_getElem?_getD, h]
attribute [irreducible] bysL
theorem info_u84 : (Try.prog.info? 5).map (fun i => (i.zero, i.size, i.bytes)) = some (some (.int .u8 0), 1, 1) := by kernel_rfl
theorem size_u84 (w : World) : (sizeOf (Try.prog.elem 28)).run Try.prog w = .ok 1 w := by kernel_rfl
theorem make_u84 (N : Nat) (h : N ≤ 1000000) : ∀ W : World, (Instr.makeSlice 28 (.int .i64 (N : Int)) (.int .i64 (N : Int))).run Try.prog W = .ok (.slice (some ⟨W.heap.size, 0, none⟩) N N) (W.alloc (.cells (madeCells #[.int .u8 0] N) 5)) := by
  intro W
  obtain ⟨i0, hi, hz0, hz1, hz2⟩ := info_parts info_u84
  have := run_make (P := Try.prog) W 28 5 i0 _ Try.underlying28 hi hz0 .i64 .i64 N N (by omega) (by omega) (by rw [hz2]; omega) (by omega)
  rw [hz1] at this
  simpa [Value.cells] using this
set_option maxRecDepth 100000 in
set_option maxHeartbeats 1000000 in
theorem bytes4_any (w : World) (n long : Nat) (hn : n ≤ 1000) (hl : long ≤ 2000) :
    Calls Try.prog 13 #[.int .i64 (n : Int), .int .i64 (long : Int)] w fun e w' => e = .returned (.string (sB (bysL n long))) ∧ Below w.heap.size w w' := by
  have hmk := make_u84 long (by omega)
  have HM0 := Lib.hid (World.rowIs_made w (.int .u8 0) long 5)
  have hB0 : Below w.heap.size w (w.alloc (.cells (madeCells #[.int .u8 0] long) 5)) := (Below.refl _ w).alloc (Nat.le_refl _) _
  have HB0 := Lib.hid hB0
  have hiy := run_ix (P := Try.prog) 28 (by kernel_rfl) size_u84 (some ⟨w.heap.size, 0, none⟩) long long (.inr rfl) .i64
  simp only [bOf, oOf, Option.map_some, Option.getD_some, Nat.zero_add] at hiy
  have HIY := Lib.hid hiy
  clear hB0 hiy
  go_enter Try.func13, Try.ntmps13
  go_wp2
  clear hmk
  go_loopw [6, 11] (fun _ v11 wr => ∃ i : Nat, i ≤ long ∧ v11 = .int .i64 (i : Int) ∧ wr.rowIs w.heap.size 5 long (fun j => if j < i then .int .u8 (((n + 3 * j) % 256 : Nat) : Int) else .int .u8 0) ∧ Below w.heap.size w wr) (fun _ v11 _ => long - (intOf v11).toNat)
  case atStart => exact ⟨0, Nat.zero_le _, rfl, HM0.out.congr fun j _ => by simp, HB0.out⟩
  case round =>
    obtain ⟨i, hi, rfl, hrow, hbel⟩ := hrel
    have HROW := Lib.hid hrow
    have HBL := Lib.hid hbel
    by_cases hlt : i < long
    · have d2 := hrow.cell (i := i) hlt
      rw [if_neg (by omega)] at d2
      have d3 := hrow.frozen i
      have hy := fun W => HIY.out W i hlt
      have y1 : IntKind.i64.wrap (3 * (i : Int)) = ((3 * i : Nat) : Int) := by rw [show (3 : Int) * (i : Int) = ((3 * i : Nat) : Int) by omega]; exact IntWalk.i64_in _ (by omega)
      have y2 : IntKind.i64.wrap ((n : Int) + ((3 * i : Nat) : Int)) = ((n + 3 * i : Nat) : Int) := by rw [show (n : Int) + ((3 * i : Nat) : Int) = ((n + 3 * i : Nat) : Int) by omega]; exact IntWalk.i64_in _ (by omega)
      obtain ⟨m3, hm3⟩ : ∃ m3, m3 = 3 * i := ⟨_, rfl⟩
      rw [← hm3] at y1 y2
      obtain ⟨m4, hm4⟩ : ∃ m4, m4 = n + m3 := ⟨_, rfl⟩
      rw [← hm4] at y2
      have y3 : IntKind.u8.wrap (m4 : Int) = ((m4 % 256 : Nat) : Int) := by
        show (m4 : Int) % 256 = _
        omega
      obtain ⟨m5, hm5⟩ : ∃ m5, m5 = m4 % 256 := ⟨_, rfl⟩
      rw [← hm5] at y3
      have HMM : Hid (m5 = (n + 3 * i) % 256) := by show _ = _; rw [hm5, hm4, hm3]
      clear hrow hbel hm3 hm4 hm5
      go_wp2
      go_roundw
      case rel => exact ⟨i + 1, by omega, by go_num, (HROW.out.set i _).congr fun j hj => by
        by_cases ej : j = i
        · subst ej; rw [if_pos rfl, if_pos (by omega), ← HMM.out]
        · rw [if_neg ej]
          by_cases e2 : j < i
          · rw [if_pos e2, if_pos (by omega)]
          · rw [if_neg e2, if_neg (by omega)], HBL.out.setCell (p := ⟨w.heap.size, i, none⟩) (Nat.le_refl _) _⟩
      case measure => simp [intOf]; omega
    · obtain rfl : i = long := by omega
      have hrw : Row wr (some ⟨w.heap.size, 0, none⟩) (bysL n i).length (byteV (bysL n i)) := (Row.of_row (m := i) hrow (Nat.le_refl _)).congr (fun k hk => by
        unfold byteV
        rw [if_pos hk, bysL_at n i k hk]) |>.take (by rw [bysL_len]; exact Nat.le_refl _)
      have hcv := conv_str wr (some ⟨w.heap.size, 0, none⟩) (bysL n i) i hrw
      rw [bysL_len] at hcv
      clear hrow hbel hrw HROW hlt hi
      go_wp2
      go_ret
      exact ⟨rfl, HBL.out⟩
theorem sB_cut (d : List Nat) (k m : Nat) : (sB d).extract k (k + m) = sB ((d.drop k).take m) := by
  unfold sB
  apply ByteArray.ext
  rw [ByteArray.data_extract]
  apply Array.ext'
  simp [List.map_take, List.map_drop]
theorem sB_take (d : List Nat) (k : Nat) : (sB d).extract 0 k = sB (d.take k) := by
  have := sB_cut d 0 k
  rwa [Nat.zero_add] at this
theorem sB_app (x y : List Nat) : sB x ++ sB y = sB (x ++ y) := by
  unfold sB
  rw [List.map_append]
  apply ByteArray.ext
  rw [ByteArray.data_append]
  simp
theorem sB_nil : sB [] = ⟨#[]⟩ := by unfold sB; rfl
theorem sBf_at (d : List Nat) (hb : ∀ c ∈ d, c < 256) (k : Nat) (hk : k < d.length) : ∃ h : k < (sB d).size, ((sB d)[k]'h).toNat = d.getD k 0 := by
  refine ⟨by rw [sB_size]; exact hk, ?_⟩
  have : d.getD k 0 < 256 := hb _ (getD_mem' hk)
  rw [List.getD_eq_getElem?_getD, List.getElem?_eq_getElem hk] at this ⊢
  unfold sB
  show (((d.map UInt8.ofNat).toArray)[k]'(by simpa using hk)).toNat = _
  simp at this ⊢
  omega
theorem str_bytes (w : World) (P : List Nat) (hb : ∀ c ∈ P, c < 256) : ∃ cap w', (convert 9 28 (.string (sB P))).run Try.prog w = .ok (.slice (some ⟨w.heap.size, 0, none⟩) P.length cap) w' ∧
    P.length ≤ cap ∧ Row w' (some ⟨w.heap.size, 0, none⟩) P.length (byteV P) ∧ Below w.heap.size w w' ∧ w'.heap.size = w.heap.size + 1 := by
  refine ⟨grownCap w (sB P).size 0 5, Lib.bytesWorld w 5 (sB P), ?_, ?_, ⟨.inr rfl, ?_⟩, ⟨rfl, rfl, rfl, ?_, ?_⟩, Lib.bytesWorld_size w 5 (sB P)⟩
  · exact (Lib.run_convert_string_bytes (P := Try.prog) w 9 28 5 (sB P) Try.underlying9 Try.underlying28 Try.underlying5).trans (by rw [sB_size])
  · exact Nat.le_trans (Nat.le_of_eq (sB_size P).symm) (grownCap_ge w _ _ _)
  · intro k hk
    have := Lib.bytesWorld_cell w 5 (sB P) k (by rw [sB_size]; exact hk)
    simp only [bOf, oOf, Option.map_some, Option.getD_some, Nat.zero_add]
    rw [this]
    obtain ⟨h1, h2⟩ := sBf_at P hb k hk
    have h3 : (sB P).data.toList.getD k 0 = (sB P)[k]'h1 := by
      rw [List.getD_eq_getElem?_getD, List.getElem?_eq_getElem (by simpa using h1)]; rfl
    rw [h3, h2]
  · rw [Lib.bytesWorld_size]; omega
  · exact fun b h => Lib.bytesWorld_at_old w _ _ b h
theorem fileOf_nil (s : ByteArray) : fileOf (.map []) s = none := rfl
theorem fileOf_one_no {s t : ByteArray} (h : t ≠ s) (f : Nat) : fileOf (.map [(kl s, enc f)]) t = none := by
  rw [← put_nil, fileOf_put_other h]
  exact fileOf_nil t
theorem askF_yes {S : DSt} {s : ByteArray} (ho : okN s = true) (hd : S.dead = false) {f : Nat} (hf : fileOf S.names s = some f) : askF S s = (some f, 0) := by
  unfold askF
  rw [ho, hd, hf]
  rfl
theorem askF_no {S : DSt} {s : ByteArray} (ho : okN s = true) (hd : S.dead = false) (hf : fileOf S.names s = none) : askF S s = (none, 11) := by
  unfold askF
  rw [ho, hd, hf]
  rfl
theorem readF_yes {S : DSt} {s : ByteArray} (ho : okN s = true) (hd : S.dead = false) {f : Nat} (hf : fileOf S.names s = some f) (k m : Int) : readF S s k m = if k < 0 ∨ m < 0 then ([], 1) else (pieceL (S.fb f) k.toNat m.toNat, 0) := by
  unfold readF
  rw [askF_yes ho hd hf]
theorem readF_no {S : DSt} {s : ByteArray} (ho : okN s = true) (hd : S.dead = false) (hf : fileOf S.names s = none) (k m : Int) : readF S s k m = ([], 11) := by
  unfold readF
  rw [askF_no ho hd hf]
theorem sizeF_yes {S : DSt} {s : ByteArray} (ho : okN s = true) (hd : S.dead = false) {f : Nat} (hf : fileOf S.names s = some f) : sizeF S s = ((S.fb f).length, 0) := by
  unfold sizeF
  rw [askF_yes ho hd hf]
theorem sizeF_no {S : DSt} {s : ByteArray} (ho : okN s = true) (hd : S.dead = false) (hf : fileOf S.names s = none) : sizeF S s = (0, 11) := by
  unfold sizeF
  rw [askF_no ho hd hf]
theorem DiskAv.bd_lt {B : Nat} {w : World} {bd : Nat} {S : DSt} {A : Nat → Prop} (h : DiskAv B w bd S A) : bd < w.heap.size := by
  obtain ⟨ρ, vf, vt, bn, bl, V, hd, _⟩ := h
  exact hd.lt
theorem createS_fb (S : DSt) (s : ByteArray) (fn : Nat) : (createS S s fn).fb fn = [] := updN_same _ _ _
theorem appendS_fb (S : DSt) (f : Nat) (d : List Nat) : (appendS S f d).fb f = S.fb f ++ d := updN_same _ _ _
theorem pieceL_all (d : List Nat) (m : Nat) (h : d.length ≤ m) : pieceL d 0 m = d := by unfold pieceL; rw [List.drop_zero, List.take_of_length_le h]
abbrev sF : ByteArray := ⟨#[102]⟩
theorem okN_f : okN sF = true := by decide
/-- one file, under one name -/
structure OneF (S : DSt) (fn : Nat) (q c : Int) : Prop where
  lv : Lv S
  names : S.names = .map [(kl sF, enc fn)]
  files : S.files = [fn]
  quota : S.quota = q
  calls : S.calls ≤ c
theorem OneF.mem {S : DSt} {fn : Nat} {q c : Int} (h : OneF S fn q c) : fn ∈ S.files := by rw [h.files]; exact List.mem_singleton.2 rfl
theorem OneF.file {S : DSt} {fn : Nat} {q c : Int} (h : OneF S fn q c) : fileOf S.names sF = some fn := by rw [h.names]; exact fileOf_one sF fn
theorem OneF.used {S : DSt} {fn : Nat} {q c : Int} (h : OneF S fn q c) : usedS S = (S.fb fn).length := used_one S sF fn h.names h.lv.dead
theorem OneF.create {q : Int} {fn : Nat} (h : Lv (createS (newS q) sF fn)) : OneF (createS (newS q) sF fn) fn q 1 := ⟨h, rfl, rfl, rfl, Int.le_refl 1⟩
theorem OneF.append {S : DSt} {fn : Nat} {q c : Int} (h : OneF S fn q c) {d : List Nat} (hl : Lv (appendS S fn d)) : OneF (appendS S fn d) fn q (c + 1) := ⟨hl, h.names, h.files, h.quota, by have := h.calls; show S.calls + 1 ≤ c + 1; omega⟩
theorem OneF.sync {S : DSt} {fn : Nat} {q c : Int} (h : OneF S fn q c) (hl : Lv (syncS S fn)) : OneF (syncS S fn) fn q (c + 1) := ⟨hl, h.names, h.files, h.quota, by have := h.calls; show S.calls + 1 ≤ c + 1; omega⟩
theorem OneF.syncdir {S : DSt} {fn : Nat} {q c : Int} (h : OneF S fn q c) (hl : Lv (syncdirS S)) : OneF (syncdirS S) fn q (c + 1) := ⟨hl, h.names, h.files, h.quota, by have := h.calls; show S.calls + 1 ≤ c + 1; omega⟩
theorem DiskAv.avB {B : Nat} {w : World} {bd : Nat} {S : DSt} (h : DiskAt B w bd S) : DiskAv B w bd S (fun b => b < B) := by
  obtain ⟨ρ, vf, vt, bn, bl, V, hd⟩ := h
  refine ⟨ρ, vf, vt, bn, bl, V, hd, fun b hb => ?_⟩
  by_cases e : ρ b = .other
  · exact e
  · have := (hd.base b e).1; omega
theorem DiskAv.canon {B : Nat} {w : World} {bd : Nat} {S : DSt} {A : Nat → Prop} (h : DiskAv B w bd S A) : Canon S.names ∧ Canon S.last := by
  obtain ⟨ρ, vf, vt, bn, bl, V, hd, _⟩ := h
  exact ⟨hd.names.canon, hd.last.canon⟩
theorem crash_lv {S : DSt} (h : Lv S) (fs : List Int) (bs : List Bool) (hT : Tidy S.last) (hc : Canon (crashS S fs bs).names) : Lv (crashS S fs bs) := ⟨crash_ok h.ok fs bs hT hc, rfl, (by show (-1 : Int) ≤ 0; omega), Int.le_refl 0⟩
/-- the one file lasts, under its name -/
structure LastF (S : DSt) (fn : Nat) : Prop where
  last : S.last = .map [(kl sF, enc fn)]
  turns : S.turns = []
theorem crash_one {S : DSt} {fn : Nat} {q c : Int} (h : OneF S fn q c) (hl : LastF S fn) (fs : List Int) (bs : List Bool) (hlv : Lv (crashS S fs bs)) :
    OneF (crashS S fs bs) fn q c ∧ LastF (crashS S fs bs) fn ∧ (crashS S fs bs).fl fn = ((crashS S fs bs).fb fn).length ∧ ∃ k, S.fl fn ≤ k ∧ k ≤ (S.fb fn).length ∧ (crashS S fs bs).fb fn = (S.fb fn).take k := by
  have hn : nowD S.last S.turns bs = .map [(kl sF, enc fn)] := by rw [hl.turns, nowD_nil, hl.last]
  have hin : inD (nowD S.last S.turns bs) fn = true := by rw [hn, inD_one]; simp
  refine ⟨⟨hlv, hn, ?_, h.quota, h.calls⟩, ⟨hn, rfl⟩, ?_, ?_⟩
  · show S.files.filter (inD (nowD S.last S.turns bs)) = [fn]
    rw [h.files, List.filter_cons_of_pos hin]
    rfl
  · show (if inD (nowD S.last S.turns bs) fn = true then _ else _) = _
    rw [if_pos hin]
    rfl
  · obtain ⟨k, h1, h2, h3⟩ := crash_len S h.lv.ok fs h.mem (S.files.filter (openB S))
    exact ⟨k, h1, h2, h3⟩
theorem cut_toS (s : ByteArray) (k : Nat) (h : k ≤ s.size) : ∀ W : World, (Instr.slice 9 (.string s) none (some (.int .i64 (k : Int))) none).run Try.prog W = .ok (.string (s.extract 0 k)) W := by
  intro W
  simp [Instr.slice, run_underlying Try.underlying9, Instr.sliceBounds, run_sliceBound, show (0 : Int) ≤ k by omega, show (k : Int) ≤ s.size by omega]
/-- bytes by a row of numbers -/
theorem mask_nat (x : Int) (j : Nat) (hj : j < 63) : ∃ L : Nat, bits .and .i64 x (2 ^ j - 1) = (L : Int) ∧ L < 2 ^ j := by
  have h := i64_mask x j hj
  have hp : (0 : Int) < 2 ^ j := Int.pow_pos (by omega)
  have h0 := Int.emod_nonneg x (show ((2 : Int) ^ j) ≠ 0 by omega)
  have h1 := Int.emod_lt_of_pos x hp
  refine ⟨(x % 2 ^ j).toNat, by rw [h]; omega, ?_⟩
  have e : ((2 : Int) ^ j) = ((2 ^ j : Nat) : Int) := by simp
  rw [e] at h1 h0
  omega
end Go.Proofs.Ytelndbjjkhlacaa
