/-
  Some bytes of a file.
-/
import Derived.Test.YtelndbjjkhlacaaDkAsk
namespace Go.Proofs.Ytelndbjjkhlacaa
open Go.RowKit Go.Maps

/-- a cut within bytes -/
def cutB (a : Option Addr) (cap l : Nat) : Option Addr := if cap = l then a else a.map (·.add (l * 1))
theorem cut_row {w : World} {a : Option Addr} {n : Nat} {f : Nat → Value} (hr : Row w a n f) (cap l h : Nat) (hl : l ≤ h) (hh : h ≤ n) (hc : n ≤ cap) : Row w (cutB a cap l) (h - l) (fun k => f (l + k)) := by
  rcases Nat.eq_zero_or_pos (h - l) with h0 | h0
  · rw [h0]; exact Row.nil _ _ _
  · have ha := hr.at_.resolve_left (by omega)
    have hcell := hr.cell
    unfold cutB
    have e1 : a.map (·.add (l * 1)) = some ⟨bOf a, oOf a + l * 1, none⟩ := by
      conv => lhs; rw [ha]
      simp [Addr.add]
    rw [if_neg (by omega), e1]
    refine ⟨.inr rfl, fun k hk => ?_⟩
    have := hcell (l + k) (by omega)
    show w.cell? ⟨bOf a, oOf a + l * 1 + k, none⟩ = _
    rw [show oOf a + l * 1 + k = oOf a + (l + k) by omega]
    exact this
attribute [irreducible] cutB
def pieceL (d : List Nat) (k m : Nat) : List Nat := (d.drop k).take m
theorem pieceL_len (d : List Nat) (k m : Nat) : (pieceL d k m).length = min m (d.length - k) := by unfold pieceL; rw [List.length_take, List.length_drop]
/-- what is read, and what is wrong -/
def readF (S : DSt) (s : ByteArray) (k m : Int) : List Nat × Int := match (askF S s).1 with
  | none => ([], (askF S s).2)
  | some f => if k < 0 ∨ m < 0 then ([], 1) else (pieceL (S.fb f) k.toNat m.toNat, 0)
def ReadPost (w : World) (S : DSt) (s : ByteArray) (k m : Int) (e : Ending) (w' : World) : Prop :=
  ∃ a cap, e = .returned (.tuple #[.slice a (readF S s k m).1.length cap, .int .i64 (readF S s k m).2]) ∧ Row w' a (readF S s k m).1.length (byteV (readF S s k m).1) ∧ Below w.heap.size w w'
set_option maxRecDepth 100000 in
set_option maxHeartbeats 2000000 in
theorem read_yes (B : Nat) (w : World) (bd : Nat) (S : DSt) (h : DiskAt B w bd S) (hok : DOk S) (s : ByteArray) (hs : s.size ≤ maxLen) (f : Nat) (hf : (askF S s).1 = some f) (k m : Nat) (hm : m < 9223372036854775808) :
    Calls Try.prog 16 #[.pointer (some ⟨bd, 0, none⟩), .string s, .int .i64 (k : Int), .int .i64 (m : Int)] w fun e w' => ∃ a, e = .returned (.tuple #[.slice a (pieceL (S.fb f) k m).length (pieceL (S.fb f) k m).length, .int .i64 0]) ∧ Row w' a (pieceL (S.fb f) k m).length (byteV (pieceL (S.fb f) k m)) ∧ Below w.heap.size w w' := by
  have HASK := Lib.hid (ask_any B w bd S h s hs)
  obtain ⟨ρ, vf, vt, bn, bl, V, hd⟩ := h
  obtain ⟨hm2, hz⟩ := askF_some hok hf
  rw [hf, hz] at HASK
  unfold pF at HASK
  simp only at HASK
  obtain ⟨a, c, hV, hcap, hrow, _⟩ := Row.of_owns (hd.bytes f hm2)
  have x0 : w.cell? ⟨f, 0, none⟩ = some (.slice a (S.fb f).length c) := by rw [← hV]; exact (hd.file f hm2).cell (i := 0) (by omega)
  have hll := hok.long f hm2
  have hr : Row w a (S.fb f).length (byteV (S.fb f)) := hrow.congr fun q hq => by
    unfold bytV byteV
    rw [List.getD_eq_getElem?_getD, List.getElem?_map, List.getD_eq_getElem?_getD, List.getElem?_eq_getElem hq]; rfl
  have hPL := pieceL_len (S.fb f) k m
  have HPV : Hid (∀ q, q < (pieceL (S.fb f) k m).length → (pieceL (S.fb f) k m).getD q 0 = (S.fb f).getD (min k (S.fb f).length + q) 0) := fun q hq => by
    rw [hPL] at hq
    have hk2 : min k (S.fb f).length = k := by omega
    rw [hk2]
    unfold pieceL
    rw [List.getD_eq_getElem?_getD, List.getElem?_take_of_lt (by omega), List.getElem?_drop, ← List.getD_eq_getElem?_getD]
  clear hf hz hd hV hrow hok
  generalize pieceL (S.fb f) k m = p at *
  generalize S.fb f = d at *
  obtain ⟨A, hA⟩ : ∃ A, A = min k d.length := ⟨_, rfl⟩
  obtain ⟨M, hM⟩ : ∃ M, M = min m (d.length - A) := ⟨_, rfl⟩
  have HLEN : Hid (p.length = M) := by show _ = _; omega
  rw [← hA] at HPV
  have HA := Lib.hid hA
  have HM := Lib.hid hM
  have hA2 : A ≤ d.length := by omega
  have hM2 : A + M ≤ d.length := by omega
  have em1 : (if d.length < k then (d.length : Int) else (k : Int)) = (A : Int) := by split <;> omega
  have em2 : (if d.length - A < m then ((d.length - A : Nat) : Int) else (m : Int)) = (M : Int) := by split <;> omega
  clear hPL hA hM
  have t0 : decide ((k : Int) < 0) = false := by simp
  have t1 : decide ((m : Int) < 0) = false := by simp
  have w1w : IntKind.i64.wrap ((d.length : Int) - (A : Int)) = ((d.length - A : Nat) : Int) := by rw [show (d.length : Int) - (A : Int) = ((d.length - A : Nat) : Int) by omega]; exact IntWalk.i64_in _ (by omega)
  obtain ⟨H, hH⟩ : ∃ H, H = A + M := ⟨_, rfl⟩
  have w2w : IntKind.i64.wrap ((A : Int) + (M : Int)) = (H : Int) := by rw [show (A : Int) + (M : Int) = (H : Int) by omega]; exact IntWalk.i64_in _ (by omega)
  have HH := Lib.hid hH
  clear hH
  have HROW := cut_row hr c A (A + M) (by omega) hM2 hcap
  rw [show A + M - A = M by omega] at HROW
  have HCL := Lib.hid (fun W (hW : Below w.heap.size w W) => cloneB_any W (cutB a c A) M (c - A) (fun q => byteV d (A + q)) (by omega) (fun _ _ => rfl) (HROW.kept hW))
  have HFIN : Hid (∀ w' (a' : Option Addr), Row w' a' M (fun q => byteV d (A + q)) → Row w' a' M (byteV p)) := fun w' a' hr => by
    refine hr.congr fun q hq => ?_
    unfold byteV
    rw [HPV.out q (by rw [HLEN.out]; exact hq)]
  rw [HLEN.out]
  have hAc : A ≤ c := by omega
  have hAM : A + M ≤ c := by omega
  clear HROW HPV hr
  go_enter Try.func16, Try.ntmps16
  go_wp2_with fail
  refine HASK.out.mono ?_
  rintro e w' ⟨rfl, j, rfl⟩
  clear HASK
  go_upto_region 7 with fail
  have hx : ∀ W, Below w.heap.size w W → W.cell? ⟨f, 0, none⟩ = some (.slice a d.length c) := fun W hW => (hW.cell (p := ⟨f, 0, none⟩) (World.block_lt_of_cell? w _ x0)).trans x0
  have HX := Lib.hid hx
  clear hx
  rcases Nat.eq_or_lt_of_le hAc with g8 | g8
  · have hcut : cutB a c A = a := by unfold cutB; rw [if_pos g8.symm]
    rw [hcut] at HCL
    obtain rfl : M = 0 := by omega
    obtain rfl : A = d.length := by omega
    obtain rfl : c = d.length := g8.symm
    have w4w : IntKind.i64.wrap (d.length : Int) = (d.length : Int) := IntWalk.i64_in _ (by omega)
    simp only [Nat.sub_self] at HCL
    clear w1w w2w em2
    have q1 : (d.length : Int) ≤ (d.length : Int) := Int.le_refl _
    have q3 : (0 : Int) ≤ (d.length : Int) := by omega
    have w00 : IntKind.i64.wrap 0 = 0 := IntWalk.i64_in _ (by omega)
    rcases Nat.eq_zero_or_pos m with g3 | g3
    · subst g3
      go_region_held3 (fun w' => w'.cell? ⟨f, 0, none⟩ = some (.slice a d.length d.length))
        (first | exact HX.out _ ((below_drewN (Below.refl _ _) _).drew) | exact HX.out _ HB5.out | exact HX.out _ HB6.out | go_keep)
        (first
          | (go_at_call 39; refine (HCL.out _ ((below_drewN (Below.refl _ _) _).drew)).mono ?_; rintro e w5 ⟨a5, c5, rfl, hc5, hn5, hr5, hb5, -⟩; have HR5 := Lib.hid hr5; have HB5 := Lib.hid (show Below w.heap.size w w5 from ((below_drewN (Below.refl _ w) _).drew).trans hb5); have HCP := Lib.hid (clipB_any w5 a5 0 c5 hc5 hn5); clear hr5 hb5 hc5 hn5)
          | (go_at_call 38; refine HCP.out.mono ?_; rintro e w6 ⟨rfl, rfl⟩; have HB6 := Lib.hid HB5.out))
      all_goals
        go_wp2
        go_ret2
        exact ⟨a5, rfl, HFIN.out _ _ HR5.out, HB5.out⟩
    · have g4 : (0 : Int) < (m : Int) := by omega
      have g7 : 0 < m := g3
      clear g3
      go_region_held3 (fun w' => w'.cell? ⟨f, 0, none⟩ = some (.slice a d.length d.length))
        (first | exact HX.out _ ((below_drewN (Below.refl _ _) _).drew) | exact HX.out _ HB5.out | exact HX.out _ HB6.out | go_keep)
        (first
          | (go_at_call 39; refine (HCL.out _ ((below_drewN (Below.refl _ _) _).drew)).mono ?_; rintro e w5 ⟨a5, c5, rfl, hc5, hn5, hr5, hb5, -⟩; have HR5 := Lib.hid hr5; have HB5 := Lib.hid (show Below w.heap.size w w5 from ((below_drewN (Below.refl _ w) _).drew).trans hb5); have HCP := Lib.hid (clipB_any w5 a5 0 c5 hc5 hn5); clear hr5 hb5 hc5 hn5)
          | (go_at_call 38; refine HCP.out.mono ?_; rintro e w6 ⟨rfl, rfl⟩; have HB6 := Lib.hid HB5.out))
      all_goals
        go_wp2
        go_ret2
        exact ⟨a5, rfl, HFIN.out _ _ HR5.out, HB5.out⟩
  · have hcut : cutB a c A = Option.map (fun x => x.add A) a := by unfold cutB; rw [if_neg (by omega)]; simp
    rw [hcut] at HCL
    have g9 : ¬ c = A := by omega
    have q0 : A ≤ H ∧ H ≤ c ∧ H - A = M := by have := HH.out; omega
    obtain ⟨q5, q6, q4⟩ := q0
    have q1 : (A : Int) ≤ (H : Int) := by omega
    have q2 : (H : Int) ≤ (c : Int) := by omega
    have q3 : (0 : Int) ≤ (A : Int) := by omega
    go_region_held3 (fun w' => w'.cell? ⟨f, 0, none⟩ = some (.slice a d.length c))
      (first | exact HX.out _ ((below_drewN (Below.refl _ _) _).drew) | exact HX.out _ HB5.out | exact HX.out _ HB6.out | go_keep)
      (first
        | (go_at_call 39; refine (HCL.out _ ((below_drewN (Below.refl _ _) _).drew)).mono ?_; rintro e w5 ⟨a5, c5, rfl, hc5, hn5, hr5, hb5, -⟩; have HR5 := Lib.hid hr5; have HB5 := Lib.hid (show Below w.heap.size w w5 from ((below_drewN (Below.refl _ w) _).drew).trans hb5); have HCP := Lib.hid (clipB_any w5 a5 M c5 hc5 hn5); clear hr5 hb5 hc5 hn5)
        | (go_at_call 38; refine HCP.out.mono ?_; rintro e w6 ⟨rfl, rfl⟩; have HB6 := Lib.hid HB5.out))
    all_goals
      go_wp2
      go_ret2
      exact ⟨a5, rfl, HFIN.out _ _ HR5.out, HB5.out⟩
set_option maxRecDepth 100000 in
set_option maxHeartbeats 1000000 in
theorem read_no (B : Nat) (w : World) (bd : Nat) (S : DSt) (h : DiskAt B w bd S) (s : ByteArray) (hs : s.size ≤ maxLen) (hf : (askF S s).1 = none) (k m : Int) :
    Calls Try.prog 16 #[.pointer (some ⟨bd, 0, none⟩), .string s, .int .i64 k, .int .i64 m] w fun e w' => e = .returned (.tuple #[.slice none 0 0, .int .i64 (askF S s).2]) ∧ ∃ j, w' = w.drewN j := by
  have HASK := Lib.hid (ask_any B w bd S h s hs)
  have hz := askF_none hf
  rw [hf] at HASK
  unfold pF at HASK
  simp only at HASK
  generalize (askF S s).2 = z at *
  have hz2 : (z != 0) = true := by simp; omega
  clear hf hz h
  go_enter Try.func16, Try.ntmps16
  go_wp2_with fail
  refine HASK.out.mono ?_
  rintro e w' ⟨rfl, j, rfl⟩
  go_wp2
  go_ret2
  exact ⟨rfl, _, rfl⟩
set_option maxRecDepth 100000 in
set_option maxHeartbeats 1000000 in
theorem read_neg (B : Nat) (w : World) (bd : Nat) (S : DSt) (h : DiskAt B w bd S) (hok : DOk S) (s : ByteArray) (hs : s.size ≤ maxLen) (f : Nat) (hf : (askF S s).1 = some f) (k m : Int) (hn : k < 0 ∨ m < 0) :
    Calls Try.prog 16 #[.pointer (some ⟨bd, 0, none⟩), .string s, .int .i64 k, .int .i64 m] w fun e w' => e = .returned (.tuple #[.slice none 0 0, .int .i64 1]) ∧ ∃ j, w' = w.drewN j := by
  have HASK := Lib.hid (ask_any B w bd S h s hs)
  obtain ⟨hm2, hz⟩ := askF_some hok hf
  rw [hf, hz] at HASK
  unfold pF at HASK
  simp only at HASK
  clear hf hz h hok
  by_cases h1 : k < 0
  · clear hn
    go_enter Try.func16, Try.ntmps16
    go_wp2_with fail
    refine HASK.out.mono ?_
    rintro e w' ⟨rfl, j, rfl⟩
    go_wp2
    go_ret2
    exact ⟨rfl, _, rfl⟩
  · have h2 : m < 0 := hn.resolve_left h1
    have h3 : decide (k < 0) = false := by simp; omega
    clear hn h1
    go_enter Try.func16, Try.ntmps16
    go_wp2_with fail
    refine HASK.out.mono ?_
    rintro e w' ⟨rfl, j, rfl⟩
    go_wp2
    go_ret2
    exact ⟨rfl, _, rfl⟩
/-- whatever is read -/
theorem read_any (B : Nat) (w : World) (bd : Nat) (S : DSt) (h : DiskAt B w bd S) (hok : DOk S) (s : ByteArray) (hs : s.size ≤ maxLen) (k m : Int) (hm : m < 9223372036854775808) :
    Calls Try.prog 16 #[.pointer (some ⟨bd, 0, none⟩), .string s, .int .i64 k, .int .i64 m] w (ReadPost w S s k m) := by
  cases hf : (askF S s).1 with
  | none =>
    have e0 : readF S s k m = ([], (askF S s).2) := by unfold readF; rw [hf]
    refine (read_no B w bd S h s hs hf k m).mono ?_
    rintro e w' ⟨rfl, j, rfl⟩
    unfold ReadPost
    rw [e0]
    exact ⟨none, 0, rfl, Row.nil _ _ _, below_drewN (Below.refl _ _) _⟩
  | some f =>
    by_cases hn : k < 0 ∨ m < 0
    · have e0 : readF S s k m = ([], 1) := by unfold readF; rw [hf]; exact if_pos hn
      refine (read_neg B w bd S h hok s hs f hf k m hn).mono ?_
      rintro e w' ⟨rfl, j, rfl⟩
      unfold ReadPost
      rw [e0]
      exact ⟨none, 0, rfl, Row.nil _ _ _, below_drewN (Below.refl _ _) _⟩
    · obtain ⟨k', rfl⟩ : ∃ j : Nat, k = (j : Int) := ⟨k.toNat, by omega⟩
      obtain ⟨m', rfl⟩ : ∃ j : Nat, m = (j : Int) := ⟨m.toNat, by omega⟩
      have e0 : readF S s (k' : Int) (m' : Int) = (pieceL (S.fb f) k' m', 0) := by unfold readF; rw [hf]; simp only; rw [if_neg hn, Int.toNat_natCast, Int.toNat_natCast]
      refine (read_yes B w bd S h hok s hs f hf k' m' (by omega)).mono ?_
      rintro e w' ⟨a, rfl, hr, hb⟩
      unfold ReadPost
      rw [e0]
      exact ⟨a, _, rfl, hr, hb⟩
end Go.Proofs.Ytelndbjjkhlacaa
