/-
  The statement TextBounds: its walk; text.New where documents are too many, or too long.
-/
import Derived.Test.YtehgpggkicoddaaTextLaw
import Derived.Test.YtehgpggkicoddaaSuffixRuns
namespace Go.Proofs.Ytehgpggkicoddaa
open Go.RowKit

def NoCode (ds : List (List Nat)) (e : Int) : Prop := (500 < ds.length ∧ e = 65) ∨ (ds.length ≤ 500 ∧ (∃ d ∈ ds, 2000 < d.length) ∧ e = 2) ∨ (ds.length ≤ 500 ∧ (∀ d ∈ ds, d.length ≤ 2000) ∧ 60000 < (rowOf ds).length ∧ e = 2)
theorem startOf_small (ds : List (List Nat)) (r : Nat) (h : r ≤ ds.length) (hd : ∀ q, q < r → (ds.getD q []).length ≤ 2000) : startOf ds r ≤ r * 2001 := by
  induction r with
  | zero => rw [startOf_zero]; exact Nat.zero_le _
  | succ r ih =>
    have h1 := ih (by omega) (fun q hq => hd q (by omega))
    have h2 := startOf_succ ds r (by omega)
    have h3 := hd r (by omega)
    omega
set_option maxRecDepth 100000 in
set_option maxHeartbeats 1000000 in
theorem tnew_no (w : World) (a : Option Addr) (cap : Nat) (A0 : Nat → Option Addr) (C0 : Nat → Nat) (ds : List (List Nat)) (h : DocsAt w a A0 C0 ds) (hm : ds.length ≤ 1000000) (hl : ∀ d ∈ ds, d.length ≤ 1000000) (c : Int) (hc : NoCode ds c) :
    Calls Try.prog 10 #[.slice a ds.length cap] w fun e w' => e = .returned (.tuple #[.pointer none, .int .i64 c]) ∧ w = w' := by
  have hix := run_ix (P := Try.prog) 22 (by kernel_rfl) size_bytes a ds.length cap h.top.at_ .i64
  have HD := Lib.hid h
  have HL := Lib.hid hl
  rcases hc with ⟨h5, rfl⟩ | hc
  · have h500 : (500 : Int) < (ds.length : Int) := by omega
    clear h hl hix h5
    go_enter Try.func10, Try.ntmps10
    go_wp2
    go_ret2
    exact ⟨rfl, rfl⟩
  · have h5 : ds.length ≤ 500 := by rcases hc with h | h <;> exact h.1
    obtain rfl : c = 2 := by rcases hc with h | h; exact h.2.2; exact h.2.2.2
    have HC := Lib.hid hc
    have h500 : ¬ (500 : Int) < (ds.length : Int) := by omega
    have HSM := Lib.hid (startOf_small ds)
    have HSS := Lib.hid (fun q (hq : q < ds.length) => startOf_succ ds q hq)
    have HSA := Lib.hid (startOf_all ds)
    clear h hl hc
    go_enter Try.func10, Try.ntmps10
    go_wp2
    go_loop [4, 17] (fun n i => ∃ r : Nat, r ≤ ds.length ∧ i = .int .i64 r ∧ n = .int .i64 ((startOf ds r : Nat) : Int) ∧ ∀ q, q < r → (ds.getD q []).length ≤ 2000) (fun _ i => ds.length - (intOf i).toNat)
    case atStart => exact ⟨0, by omega, rfl, by rw [startOf_zero]; rfl, fun q hq => by omega⟩
    case round =>
      obtain ⟨r, hr, rfl, rfl, hq⟩ := hrel
      have hsm := HSM.out r hr hq
      have HQ := Lib.hid hq
      clear hq
      by_cases hlt : r < ds.length
      · have d0 := HD.out.top.cell r hlt
        have HST := Lib.hid (HSS.out r hlt)
        have hlen := HL.out _ (doc_mem hlt)
        have HNX : Hid ((ds.getD r []).length ≤ 2000 → ∀ q, q < r + 1 → (ds.getD q []).length ≤ 2000) := fun h q hq => by
          by_cases e : q = r
          · rw [e]; exact h
          · exact HQ.out q (by omega)
        have hx := fun W => hix W r hlt
        generalize (ds.getD r []).length = n at *
        generalize startOf ds r = s at *
        by_cases hn : 2000 < n
        · have h2000 : (2000 : Int) < (n : Int) := by omega
          clear hn
          go_wp2
          go_ret2
          exact ⟨rfl, rfl⟩
        · have h2000 : ¬ (2000 : Int) < (n : Int) := by omega
          go_wp2
          go_round
          case rel => exact ⟨r + 1, by omega, by go_num, by (rw [HST.out]) <;> go_num, HNX.out (by omega)⟩
          case measure => simp [intOf]; omega
      · obtain rfl : r = ds.length := by omega
        have hbig : 60000 < startOf ds ds.length := by
          rcases HC.out with ⟨_, ⟨d, hd, hx⟩, _⟩ | ⟨_, _, hx, _⟩
          · have := doc_all (P := fun d => d.length ≤ 2000) HQ.out d hd
            omega
          · rw [HSA.out]; exact hx
        have h60 : (60000 : Int) < ((startOf ds ds.length : Nat) : Int) := by omega
        generalize startOf ds ds.length = s at *
        clear hlt hbig hix
        go_wp2
        go_ret2
        exact ⟨rfl, rfl⟩
/-- documents in the making: a row of slices, the cells of each apart from it -/
def LRel (base : Nat) (W : World) (v : Value) (ds : List (List Nat)) : Prop := ∃ (A : Nat → Option Addr) (C : Nat → Nat),
  W.ownsRow base 29 1 v ds.length ((List.range ds.length).map fun j => .slice (A j) (ds.getD j []).length (C j)) ∧ ∀ j, j < ds.length → Row W (A j) (ds.getD j []).length (byteV (ds.getD j [])) ∧ ((ds.getD j []).length = 0 ∨ v.ownBlock ≠ some (bOf (A j)))
theorem LRel.nil (base : Nat) (W : World) : LRel base W (.slice none 0 0) [] := ⟨fun _ => none, fun _ => 0, World.ownsRow_nil _ _ _ _, fun j hj => by simp at hj⟩
theorem LRel.kept {base : Nat} {W W' : World} {v : Value} {ds : List (List Nat)} (h : LRel base W v ds) (hb : Below W.heap.size W W') : LRel base W' v ds := by
  obtain ⟨A, C, h1, h2⟩ := h
  exact ⟨A, C, owns_below h1 hb, fun j hj => ⟨(h2 j hj).1.kept hb, (h2 j hj).2⟩⟩
theorem LRel.docs {base : Nat} {W : World} {v : Value} {ds : List (List Nat)} (h : LRel base W v ds) : ∃ a cap A C, v = .slice a ds.length cap ∧ DocsAt W a A C ds := by
  obtain ⟨A, C, h1, h2⟩ := h
  obtain ⟨a, cap, rfl, _, hr, _⟩ := Row.of_owns h1
  exact ⟨a, cap, A, C, rfl, hr.congr fun k hk => by simp [List.getD_eq_getElem?_getD, hk], fun r hr => (h2 r hr).1⟩
theorem LRel.app {base : Nat} {W w1 : World} {v v' : Value} {ds : List (List Nat)} {A : Nat → Option Addr} {C : Nat → Nat} {d : List Nat} {a : Option Addr} {c : Nat} {tmp : Obj}
    (h2 : ∀ j, j < ds.length → Row W (A j) (ds.getD j []).length (byteV (ds.getD j [])) ∧ ((ds.getD j []).length = 0 ∨ v.ownBlock ≠ some (bOf (A j))))
    (hd : Row W a d.length (byteV d)) (hda : d.length = 0 ∨ v.ownBlock ≠ some (bOf a))
    (hown' : w1.ownsRow base 29 1 v' (ds.length + 1) (((List.range ds.length).map fun j => .slice (A j) (ds.getD j []).length (C j)) ++ [.slice a d.length c]))
    (hgrow : (W.alloc tmp).grownBy w1 v.ownBlock) (hat : v'.ownBlock = v.ownBlock ∨ v'.ownBlock = some (W.alloc tmp).heap.size) : LRel base w1 v' (ds ++ [d]) := by
  have ex : (List.range ds.length).map (fun j => Value.slice (if j < ds.length then A j else a) ((ds ++ [d]).getD j []).length (if j < ds.length then C j else c)) = (List.range ds.length).map fun j => .slice (A j) (ds.getD j []).length (C j) := by
    refine List.map_congr_left fun j hj => ?_
    have hj := List.mem_range.1 hj
    rw [if_pos hj, if_pos hj]
    simp [List.getD_eq_getElem?_getD, List.getElem?_append_left hj]
  have keep : ∀ {a : Option Addr} {d : List Nat}, Row W a d.length (byteV d) → (d.length = 0 ∨ v.ownBlock ≠ some (bOf a)) → Row w1 a d.length (byteV d) ∧ (d.length = 0 ∨ v'.ownBlock ≠ some (bOf a)) := fun {a d} hr hn => by
    rcases Nat.eq_zero_or_pos d.length with h | h
    · exact ⟨⟨hr.at_, fun k hk => by omega⟩, .inl h⟩
    · have hl := hr.lt h
      have hn' := hn.resolve_left (by omega)
      refine ⟨(row_alloc hr tmp).gb hgrow (.inr fun e => hn' e.symm), .inr fun e => ?_⟩
      rcases hat with h1 | h1
      · rw [h1] at e; exact hn' e
      · rw [h1] at e; have := Option.some.inj e; rw [World.size_alloc] at this; omega
  refine ⟨fun j => if j < ds.length then A j else a, fun j => if j < ds.length then C j else c, ?_, fun j hj => ?_⟩
  · rw [List.length_append, List.length_singleton, List.range_succ, List.map_append, ex]
    simpa [List.getD_eq_getElem?_getD] using hown'
  · by_cases hlt : j < ds.length
    · have e : (ds ++ [d]).getD j [] = ds.getD j [] := by simp [List.getD_eq_getElem?_getD, List.getElem?_append_left hlt]
      simp only [e, if_pos hlt]
      exact keep (h2 j hlt).1 (h2 j hlt).2
    · have ej : j = ds.length := by rw [List.length_append] at hj; simp at hj; omega
      have e : (ds ++ [d]).getD j [] = d := by subst ej; simp [List.getD_eq_getElem?_getD]
      simp only [e, if_neg hlt]
      exact keep hd hda
def zeros (n : Nat) : List Nat := List.replicate n 0
theorem zeros_len (n : Nat) : (zeros n).length = n := by simp [zeros]
theorem zeros_row (W : World) (n : Nat) : Row (W.alloc (.cells (madeCells #[.int .u8 0] n) 5)) (some ⟨W.heap.size, 0, none⟩) (zeros n).length (byteV (zeros n)) := by
  rw [zeros_len]
  refine (Row.of_row (World.rowIs_made W (.int .u8 0) n 5) (Nat.le_refl _)).congr fun k hk => ?_
  show Value.int .u8 0 = .int .u8 (((zeros n).getD k 0 : Nat) : Int)
  unfold zeros
  simp [List.getD_eq_getElem?_getD, hk]
theorem zeros_byte (n : Nat) : ∀ c ∈ zeros n, c < 256 := fun c hc => by
  unfold zeros at hc
  have := List.eq_of_mem_replicate hc
  omega
theorem rowOf_len (ds : List (List Nat)) : (rowOf ds).length = (ds.map fun d => d.length + 1).sum := by
  unfold rowOf
  simp [List.length_flatMap]
theorem rowOf_nils (n : Nat) : (rowOf (List.replicate n [])).length = n := by rw [rowOf_len]; simp
theorem rowOf_zs (n : Nat) : (rowOf (List.replicate 30 (zeros 1990) ++ [zeros n])).length = 59730 + n + 1 := by
  rw [rowOf_len, List.map_append, List.map_replicate, zeros_len, List.sum_append, List.map_singleton, zeros_len, List.sum_singleton, show (List.replicate 30 (1990 + 1)).sum = 59730 by decide +kernel]
  omega
theorem rowOf_z (n : Nat) : (rowOf [zeros n]).length = n + 1 := by
  rw [rowOf_len]
  simp [zeros_len]
theorem rep_mem {n : Nat} {x d : List Nat} (h : d ∈ List.replicate n x) : d = x := List.eq_of_mem_replicate h
attribute [irreducible] zeros
theorem cell_one_at1 (w : World) (o : Obj) (x : Value) (t : TypeId) : ∀ j u, [x][j]? = some u → ((w.alloc o).alloc (.cells #[x] t)).cell? ((⟨w.heap.size + 1, 0, none⟩ : Addr).add j) = some u := by
  have := cell_one_new (w.alloc o) x t
  rwa [World.size_alloc] at this
set_option maxRecDepth 100000 in
set_option maxHeartbeats 4000000 in
theorem tbounds_walk (w : World) (hm : MaxCell w) (n : Int) (_ : (Lit.int .i64 n).wf = true) (long : Int) (_ : (Lit.int .i64 long).wf = true) (kind : Int) (_ : (Lit.int .i64 kind).wf = true) :
    Calls Try.prog 6 #[.int .i64 n, .int .i64 long, .int .i64 kind] w fun e w' => e = .returned (.bool true) ∧ Below w.heap.size w w' := by
  have HM := Lib.hid hm
  have ek : bits .and .i64 kind 3 = kind % 4 := i64_mask kind 2 (by omega)
  obtain ⟨K, hK, hK2⟩ : ∃ K : Nat, kind % 4 = K ∧ K ≤ 3 := ⟨(kind % 4).toNat, by omega, by omega⟩
  rw [hK] at ek
  obtain ⟨i0, hi0, hz0, hz1, hz2⟩ := info_parts info_bytes
  clear hm hK
  by_cases hk0 : K = 0
  · subst hk0
    have en : bits .and .i64 n 7 = n % 8 := i64_mask n 3 (by omega)
    obtain ⟨N, hN, hN2⟩ : ∃ N : Nat, n % 8 = N ∧ N ≤ 7 := ⟨(n % 8).toNat, by omega, by omega⟩
    rw [hN] at en
    obtain ⟨M, hM⟩ : ∃ M : Nat, M = N + 497 := ⟨_, rfl⟩
    have eM : (N : Int) + 497 = (M : Int) := by omega
    have hM1 : 497 ≤ M := by omega
    have hM2 : M ≤ 504 := by omega
    have y0 : (((0 : Nat) : Int) == 0) = true := rfl
    clear hN hM hN2
    go_enter Try.func6, Try.ntmps6
    go_wp2_with fail
    go_loopw [7, 9] (fun v7 v9 wr => ∃ k : Nat, k ≤ M ∧ v9 = .int .i64 (k : Int) ∧ LRel w.heap.size wr v7 (List.replicate k []) ∧ Below w.heap.size w wr) (fun _ v9 _ => M - (intOf v9).toNat)
    case atStart => exact ⟨0, Nat.zero_le _, rfl, LRel.nil _ _, Below.refl _ _⟩
    case round =>
      obtain ⟨k, hk, rfl, hlr, hbel⟩ := hrel
      have HB := Lib.hid hbel
      have hsz := hbel.size
      by_cases hlt : (k : Int) < (M : Int)
      · have hl0 : (List.replicate k ([] : List Nat)).length = k := List.length_replicate ..
        have HNX : Hid (List.replicate (k + 1) ([] : List Nat) = List.replicate k [] ++ [[]]) := List.replicate_succ'
        generalize List.replicate k ([] : List Nat) = D at *
        have HDL := Lib.hid hl0
        obtain ⟨A, C, hown, hrows⟩ := hlr
        have HROW := Lib.hid hrows
        have HAPP := Lib.hid (fun (v' : Value) (w2 : World) h1 h2 h3 => LRel.app (base := w.heap.size) (v' := v') (w1 := w2) (C := C) (c := 0) (d := ([] : List Nat)) (tmp := .cells #[.slice none 0 0] 29) hrows (Row.nil wr none (byteV [])) (.inl rfl) h1 h2 h3)
        have hlt2 := hown.lt
        generalize (List.range D.length).map (fun j => Value.slice (A j) (D.getD j []).length (C j)) = X at *
        have HO := Lib.hid hown
        clear hown hrows hbel hl0
        go_wp2_with (at_builtin; refine wpList_append_own_at _ rfl _ _ 22 rfl w.heap.size 29 i0 (.slice none 0 0) 1 24 Try.underlying22 hi0 hz0 hz1 hz2 rfl (by decide) _ D.length _ rfl (HO.out.alloc _) ⟨wr.heap.size, 0, none⟩ 1 1 [.slice none 0 0] rfl rfl (cell_one_new _ _ _) (by simp [Value.oneCell']) (by have := HDL.out; simp only [maxLen]; omega) (by have := HDL.out; omega) (by simp; omega) ?_; intro v' w2 hown' hgrow _ hat)
        have HL2 := Lib.hid (HAPP.out v' w2 hown' hgrow hat)
        have HB2 : Hid (Below w.heap.size w w2) := (HB.out.alloc hsz _).grown hgrow (by simp; omega) (fun g hg => (hlt2 g hg).1)
        clear hown' hgrow hat hlt2
        go_wp2
        go_roundw
        case rel => exact ⟨k + 1, by omega, by go_num, by rw [HNX.out]; exact HL2.out, HB2.out⟩
        case measure => simp [intOf]; omega
      · obtain rfl : k = M := by omega
        obtain ⟨a0, cap0, A, C, rfl, hd⟩ := hlr.docs
        have hkd : decide ((k : Int) < (k : Int)) = false := by simp
        clear hlr hbel eM hk hlt
        by_cases hbig : 500 < k
        · have HN := Lib.hid (tnew_no wr a0 cap0 A C _ hd (by rw [List.length_replicate]; omega) (fun d h => by rw [rep_mem h]; exact Nat.zero_le _) 65 (.inl ⟨by rw [List.length_replicate]; exact hbig, rfl⟩))
          rw [List.length_replicate] at HN ⊢
          have t0 : (500 : Int) < (k : Int) := by omega
          clear hd hbig
          have HM3 := Lib.hid (HM.out.kept HB.out)
          go_wp2_with (first
            | (go_at_call 10; refine HN.out.mono ?_; rintro e w' ⟨rfl, rfl⟩)
            | (go_at_call 9; refine (awake9_any _ HM3.out).mono ?_; rintro e w4 ⟨rfl, hb4⟩))
          go_ret
          exact ⟨rfl, below_next HB.out hb4 HB.out.size⟩
        · have HN := Lib.hid (tnew_any wr a0 cap0 A C _ hd ⟨by rw [List.length_replicate]; omega, fun d h => by rw [rep_mem h]; exact Nat.zero_le _, by rw [rowOf_nils]; omega, fun d h c hc => by rw [rep_mem h] at hc; cases hc⟩)
          unfold NewPost at HN
          rw [List.length_replicate] at HN ⊢
          have t0 : ¬ (500 : Int) < (k : Int) := by omega
          clear hd hbig
          go_wp2_with (first
            | (go_at_call 10; refine HN.out.mono ?_; rintro e w3 ⟨bt, x, rfl, _, hb3⟩; have HB3 : Hid (Below w.heap.size w w3) := below_next HB.out hb3 HB.out.size; have HM3 := Lib.hid (HM.out.kept HB3.out); clear hb3)
            | (go_at_call 9; refine (awake9_any _ HM3.out).mono ?_; rintro e w4 ⟨rfl, hb4⟩))
          go_ret
          exact ⟨rfl, below_next HB3.out hb4 HB3.out.size⟩
  · by_cases hk1 : K = 1
    · subst hk1
      have en : bits .and .i64 long 15 = long % 16 := i64_mask long 4 (by omega)
      obtain ⟨N, hN, hN2⟩ : ∃ N : Nat, long % 16 = N ∧ N ≤ 15 := ⟨(long % 16).toNat, by omega, by omega⟩
      rw [hN] at en
      obtain ⟨M, hM⟩ : ∃ M : Nat, M = N + 1993 := ⟨_, rfl⟩
      have eM : (N : Int) + 1993 = (M : Int) := by omega
      have hM1 : 1993 ≤ M := by omega
      have hM2 : M ≤ 2008 := by omega
      have hmk := make_u8 M (by omega)
      have y0 : (((1 : Nat) : Int) == 0) = false := rfl
      have y1 : (((1 : Nat) : Int) == 1) = true := rfl
      have hz := zeros_row w M
      have hb1 : Below w.heap.size w ((w.alloc (.cells (madeCells #[.int .u8 0] M) 5)).alloc (.cells #[.slice (some ⟨w.heap.size, 0, none⟩) M M] 29)) := ((Below.refl _ w).alloc (Nat.le_refl _) _).alloc (by simp) _
      have hd : DocsAt ((w.alloc (.cells (madeCells #[.int .u8 0] M) 5)).alloc (.cells #[.slice (some ⟨w.heap.size, 0, none⟩) M M] 29)) (some ⟨w.heap.size + 1, 0, none⟩) (fun _ => some ⟨w.heap.size, 0, none⟩) (fun _ => M) [zeros M] := by
        have r := row_marked (w.alloc (.cells (madeCells #[.int .u8 0] M) 5)) #[.slice (some ⟨w.heap.size, 0, none⟩) M M] 29 (0, 0) (fun r => .slice (some ⟨w.heap.size, 0, none⟩) (([zeros M] : List (List Nat)).getD r []).length M) (by
          intro i hi
          match i, hi with
          | 0, _ => show _ = some (Value.slice _ (zeros M).length M); rw [zeros_len]; rfl)
        rw [World.size_alloc] at r
        refine ⟨r, fun r hr => ?_⟩
        match r, hr with
        | 0, _ => exact row_alloc hz _
      have HB := Lib.hid hb1
      clear hN hM hN2 hz hb1 hk0
      by_cases hbig : 2000 < M
      · have HN := Lib.hid (tnew_no _ _ 1 _ _ _ hd (by simp) (fun d h => by obtain rfl := List.mem_singleton.1 h; rw [zeros_len]; omega) 2 (.inr (.inl ⟨by simp, ⟨_, List.mem_singleton.2 rfl, by rw [zeros_len]; exact hbig⟩, rfl⟩)))
        rw [show ([zeros M] : List (List Nat)).length = 1 from rfl] at HN
        have t0 : (2000 : Int) < (M : Int) := by omega
        clear hd hbig
        go_enter Try.func6, Try.ntmps6
        have HM3 := Lib.hid (HM.out.kept HB.out)
        go_wp2_with (first
          | (go_at_call 10; refine HN.out.mono ?_; rintro e w' ⟨rfl, rfl⟩)
          | (go_at_call 9; refine (awake9_any _ HM3.out).mono ?_; rintro e w4 ⟨rfl, hb4⟩))
        go_ret
        exact ⟨rfl, below_next HB.out hb4 HB.out.size⟩
      · have HN := Lib.hid (tnew_any _ _ 1 _ _ _ hd ⟨by simp, fun d h => by obtain rfl := List.mem_singleton.1 h; rw [zeros_len]; omega, by rw [rowOf_z]; omega, fun d h => by obtain rfl := List.mem_singleton.1 h; exact zeros_byte M⟩)
        unfold NewPost at HN
        rw [show ([zeros M] : List (List Nat)).length = 1 from rfl] at HN
        have t0 : ¬ (2000 : Int) < (M : Int) := by omega
        clear hd hbig
        go_enter Try.func6, Try.ntmps6
        go_wp2_with (first
          | (go_at_call 10; refine HN.out.mono ?_; rintro e w3 ⟨bt, x, rfl, _, hb3⟩; have HB3 : Hid (Below w.heap.size w w3) := below_next HB.out hb3 HB.out.size; have HM3 := Lib.hid (HM.out.kept HB3.out); clear hb3)
          | (go_at_call 9; refine (awake9_any _ HM3.out).mono ?_; rintro e w4 ⟨rfl, hb4⟩))
        go_ret
        exact ⟨rfl, below_next HB3.out hb4 HB3.out.size⟩
    · have en : bits .and .i64 long 63 = long % 64 := i64_mask long 6 (by omega)
      obtain ⟨N, hN, hN2⟩ : ∃ N : Nat, long % 64 = N ∧ N ≤ 63 := ⟨(long % 64).toNat, by omega, by omega⟩
      rw [hN] at en
      obtain ⟨M, hM⟩ : ∃ M : Nat, M = N + 250 := ⟨_, rfl⟩
      have eM : (N : Int) + 250 = (M : Int) := by omega
      have hM1 : 250 ≤ M := by omega
      have hM2 : M ≤ 313 := by omega
      have hmk := make_u8 M (by omega)
      have hmk2 : ∀ W : World, (Instr.makeSlice 29 (.int .i64 1990) (.int .i64 1990)).run Try.prog W = .ok (.slice (some ⟨W.heap.size, 0, none⟩) 1990 1990) (W.alloc (.cells (madeCells #[.int .u8 0] 1990) 5)) := make_u8 1990 (by omega)
      have y0 : ((K : Int) == 0) = false := by rw [beq_eq_false_iff_ne]; omega
      have y1 : ((K : Int) == 1) = false := by rw [beq_eq_false_iff_ne]; omega
      clear hN hM hN2 hk0 hk1
      go_enter Try.func6, Try.ntmps6
      go_wp2_with fail
      clear y0 y1 ek
      go_loopw [7, 10] (fun v7 v10 wr => ∃ k : Nat, k ≤ 30 ∧ v10 = .int .i64 (k : Int) ∧ LRel w.heap.size wr v7 (List.replicate k (zeros 1990)) ∧ Below w.heap.size w wr) (fun _ v10 _ => 30 - (intOf v10).toNat)
      case atStart => exact ⟨0, Nat.zero_le _, rfl, LRel.nil _ _, Below.refl _ _⟩
      case round =>
        obtain ⟨k, hk, rfl, hlr, hbel⟩ := hrel
        have HB := Lib.hid hbel
        have hsz := hbel.size
        by_cases hlt : (k : Int) < 30
        · have hl0 : (List.replicate k (zeros 1990)).length = k := List.length_replicate ..
          have HNX : Hid (List.replicate (k + 1) (zeros 1990) = List.replicate k (zeros 1990) ++ [zeros 1990]) := List.replicate_succ'
          generalize List.replicate k (zeros 1990) = D at *
          have HDL := Lib.hid hl0
          have hb1 : Below wr.heap.size wr (wr.alloc (.cells (madeCells #[.int .u8 0] 1990) 5)) := (Below.refl _ _).alloc (Nat.le_refl _) _
          obtain ⟨A, C, hown, hrows⟩ := hlr.kept hb1
          have hlt0 := (hlr.kept (Below.refl _ _))
          have hown0 := hown
          have hzr := zeros_row wr 1990
          have hneq : (zeros 1990).length = 0 ∨ u7.ownBlock ≠ some (bOf (some ⟨wr.heap.size, 0, none⟩)) := .inr (fun e => by
            obtain ⟨A', C', hown', _⟩ := hlr
            have := (hown'.lt _ e).2
            simp [bOf] at this)
          have HAPP := Lib.hid (fun (v' : Value) (w2 : World) h1 h2 h3 => LRel.app (base := w.heap.size) (v' := v') (w1 := w2) (C := C) (c := 1990) (d := zeros 1990) (tmp := .cells #[.slice (some ⟨wr.heap.size, 0, none⟩) 1990 1990] 29) hrows hzr hneq h1 h2 h3)
          have hlt2 := hown.lt
          generalize (List.range D.length).map (fun j => Value.slice (A j) (D.getD j []).length (C j)) = X at *
          have HO := Lib.hid hown
          clear hown hown0 hlt0 hrows hbel hl0 hlr hb1 hzr hneq
          rw [zeros_len] at HAPP
          go_wp2_with (at_builtin; refine wpList_append_own_at _ rfl _ _ 22 rfl w.heap.size 29 i0 (.slice none 0 0) 1 24 Try.underlying22 hi0 hz0 hz1 hz2 rfl (by decide) _ D.length _ rfl (HO.out.alloc _) ⟨wr.heap.size + 1, 0, none⟩ 1 1 [.slice (some ⟨wr.heap.size, 0, none⟩) 1990 1990] rfl rfl (cell_one_at1 _ _ _ _) (by simp [Value.oneCell']) (by have := HDL.out; simp only [maxLen]; omega) (by have := HDL.out; omega) (by simp; omega) ?_; intro v' w2 hown' hgrow _ hat)
          have HL2 := Lib.hid (HAPP.out v' w2 hown' hgrow hat)
          have HB2 : Hid (Below w.heap.size w w2) := ((HB.out.alloc hsz _).alloc (by simp; omega) _).grown hgrow (by simp; omega) (fun g hg => (hlt2 g hg).1)
          clear hown' hgrow hat hlt2
          go_wp2
          go_roundw
          case rel => exact ⟨k + 1, by omega, by go_num, by rw [HNX.out]; exact HL2.out, HB2.out⟩
          case measure => simp [intOf]; omega
        · obtain rfl : k = 30 := by omega
          have hb1 : Below wr.heap.size wr (wr.alloc (.cells (madeCells #[.int .u8 0] M) 5)) := (Below.refl _ _).alloc (Nat.le_refl _) _
          have hl0 : (List.replicate 30 (zeros 1990)).length = 30 := List.length_replicate ..
          generalize hDD : List.replicate 30 (zeros 1990) = D at *
          have HDD := Lib.hid hDD
          have HDL := Lib.hid hl0
          obtain ⟨A, C, hown, hrows⟩ := hlr.kept hb1
          have hzr := zeros_row wr M
          have hneq : (zeros M).length = 0 ∨ u7.ownBlock ≠ some (bOf (some ⟨wr.heap.size, 0, none⟩)) := .inr (fun e => by
            obtain ⟨A', C', hown', _⟩ := hlr
            have := (hown'.lt _ e).2
            simp [bOf] at this)
          have HAPP := Lib.hid (fun (v' : Value) (w2 : World) h1 h2 h3 => LRel.app (base := w.heap.size) (v' := v') (w1 := w2) (C := C) (c := M) (d := zeros M) (tmp := .cells #[.slice (some ⟨wr.heap.size, 0, none⟩) M M] 29) hrows hzr hneq h1 h2 h3)
          have hlt2 := hown.lt
          generalize (List.range D.length).map (fun j => Value.slice (A j) (D.getD j []).length (C j)) = X at *
          have HO := Lib.hid hown
          clear hown hrows hbel hl0 hlr hb1 hzr hneq hDD hmk2 hk hlt
          rw [zeros_len] at HAPP
          have hkd : decide ((30 : Int) < 30) = false := rfl
          by_cases hbig : 60000 < 59730 + M + 1
          · have t0 : (60000 : Int) < 59730 + (M : Int) + 1 := by omega
            have t1 : decide ((60000 : Int) < 59730 + (M : Int) + 1) = true := by simp; omega
            go_wp2_with (at_builtin; refine wpList_append_own_at _ rfl _ _ 22 rfl w.heap.size 29 i0 (.slice none 0 0) 1 24 Try.underlying22 hi0 hz0 hz1 hz2 rfl (by decide) _ D.length _ rfl (HO.out.alloc _) ⟨wr.heap.size + 1, 0, none⟩ 1 1 [.slice (some ⟨wr.heap.size, 0, none⟩) M M] rfl rfl (cell_one_at1 _ _ _ _) (by simp [Value.oneCell']) (by have := HDL.out; simp only [maxLen]; omega) (by have := HDL.out; omega) (by simp; omega) ?_; intro v' w2 hown' hgrow _ hat; have HL2 := Lib.hid (HAPP.out v' w2 hown' hgrow hat); have HB2 : Hid (Below w.heap.size w w2) := ((HB.out.alloc hsz _).alloc (by simp; omega) _).grown hgrow (by simp; omega) (fun g hg => (hlt2 g hg).1); clear hown' hgrow hat hlt2; obtain ⟨a0, cap0, A9, C9, rfl, hd⟩ := HL2.out.docs; have HDC := Lib.hid hd; clear hd HL2)
            clear t0 t1 hmk
            have HN := Lib.hid (tnew_no w2 a0 cap0 A9 C9 _ HDC.out (by rw [List.length_append, HDL.out]; simp) (fun d h => by rw [← HDD.out] at h; rcases List.mem_append.1 h with h | h; (rw [rep_mem h, zeros_len]; omega); (obtain rfl := List.mem_singleton.1 h; rw [zeros_len]; omega)) 2 (.inr (.inr ⟨by rw [List.length_append, HDL.out]; simp, (fun d h => by rw [← HDD.out] at h; rcases List.mem_append.1 h with h | h; (rw [rep_mem h, zeros_len]; omega); (obtain rfl := List.mem_singleton.1 h; rw [zeros_len]; omega)), by rw [← HDD.out, rowOf_zs]; exact hbig, rfl⟩)))
            rw [List.length_append, List.length_singleton] at HN
            have HB := HB2
            clear hbig
            have HM3 := Lib.hid (HM.out.kept HB.out)
            go_wp2_with (first
              | (go_at_call 10; refine HN.out.mono ?_; rintro e w' ⟨rfl, rfl⟩)
              | (go_at_call 9; refine (awake9_any _ HM3.out).mono ?_; rintro e w4 ⟨rfl, hb4⟩))
            go_ret
            exact ⟨rfl, below_next HB.out hb4 HB.out.size⟩
          · have t0 : ¬ (60000 : Int) < 59730 + (M : Int) + 1 := by omega
            have t1 : decide ((60000 : Int) < 59730 + (M : Int) + 1) = false := by simp; omega
            go_wp2_with (at_builtin; refine wpList_append_own_at _ rfl _ _ 22 rfl w.heap.size 29 i0 (.slice none 0 0) 1 24 Try.underlying22 hi0 hz0 hz1 hz2 rfl (by decide) _ D.length _ rfl (HO.out.alloc _) ⟨wr.heap.size + 1, 0, none⟩ 1 1 [.slice (some ⟨wr.heap.size, 0, none⟩) M M] rfl rfl (cell_one_at1 _ _ _ _) (by simp [Value.oneCell']) (by have := HDL.out; simp only [maxLen]; omega) (by have := HDL.out; omega) (by simp; omega) ?_; intro v' w2 hown' hgrow _ hat; have HL2 := Lib.hid (HAPP.out v' w2 hown' hgrow hat); have HB2 : Hid (Below w.heap.size w w2) := ((HB.out.alloc hsz _).alloc (by simp; omega) _).grown hgrow (by simp; omega) (fun g hg => (hlt2 g hg).1); clear hown' hgrow hat hlt2; obtain ⟨a0, cap0, A9, C9, rfl, hd⟩ := HL2.out.docs; have HDC := Lib.hid hd; clear hd HL2)
            clear t0 t1 hmk
            have HN := Lib.hid (tnew_any w2 a0 cap0 A9 C9 _ HDC.out ⟨by rw [List.length_append, HDL.out]; simp, (fun d h => by rw [← HDD.out] at h; rcases List.mem_append.1 h with h | h; (rw [rep_mem h, zeros_len]; omega); (obtain rfl := List.mem_singleton.1 h; rw [zeros_len]; omega)), by rw [← HDD.out, rowOf_zs]; omega, fun d h => by rw [← HDD.out] at h; rcases List.mem_append.1 h with h | h; (rw [rep_mem h]; exact zeros_byte _); (obtain rfl := List.mem_singleton.1 h; exact zeros_byte _)⟩)
            unfold NewPost at HN
            rw [List.length_append, List.length_singleton] at HN
            have HB := HB2
            clear hbig
            go_wp2_with (first
              | (go_at_call 10; refine HN.out.mono ?_; rintro e w3 ⟨bt, x, rfl, _, hb3⟩; have HB3 : Hid (Below w.heap.size w w3) := below_next HB.out hb3 HB.out.size; have HM3 := Lib.hid (HM.out.kept HB3.out); clear hb3)
              | (go_at_call 9; refine (awake9_any _ HM3.out).mono ?_; rintro e w4 ⟨rfl, hb4⟩))
            go_ret
            exact ⟨rfl, below_next HB3.out hb4 HB3.out.size⟩
end Go.Proofs.Ytehgpggkicoddaa
