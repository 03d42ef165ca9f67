/-
  What a Text is asked: At; the search in a row that rises.
-/
import Derived.Test.YtehgpggkicoddaaSameInts
import Derived.Test.YtehgpggkicoddaaTextNew
namespace Go.Proofs.Ytehgpggkicoddaa
open Go.RowKit

theorem less_int (w : World) (x y : Int) : Calls Try.prog 28 #[.int .i64 x, .int .i64 y] w fun e w' => e = .returned (.bool (decide (x < y))) ∧ w = w' := by
  by_cases h : x < y
  · have hd : decide (x < y) = true := by simp [h]
    rw [hd]
    go_enter Try.func28, Try.ntmps28
    go_wp2
    go_ret
    exact ⟨rfl, rfl⟩
  · have hd : decide (x < y) = false := by simp [h]
    rw [hd]
    go_enter Try.func28, Try.ntmps28
    go_wp2
    go_ret
    exact ⟨rfl, rfl⟩
set_option maxRecDepth 100000 in
set_option maxHeartbeats 1000000 in
theorem bsearch_any (w : World) (a : Option Addr) (n cap : Nat) (f : Nat → Nat) (x t : Nat) (hn : n ≤ 100000) (_ : x ≤ 1000000) (hf : ∀ j, j < n → f j ≤ 1000000) (hr : Row w a n (fun r => .int .i64 ((f r : Nat) : Int))) (ht : t ≤ n) (hlt : ∀ j, j < n → (f j < x ↔ j < t)) :
    Calls Try.prog 23 #[.slice a n cap, .int .i64 x] w fun e w' => e = .returned (.tuple #[.int .i64 t, .bool (decide (t < n) && decide (f t = x))]) ∧ w = w' := by
  have hix := run_ix (P := Try.prog) 48 (by kernel_rfl) size_int a n cap hr.at_ .i64
  have HR := Lib.hid hr
  have HF := Lib.hid hf
  have HL := Lib.hid hlt
  clear hr hf hlt
  go_enter Try.func23, Try.ntmps23
  go_wp2
  go_loop [7, 8] (fun ii jj => ∃ i j : Nat, i ≤ t ∧ t ≤ j ∧ j ≤ n ∧ ii = .int .i64 i ∧ jj = .int .i64 j) (fun ii jj => (intOf jj).toNat - (intOf ii).toNat)
  case atStart => exact ⟨0, n, Nat.zero_le _, ht, Nat.le_refl _, rfl, rfl⟩
  case round =>
    obtain ⟨i, j, hi, hj, hjn, rfl, rfl⟩ := hrel
    by_cases hij : (i : Int) < (j : Int)
    · obtain ⟨h, hh⟩ : ∃ h, h = (i + j) / 2 := ⟨_, rfl⟩
      have hhn : h < n := by omega
      have d := HR.out.cell h hhn
      have hfb := HF.out h hhn
      have hlh := HL.out h hhn
      have e1 : IntKind.u64.wrap ((i : Int) + (j : Int)) = (i : Int) + (j : Int) := IntWalk.u64_in _ (by omega)
      have e2 : ((i : Int) + (j : Int)) / 2 = (h : Int) := by omega
      have e3 : IntKind.i64.wrap (h : Int) = (h : Int) := IntWalk.i64_in _ (by omega)
      have hb1 : i ≤ h := by omega
      have hb2 : h < j := by omega
      clear hh
      go_wp2_with fail
      clear e1 e2 e3
      refine (less_int _ _ _).mono ?_
      rintro e w' ⟨rfl, rfl⟩
      by_cases hfx : f h < x
      · have hdd : decide ((f h : Int) < (x : Int)) = true := by simp; omega
        have hht := hlh.1 hfx
        rw [hdd]
        clear hlh
        generalize f h = y at *
        go_wp2
        go_round
        case rel => exact ⟨h + 1, j, by omega, hj, hjn, by go_num, rfl⟩
        case measure => simp [intOf]; omega
      · have hdd : decide ((f h : Int) < (x : Int)) = false := by simp; omega
        have hht : t ≤ h := by
          rcases Nat.lt_or_ge h t with g | g
          · exact (hfx (hlh.2 g)).elim
          · exact g
        rw [hdd]
        clear hlh
        generalize f h = y at *
        go_wp2
        go_round
        case rel => exact ⟨i, h, hi, hht, by omega, rfl, rfl⟩
        case measure => simp [intOf]; omega
    · obtain rfl : i = t := by omega
      obtain rfl : j = i := by omega
      clear hij hi hj ht
      by_cases htn : (j : Int) < (n : Int)
      · have d := HR.out.cell j (by omega)
        have htn' : j < n := by omega
        have e1 : decide (j < n) = true := by simp; omega
        by_cases hfx : f j = x
        · have e2 : decide (f j = x) = true := by simp [hfx]
          rw [hfx] at d
          have E1 := Lib.hid e1
          have E2 := Lib.hid e2
          clear e1 e2 hfx
          go_wp2
          go_ret2
          exact ⟨by first | (rw [E2.out]; rfl) | (rw [E1.out, E2.out]; rfl), rfl⟩
        · have e2 : decide (f j = x) = false := by simp [hfx]
          have e3 : ((f j : Int) == (x : Int)) = false := by simp; omega
          have E1 := Lib.hid e1
          have E2 := Lib.hid e2
          clear e1 e2 hfx
          obtain ⟨y, hy⟩ : ∃ y, y = f j := ⟨_, rfl⟩
          rw [← hy] at d e3
          clear hy
          go_wp2
          go_ret2
          exact ⟨by first | (rw [E2.out]; rfl) | (rw [E1.out, E2.out]; rfl), rfl⟩
      · have e1 : decide (j < n) = false := by simp; omega
        have E1 := Lib.hid e1
        clear e1
        go_wp2
        go_ret2
        exact ⟨by first | rfl | (rw [E1.out, Bool.false_and]; rfl), rfl⟩

/-- At, at a place that is there -/
theorem tat_any (w : World) (bt : Nat) (x : TxP) (ds : List (List Nat)) (ht : TextAt w bt x ds) (hok : NewOk ds) (r k : Nat) (hr : r < ds.length) (hk : k ≤ (ds.getD r []).length) :
    Calls Try.prog 19 #[.pointer (some ⟨bt, 0, none⟩), .int .i64 ((startOf ds r + k : Nat) : Int)] w fun e w' => e = .returned (.tuple #[.int .i64 r, .int .i64 k, .bool true]) ∧ ∃ j, w' = w.drewN j := by
  have hall := hok.all
  have hmany := hok.many
  have hmon := fun (a b : Nat) (h : a ≤ b) (hb : b ≤ ds.length) => startOf_mono ds h hb
  have hstep := fun (q : Nat) (hq : q < ds.length) => startOf_succ ds q hq
  have htot := startOf_all ds
  have hpl : startOf ds r + k < (rowOf ds).length := by
    have h1 := hmon (r + 1) ds.length (by omega) (Nat.le_refl _)
    have h2 := hstep r hr
    omega
  have hb : ∀ j, j < ds.length → startOf ds j ≤ 1000000 := fun j hj => by have := hmon j ds.length (by omega) (Nat.le_refl _); omega
  have hlt : ∀ j, j < ds.length → (startOf ds j < startOf ds r + k ↔ j < if k = 0 then r else r + 1) := fun j hj => by
    rcases Nat.lt_trichotomy j r with c | c | c
    · have h1 := hmon (j + 1) r (by omega) (by omega)
      have h2 := hstep j hj
      by_cases e : k = 0
      · rw [if_pos e]; omega
      · rw [if_neg e]; omega
    · subst c
      by_cases e : k = 0
      · rw [if_pos e]; omega
      · rw [if_neg e]; omega
    · have h1 := hmon (r + 1) j (by omega) (by omega)
      have h2 := hstep r hr
      by_cases e : k = 0
      · rw [if_pos e]; omega
      · rw [if_neg e]; omega
  have c1 := ht.c1
  have c2 := ht.c2
  have hix := run_ix (P := Try.prog) 48 (by kernel_rfl) size_int x.aa ds.length x.ca ht.at_.at_ .i64
  have hbs := bsearch_any w x.aa ds.length x.ca (startOf ds) (startOf ds r + k) (if k = 0 then r else r + 1) (by omega) (by omega) hb ht.at_ (by split <;> omega) hlt
  have d := ht.at_.cell r hr
  have hd2 : ¬ (((startOf ds r + k : Nat) : Int) < 0) := by omega
  have hd3 : ¬ (((rowOf ds).length : Int) ≤ ((startOf ds r + k : Nat) : Int)) := by omega
  have e9 : ((startOf ds r + k : Nat) : Int) - ((startOf ds r : Nat) : Int) = (k : Int) := by omega
  have e10 : IntKind.i64.wrap (((startOf ds r + k : Nat) : Int) - ((startOf ds r : Nat) : Int)) = (k : Int) := by rw [e9]; exact IntWalk.i64_in _ (by omega)
  by_cases h0 : k = 0
  · subst h0
    rw [if_pos rfl] at hbs
    have ef : (decide (r < ds.length) && decide (startOf ds r = startOf ds r + 0)) = true := by simp [hr]
    rw [ef] at hbs
    have HBS := Lib.hid hbs
    clear hbs ef ht hok hmon hstep htot hb hlt
    generalize (rowOf ds).length = n at *
    generalize hp : startOf ds r + 0 = p at *
    generalize startOf ds r = s at *
    clear hp
    go_enter Try.func19, Try.ntmps19
    go_wp2_with (go_at_call 23; refine HBS.out.mono ?_; rintro e w' ⟨rfl, rfl⟩)
    go_quiet (fail)
    clear e9 e10
    go_wp2
    go_ret3
    exact ⟨rfl, _, rfl⟩
  · rw [if_neg h0] at hbs
    have ef : (decide (r + 1 < ds.length) && decide (startOf ds (r + 1) = startOf ds r + k)) = false := by
      rw [Bool.and_eq_false_iff]
      right
      have := hstep r hr
      simp; omega
    rw [ef] at hbs
    have HBS := Lib.hid hbs
    have er : ((r + 1 : Nat) : Int) - 1 = (r : Int) := by omega
    have er2 : IntKind.i64.wrap (((r + 1 : Nat) : Int) - 1) = (r : Int) := by rw [er]; exact IntWalk.i64_in _ (by omega)
    clear hbs ef ht hok hmon hstep htot hb hlt
    generalize (rowOf ds).length = n at *
    generalize hp : startOf ds r + k = p at *
    generalize startOf ds r = s at *
    clear hp
    go_enter Try.func19, Try.ntmps19
    go_wp2_with (go_at_call 23; refine HBS.out.mono ?_; rintro e w' ⟨rfl, rfl⟩)
    go_quiet (fail)
    clear e9 e10 er er2
    go_wp2
    go_ret3
    exact ⟨rfl, _, rfl⟩
end Go.Proofs.Ytehgpggkicoddaa
