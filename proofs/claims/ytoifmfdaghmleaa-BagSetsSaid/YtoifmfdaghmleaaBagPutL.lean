/-
  The statements' own lists: put, set, at.
-/
import Derived.Test.YtoifmfdaghmleaaBagApp
import Derived.Test.YtoifmfdaghmleaaSameInts
set_option linter.unusedVariables false
namespace Go.Proofs.Ytoifmfdaghmleaa
open Go.RowKit Go.Lib Go.Sort Go.Shelf

theorem getD_insAt (l : List Int) (r : Nat) (x : Int) (f : Int → Value) (hr : r ≤ l.length) : (List.range r).map (fun j => f (l.getD j 0)) ++ [f x] ++ (List.range (l.length - r)).map (fun j => f (l.getD (r + j) 0)) = (insAt l r x).map f := by
  unfold insAt
  rw [List.map_append, List.map_cons, List.append_assoc, List.singleton_append]
  congr 1
  · apply List.ext_getElem?
    intro j
    rw [List.getElem?_map, List.getElem?_map]
    rcases Nat.lt_or_ge j r with h | h
    · rw [List.getElem?_range h, List.getElem?_take_of_lt h, List.getElem?_eq_getElem (by omega)]
      simp [List.getD_eq_getElem?_getD, List.getElem?_eq_getElem (show j < l.length by omega)]
    · rw [List.getElem?_eq_none (by simpa using h), List.getElem?_eq_none (by simp; omega)]; rfl
  · congr 1
    apply List.ext_getElem?
    intro j
    rw [List.getElem?_map, List.getElem?_map, List.getElem?_drop]
    rcases Nat.lt_or_ge j (l.length - r) with h | h
    · rw [List.getElem?_range h, List.getElem?_eq_getElem (by omega)]
      simp [List.getD_eq_getElem?_getD, List.getElem?_eq_getElem (show r + j < l.length by omega)]
    · rw [List.getElem?_eq_none (by simpa using h), List.getElem?_eq_none (by omega)]; rfl
abbrev intsF (l : List Int) : Nat → Value := fun j => .int .i64 (l.getD j 0)
def PutP (w : World) (l : List Int) (e : Ending) (w' : World) : Prop := ∃ a cap, e = .returned (.slice a l.length cap) ∧ SRow w' a l.length cap (intsF l) ∧ Below w.heap.size w w'
/-- .. and whether it is new -/
def PutX (w : World) (o : Option Addr) (n : Nat) (l : List Int) (e : Ending) (w' : World) : Prop := ∃ a cap, e = .returned (.slice a l.length cap) ∧ SRow w' a l.length cap (intsF l) ∧ Below w.heap.size w w' ∧ ((a = o ∧ l.length = n) ∨ w.heap.size ≤ bOf a)
theorem srow_ints {w : World} {base : Nat} {v : Value} {l : List Int} (h : w.ownsRow base 3 1 v l.length (l.map (Value.int .i64))) : ∃ a cap, v = .slice a l.length cap ∧ SRow w a l.length cap (intsF l) := by
  obtain ⟨a, cap, rfl, hr⟩ := SRow.of_owns h
  exact ⟨a, cap, rfl, hr.at_, hr.le, hr.row.congr fun j hj => by
    show (l.map (Value.int .i64)).getD j undef = .int .i64 (l.getD j 0)
    rw [List.getD_eq_getElem?_getD, List.getElem?_map, List.getElem?_eq_getElem hj, List.getD_eq_getElem?_getD, List.getElem?_eq_getElem hj]; rfl⟩
set_option maxRecDepth 100000 in
set_option maxHeartbeats 2000000 in
theorem put_anyX (w : World) (a : Option Addr) (n cap : Nat) (l : List Int) (hl : l.length = n) (hr : SRow w a n cap (intsF l)) (hn : n ≤ 100000) (hs : Rise ltI l) (x : Int) :
    Calls Try.prog 48 #[.slice a n cap, .int .i64 x] w (PutX w a n (putL ltI l x)) := by
  obtain ⟨i0, hi0, hz0, hz1, hz2⟩ := info_parts info_rI
  have hix := run_ix (P := Try.prog) 31 (by kernel_rfl) size_int a n cap hr.row.at_ .i64
  have hrn := rk_le (lt := ltI) l x
  rw [hl] at hrn
  have HR := Lib.hid hr
  have HIX := Lib.hid hix
  have HN := Lib.hid hl
  have HP := Lib.hid (fun k (hk : k < n) => show l.getD k 0 < x ↔ k < rk ltI l x by
    rw [List.getD_eq_getElem?_getD, List.getElem?_eq_getElem (by omega), Option.getD_some, ← rk_at ordI hs x k (by omega)]
    simp [ltI])
  have HM := Lib.hid (show (x ∈ l ↔ rk ltI l x < n ∧ l.getD (rk ltI l x) 0 = x) by
    rw [rk_mem ordI hs x]
    constructor
    · rintro ⟨h, e⟩
      exact ⟨by omega, by rw [List.getD_eq_getElem?_getD, List.getElem?_eq_getElem h, Option.getD_some, e]⟩
    · rintro ⟨h, e⟩
      exact ⟨by omega, by rwa [List.getD_eq_getElem?_getD, List.getElem?_eq_getElem (by omega), Option.getD_some] at e⟩)
  have HPUT := Lib.hid (show putL ltI l x = if x ∈ l then l else insAt l (rk ltI l x) x from rfl)
  clear hr hix hs hl
  generalize rk ltI l x = t at *
  go_enter Try.func48, Try.ntmps48
  go_wp2
  go_loopw [5] (fun v5 wr => ∃ k : Nat, k ≤ t ∧ v5 = .int .i64 (k : Int) ∧ wr = w) (fun v5 _ => n - (intOf v5).toNat)
  case atStart => exact ⟨0, Nat.zero_le _, rfl, rfl⟩
  case round =>
    obtain ⟨k, hk, rfl, hwr⟩ := hrel
    by_cases hlt : k < n
    · have d := HR.out.row.cell k hlt
      have hxk := fun W => HIX.out W k hlt
      have hp := HP.out k hlt
      have tk : (k : Int) < (n : Int) := by omega
      have HMK := Lib.hid (show k = t → (x ∈ l ↔ l.getD k 0 = x) from fun e => by have := HM.out; rw [← e] at this; rw [this]; exact ⟨fun h => h.2, fun h => ⟨hlt, h⟩⟩)
      simp only [intsF] at d
      generalize hy : l.getD k 0 = y at *
      by_cases hkt : k < t
      · have t2 := hp.2 hkt
        clear hp hy HMK
        go_wp2
        go_roundw
        case rel => exact ⟨k + 1, by omega, by go_num, trivial⟩
        case measure => simp [intOf]; omega
      · have t2 : ¬ y < x := fun h => hkt (hp.1 h)
        obtain rfl : k = t := by omega
        clear hp hkt
        by_cases hyx : y = x
        · have hm := (HMK.out rfl).2 hyx
          have hput := HPUT.out
          rw [if_pos hm] at hput
          have HF : Hid (PutX w a n (putL ltI l x) (.returned (.slice a n cap)) w) := ⟨a, cap, by rw [hput, HN.out], by rw [hput, HN.out]; exact HR.out, Below.refl _ _, .inl ⟨rfl, by rw [hput, HN.out]⟩⟩
          have t3 : (y == x) = true := by simpa using hyx
          clear hput hm HMK hyx hy
          go_wp2
          go_ret
          exact HF.out
        · have hm : x ∉ l := fun h => hyx ((HMK.out rfl).1 h)
          have hput := HPUT.out
          rw [if_neg hm] at hput
          have HPT := Lib.hid hput
          have t3 : (y == x) = false := by simpa using hyx
          clear hput hm HMK hyx hy
          have hkn : k ≤ n := hrn
          have hsh := fun W => run_cuth W 31 3 Try.underlying31 (fun w => by kernel_rfl) a n cap k (Nat.le_trans hkn HR.out.le) HR.out.at_
          have hsl := fun W => run_cutl W 31 3 Try.underlying31 (fun w => by kernel_rfl) a n cap k hkn
          have HRK := Lib.hid (fun W (hW : Below w.heap.size w W) => (HR.out.row.take hkn).kept hW)
          have HRD : Hid (∀ W, Below w.heap.size w W → Row W (cutA1 a cap k) (n - k) (fun j => intsF l (k + j))) := fun W hW => by have := (HR.out.cutl hkn).kept hW; first | exact this | (rw [Nat.sub_self] at this; exact this)
          obtain rfl : wr = w := hwr
          go_wp2
          go_region_law (first
            | (refine step_append_row rfl _ _ _ rfl wr 3 i0 _ 8 Try.underlying31 hi0 hz0 hz1 hz2 rfl _ 0 [] rfl (by first | exact ownA _ _ _ | exact ownB _ _ _ | exact ownC _ _) _ k _ (intsF l) rfl (HRK.out _ (by first | exact belA _ _ _ | exact belC _ _)) (fun _ _ => rfl) (by simp only [maxLen]; omega) (by omega) (by first | exact belA _ _ _ | exact belC _ _) ?_; rintro v1 w1 ho1 hg1 hb1; rw [Nat.zero_add, List.nil_append] at ho1; obtain ⟨a1, c1, rfl, -⟩ := Row.of_owns ho1; (first | (have hrx : Row w1 (some ⟨wr.heap.size, 0, none⟩) 1 (fun _ => (.int .i64 x)) := ((rowA wr (.int .i64 x) 3).gb hg1 (.inr (show (some wr.heap.size : Option Nat) ≠ (Value.slice (some ⟨wr.heap.size + 1, 0, none⟩) 0 0).ownBlock by simp [Value.ownBlock])))) | (have hrx : Row w1 (some ⟨wr.heap.size + 1, 0, none⟩) 1 (fun _ => (.int .i64 x)) := ((rowB wr (.int .i64 x) 3).gb hg1 (.inr (show (some (wr.heap.size + 1) : Option Nat) ≠ (Value.slice (some ⟨wr.heap.size, 0, none⟩) 0 0).ownBlock by simp [Value.ownBlock])))) | skip); have HO1 := Lib.hid ho1; have HB1 := Lib.hid hb1; clear ho1 hg1 hb1)
            | (refine step_append_row rfl _ _ _ rfl wr 3 i0 _ 8 Try.underlying31 hi0 hz0 hz1 hz2 rfl (.slice a1 k c1) k _ rfl (by first | exact HO1.out | exact World.ownsRow.alloc HO1.out _) _ 1 _ (fun _ => (.int .i64 x)) rfl (by first | exact hrx | exact row_one_new _ _ _) (fun _ _ => rfl) (by simp only [maxLen]; omega) (by omega) (by first | exact HB1.out | exact HB1.out.alloc HB1.out.size _) ?_; rintro v2 w2 ho2 hg2 hb2; obtain ⟨a2, c2, rfl, -⟩ := Row.of_owns ho2; have HO2 := Lib.hid ho2; have HB2 := Lib.hid hb2; clear ho2 hg2 hb2)
            | (refine step_append_row rfl _ _ _ rfl wr 3 i0 _ 8 Try.underlying31 hi0 hz0 hz1 hz2 rfl (.slice a2 (k + 1) c2) (k + 1) _ rfl HO2.out _ (n - k) _ (fun j => intsF l (k + j)) rfl (HRD.out _ HB2.out) (fun _ _ => rfl) (by simp only [maxLen]; omega) (by omega) HB2.out ?_; rintro v3 w3 ho3 hg3 hb3; obtain ⟨a3, c3, rfl, -⟩ := Row.of_owns ho3; have HO3 := Lib.hid ho3; have HB3 := Lib.hid hb3; clear ho3 hg3 hb3))
          all_goals
            go_wp2
            go_ret
            have hO := HO3.out
            rw [HPT.out]
            have hlen : k + 1 + (n - k) = (insAt l k x).length := by rw [insAt_len, HN.out]; try omega
            have hxs : (List.range k).map (intsF l) ++ (List.range 1).map (fun _ => Value.int .i64 x) ++ (List.range (n - k)).map (fun j => intsF l (k + j)) = (insAt l k x).map (Value.int .i64) := by
              have := getD_insAt l k x (Value.int .i64) (by rw [HN.out]; omega)
              rw [HN.out] at this
              first | exact this | (rw [Nat.sub_self] at this; exact this)
            rw [hxs, hlen] at hO
            rw [hlen]
            have hfar := (owns_row hO).2.resolve_left (by rw [insAt_len]; omega)
            obtain ⟨a9, c9, e9, hs9⟩ := srow_ints hO
            injection e9 with e9 e8 e7
            subst e9 e7
            exact ⟨_, _, rfl, hs9, HB3.out, .inr hfar⟩
    · obtain rfl : k = t := by omega
      obtain rfl : k = n := by omega
      have hm : x ∉ l := fun h => by have := (HM.out.1 h).1; omega
      have hput := HPUT.out
      rw [if_neg hm] at hput
      have HPT := Lib.hid hput
      have tk : ¬ (k : Int) < (k : Int) := by omega
      clear hput hm hlt
      have hkn : k ≤ k := hrn
      have hsh := fun W => run_cuth W 31 3 Try.underlying31 (fun w => by kernel_rfl) a k cap k (Nat.le_trans hkn HR.out.le) HR.out.at_
      have hsl := fun W => run_cutl W 31 3 Try.underlying31 (fun w => by kernel_rfl) a k cap k hkn
      have HRK := Lib.hid (fun W (hW : Below w.heap.size w W) => (HR.out.row.take hkn).kept hW)
      have HRD : Hid (∀ W, Below w.heap.size w W → Row W (cutA1 a cap k) 0 (fun j => intsF l (k + j))) := fun W hW => by have := (HR.out.cutl hkn).kept hW; first | exact this | (rw [Nat.sub_self] at this; exact this)
      obtain rfl : wr = w := hwr
      go_wp2
      go_region_law (first
        | (refine step_append_row rfl _ _ _ rfl wr 3 i0 _ 8 Try.underlying31 hi0 hz0 hz1 hz2 rfl _ 0 [] rfl (by first | exact ownA _ _ _ | exact ownB _ _ _ | exact ownC _ _) _ k _ (intsF l) rfl (HRK.out _ (by first | exact belA _ _ _ | exact belC _ _)) (fun _ _ => rfl) (by simp only [maxLen]; omega) (by omega) (by first | exact belA _ _ _ | exact belC _ _) ?_; rintro v1 w1 ho1 hg1 hb1; rw [Nat.zero_add, List.nil_append] at ho1; obtain ⟨a1, c1, rfl, -⟩ := Row.of_owns ho1; (first | (have hrx : Row w1 (some ⟨wr.heap.size, 0, none⟩) 1 (fun _ => (.int .i64 x)) := ((rowA wr (.int .i64 x) 3).gb hg1 (.inr (show (some wr.heap.size : Option Nat) ≠ (Value.slice (some ⟨wr.heap.size + 1, 0, none⟩) 0 0).ownBlock by simp [Value.ownBlock])))) | (have hrx : Row w1 (some ⟨wr.heap.size + 1, 0, none⟩) 1 (fun _ => (.int .i64 x)) := ((rowB wr (.int .i64 x) 3).gb hg1 (.inr (show (some (wr.heap.size + 1) : Option Nat) ≠ (Value.slice (some ⟨wr.heap.size, 0, none⟩) 0 0).ownBlock by simp [Value.ownBlock])))) | skip); have HO1 := Lib.hid ho1; have HB1 := Lib.hid hb1; clear ho1 hg1 hb1)
        | (refine step_append_row rfl _ _ _ rfl wr 3 i0 _ 8 Try.underlying31 hi0 hz0 hz1 hz2 rfl (.slice a1 k c1) k _ rfl (by first | exact HO1.out | exact World.ownsRow.alloc HO1.out _) _ 1 _ (fun _ => (.int .i64 x)) rfl (by first | exact hrx | exact row_one_new _ _ _) (fun _ _ => rfl) (by simp only [maxLen]; omega) (by omega) (by first | exact HB1.out | exact HB1.out.alloc HB1.out.size _) ?_; rintro v2 w2 ho2 hg2 hb2; obtain ⟨a2, c2, rfl, -⟩ := Row.of_owns ho2; have HO2 := Lib.hid ho2; have HB2 := Lib.hid hb2; clear ho2 hg2 hb2)
        | (refine step_append_row rfl _ _ _ rfl wr 3 i0 _ 8 Try.underlying31 hi0 hz0 hz1 hz2 rfl (.slice a2 (k + 1) c2) (k + 1) _ rfl HO2.out _ 0 _ (fun j => intsF l (k + j)) rfl (HRD.out _ HB2.out) (fun _ _ => rfl) (by simp only [maxLen]; omega) (by omega) HB2.out ?_; rintro v3 w3 ho3 hg3 hb3; obtain ⟨a3, c3, rfl, -⟩ := Row.of_owns ho3; have HO3 := Lib.hid ho3; have HB3 := Lib.hid hb3; clear ho3 hg3 hb3))
      all_goals
        go_wp2
        go_ret
        have hO := HO3.out
        rw [HPT.out]
        have hlen : k + 1 + 0 = (insAt l k x).length := by rw [insAt_len, HN.out]; try omega
        have hxs : (List.range k).map (intsF l) ++ (List.range 1).map (fun _ => Value.int .i64 x) ++ (List.range 0).map (fun j => intsF l (k + j)) = (insAt l k x).map (Value.int .i64) := by
          have := getD_insAt l k x (Value.int .i64) (by rw [HN.out]; omega)
          rw [HN.out] at this
          first | exact this | (rw [Nat.sub_self] at this; exact this)
        rw [hxs, hlen] at hO
        rw [hlen]
        have hfar := (owns_row hO).2.resolve_left (by rw [insAt_len]; omega)
        obtain ⟨a9, c9, e9, hs9⟩ := srow_ints hO
        injection e9 with e9 e8 e7
        subst e9 e7
        exact ⟨_, _, rfl, hs9, HB3.out, .inr hfar⟩
theorem put_any (w : World) (a : Option Addr) (n cap : Nat) (l : List Int) (hl : l.length = n) (hr : SRow w a n cap (intsF l)) (hn : n ≤ 100000) (hs : Rise ltI l) (x : Int) :
    Calls Try.prog 48 #[.slice a n cap, .int .i64 x] w (PutP w (putL ltI l x)) :=
  (put_anyX w a n cap l hl hr hn hs x).mono fun _ _ ⟨a', c', e, h, hb, _⟩ => ⟨a', c', e, h, hb⟩
theorem take_snoc {α : Type} (l : List α) (k : Nat) (d : α) (hk : k < l.length) : l.take (k + 1) = l.take k ++ [l.getD k d] := by
  rw [List.take_add_one, List.getElem?_eq_getElem hk, List.getD_eq_getElem?_getD, List.getElem?_eq_getElem hk]
  rfl
set_option maxRecDepth 100000 in
set_option maxHeartbeats 1000000 in
theorem set_any (w : World) (a : Option Addr) (n cap : Nat) (l : List Int) (hl : l.length = n) (hr : Row w a n (intsF l)) (hn : n ≤ 10000) :
    Calls Try.prog 30 #[.slice a n cap] w (PutP w (setL ltI l)) := by
  have hix := run_ix (P := Try.prog) 31 (by kernel_rfl) size_int a n cap hr.at_ .i64
  have HR := Lib.hid hr
  have HIX := Lib.hid hix
  have HN := Lib.hid hl
  clear hr hix hl
  go_enter Try.func30, Try.ntmps30
  go_wp2
  go_loopw [3, 4] (fun v3 v4 wr => ∃ (k : Nat) (a' : Option Addr) (c' : Nat), k ≤ n ∧ v4 = .int .i64 (k : Int) ∧ v3 = .slice a' (setL ltI (l.take k)).length c' ∧ SRow wr a' (setL ltI (l.take k)).length c' (intsF (setL ltI (l.take k))) ∧ Below w.heap.size w wr) (fun _ v4 _ => n - (intOf v4).toNat)
  case atStart => exact ⟨0, none, 0, Nat.zero_le _, rfl, rfl, SRow.nil _ _, Below.refl _ _⟩
  case round =>
    obtain ⟨k, a', c', hk, rfl, rfl, hrow, hb⟩ := hrel
    have HROW := Lib.hid hrow
    have HB := Lib.hid hb
    by_cases hlt : k < n
    · have d := (HR.out.kept hb).cell k hlt
      have hxk := fun W => HIX.out W k hlt
      have HT := Lib.hid (take_snoc l k 0 (by rw [HN.out]; exact hlt))
      have hle := setL_len (lt := ltI) (l.take k)
      have hle2 : (l.take k).length ≤ k := List.length_take_le _ _
      have hput := put_any wr a' _ c' (setL ltI (l.take k)) rfl hrow (by omega) (setL_is ordI _).1 (l.getD k 0)
      rw [← setL_snoc, ← take_snoc l k 0 (by rw [HN.out]; exact hlt)] at hput
      have HP := Lib.hid hput
      simp only [intsF] at d
      clear hput hrow hb hle hle2
      generalize l.getD k 0 = y at *
      generalize (setL ltI (l.take k)).length = m at *
      go_wp2_with fail
      refine HP.out.mono ?_
      rintro e w2 ⟨a2, c2, rfl, hr2, hb2⟩
      have HR2 := Lib.hid hr2
      have HB2 := Lib.hid (below_next HB.out hb2 HB.out.size)
      clear hr2 hb2 HP d hxk
      go_wp2
      go_roundw
      case rel => exact ⟨k + 1, a2, c2, by omega, by go_num, rfl, HR2.out, HB2.out⟩
      case measure => simp [intOf]; omega
    · obtain rfl : k = n := by omega
      have hd : decide ((k : Int) < (k : Int)) = false := by simp
      have HT : Hid (l.take k = l) := List.take_of_length_le (by rw [HN.out]; exact Nat.le_refl _)
      clear hrow hb hlt
      generalize hm : (setL ltI (l.take k)).length = m at *
      have HMM := Lib.hid hm
      clear hm
      go_wp2
      go_ret
      rw [HT.out] at HMM HROW
      have hrow := HROW.out
      rw [← HMM.out] at hrow
      exact ⟨a', c', by rw [HMM.out]; rfl, hrow, HB.out⟩
def whereI (l : List Int) (x : Int) : Int := if x ∈ l then (rk ltI l x : Int) else -1
set_option maxRecDepth 100000 in
theorem at_any5 (w : World) (a : Option Addr) (n cap : Nat) (l : List Int) (hl : l.length = n) (hr : Row w a n (intsF l)) (hn : n ≤ 100000) (hs : Rise ltI l) (x : Int) :
    Calls Try.prog 31 #[.slice a n cap, .int .i64 x] w fun e w' => e = .returned (.int .i64 (whereI l x)) ∧ w' = w := by
  have hix := run_ix (P := Try.prog) 31 (by kernel_rfl) size_int a n cap hr.at_ .i64
  have HR := Lib.hid hr
  have HIX := Lib.hid hix
  have HN := Lib.hid hl
  have HS := Lib.hid hs
  clear hr hix hl hs
  go_enter Try.func31, Try.ntmps31
  go_wp2
  go_loopw [5] (fun v5 wr => ∃ k : Nat, k ≤ n ∧ v5 = .int .i64 (k : Int) ∧ wr = w ∧ ∀ j, j < k → l.getD j 0 ≠ x) (fun v5 _ => n - (intOf v5).toNat)
  case atStart => exact ⟨0, Nat.zero_le _, rfl, rfl, fun j hj => by omega⟩
  case round =>
    obtain ⟨k, hk, rfl, hwr, hno⟩ := hrel
    have HNO := Lib.hid hno
    have HWR := Lib.hid hwr
    clear hno
    by_cases hlt : k < n
    · have d : wr.cell? ⟨bOf a, oOf a + k, none⟩ = some (.int .i64 (l.getD k 0)) := by rw [hwr]; exact HR.out.cell k hlt
      have hxk := fun W => HIX.out W k hlt
      have tk : (k : Int) < (n : Int) := by omega
      have HG := Lib.hid (show l.getD k 0 = l[k]'(by rw [HN.out]; exact hlt) by rw [List.getD_eq_getElem?_getD, List.getElem?_eq_getElem (by rw [HN.out]; exact hlt)]; rfl)
      by_cases hyx : l.getD k 0 = x
      · have hA : whereI l x = (k : Int) := by
          have hm : x ∈ l := by rw [← hyx, HG.out]; exact List.getElem_mem _
          unfold whereI
          rw [if_pos hm]
          obtain ⟨h1, h2⟩ := (rk_mem ordI HS.out x).1 hm
          have h3 : k = rk ltI l x := by
            rcases Nat.lt_trichotomy k (rk ltI l x) with h | h | h
            · have := (rk_at ordI HS.out x k (by rw [HN.out]; exact hlt)).2 h
              rw [← HG.out, hyx, ordI.irr] at this; cases this
            · exact h
            · exact absurd (by rw [List.getD_eq_getElem?_getD, List.getElem?_eq_getElem h1]; exact h2) (HNO.out _ h)
          omega
        have HA := Lib.hid hA
        have t3 : (l.getD k 0 == x) = true := by simpa using hyx
        clear hA hwr
        generalize l.getD k 0 = y at *
        go_wp2
        go_ret
        exact ⟨by rw [HA.out]; rfl, HWR.out⟩
      · have t3 : (l.getD k 0 == x) = false := by simpa using hyx
        have HNO2 : Hid (∀ j, j < k + 1 → l.getD j 0 ≠ x) := fun j hj => by
          by_cases e : j = k
          · rw [e]; exact hyx
          · exact HNO.out j (by omega)
        clear hwr
        generalize l.getD k 0 = y at *
        go_wp2
        go_roundw
        case rel => exact ⟨k + 1, by omega, by go_num, HWR.out, HNO2.out⟩
        case measure => simp [intOf]; omega
    · have hd : ¬ (k : Int) < (n : Int) := by omega
      have HA : Hid (whereI l x = -1) := by
        show _ = _
        unfold whereI
        rw [if_neg]
        intro hm
        obtain ⟨j, hj, e⟩ := List.getElem_of_mem hm
        exact HNO.out j (by have := HN.out; omega) (by rw [List.getD_eq_getElem?_getD, List.getElem?_eq_getElem hj]; exact e)
      clear hwr
      go_wp2
      go_ret
      exact ⟨by rw [HA.out]; rfl, HWR.out⟩
end Go.Proofs.Ytoifmfdaghmleaa
