/-
  suffix.Array: all places in order.
-/
import Derived.Test.YtjpoebmjfedecaaGreatSufWalk
import Derived.Test.YtjpoebmjfedecaaGreatTextNew
namespace Go.Proofs.YtjpoebmjfedecaaGreat
open Go.RowKit

theorem tlen_any (w : World) (bt : Nat) (x : TxP) (ds : List (List Nat)) (h : TextAt w bt x ds) :
    Calls Tryz.prog 65 #[.pointer (some ⟨bt, 0, none⟩)] w fun e w' => e = .returned (.int .i64 (((rowOf ds).length : Nat) : Int)) ∧ w = w' := by
  have c := h.c2
  clear h
  go_enter Tryz.func65, Tryz.ntmps65
  go_wp2
  go_ret
  exact ⟨rfl, rfl⟩
theorem trow_any (w : World) (bt : Nat) (x : TxP) (ds : List (List Nat)) (h : TextAt w bt x ds) :
    Calls Tryz.prog 45 #[.pointer (some ⟨bt, 0, none⟩)] w fun e w' => e = .returned (.slice x.ar (rowOf ds).length x.cr) ∧ w = w' := by
  have c := h.c2
  clear h
  go_enter Tryz.func45, Tryz.ntmps45
  go_wp2
  go_ret
  exact ⟨rfl, rfl⟩
theorem tdocs_any (w : World) (bt : Nat) (x : TxP) (ds : List (List Nat)) (h : TextAt w bt x ds) :
    Calls Tryz.prog 80 #[.pointer (some ⟨bt, 0, none⟩)] w fun e w' => e = .returned (.int .i64 (ds.length : Int)) ∧ w = w' := by
  have c := h.c0
  clear h
  go_enter Tryz.func80, Tryz.ntmps80
  go_wp2
  go_ret
  exact ⟨rfl, rfl⟩
def symL (row : List Nat) (D i : Nat) : List Nat := (List.range i).map (symP row D)
theorem symL_zero (row : List Nat) (D : Nat) : symL row D 0 = [] := rfl
theorem symL_succ (row : List Nat) (D i : Nat) : symL row D (i + 1) = symL row D i ++ [symP row D i] := by simp [symL, List.range_succ]
theorem symL_len (row : List Nat) (D i : Nat) : (symL row D i).length = i := by simp [symL]
theorem symL_at (row : List Nat) (D i j : Nat) (h : j < i) : (symL row D i).getD j 0 = symP row D j := by simp [symL, List.getD_eq_getElem?_getD, h]
attribute [irreducible] symL
set_option maxRecDepth 100000 in
set_option maxHeartbeats 1000000 in
theorem firsts_any (w : World) (bt : Nat) (x : TxP) (ds : List (List Nat)) (h : TextAt w bt x ds) (hok : NewOk ds) :
    Calls Tryz.prog 66 #[.pointer (some ⟨bt, 0, none⟩)] w (RanksPost w (rowOf ds).length (symP (rowOf ds) ds.length) (ds.length + 257)) := by
  have hix := run_ix (P := Tryz.prog) 22 (by kernel_rfl) size_u16 x.ar (rowOf ds).length x.cr h.row.at_ .i64
  have HX := Lib.hid h
  have hmany := hok.many
  have hall := hok.all
  have HLE := Lib.hid (row_le ds hok.byte)
  obtain ⟨i0, hi0, hz0, hz1, hz2⟩ := info_parts info_int
  clear h hok
  go_enter Tryz.func66, Tryz.ntmps66
  go_wp2_with (go_at_call 45; refine (trow_any _ bt x ds HX.out).mono ?_; rintro e w' ⟨rfl, rfl⟩)
  go_loopw [2, 4, 10] (fun v dd ii wr => ∃ i : Nat, i ≤ (rowOf ds).length ∧ ii = .int .i64 i ∧ dd = .int .i64 ((zc (rowOf ds) i : Nat) : Int) ∧ wr.ownsRow w.heap.size 3 1 v i (intVs (symL (rowOf ds) ds.length i)) ∧ Below w.heap.size w wr) (fun _ _ ii _ => (rowOf ds).length - (intOf ii).toNat)
  case atStart => exact ⟨0, Nat.zero_le _, rfl, by rw [zc_zero]; rfl, by rw [symL_zero]; exact World.ownsRow_nil _ _ _ _, Below.refl _ _⟩
  case round =>
    obtain ⟨i, hi, rfl, rfl, hown, hbel⟩ := hrel
    have hs := hbel.size
    have HX2 := Lib.hid (HX.out.kept hbel)
    by_cases hlt : i < (rowOf ds).length
    · have d0 : wr.cell? ⟨bOf x.ar, oOf x.ar + i, none⟩ = some (.int .u16 (((rowOf ds).getD i 0 : Nat) : Int)) := HX2.out.row.cell i hlt
      have hcb := HLE.out _ (getD_mem hlt)
      have hz := zc_succ (rowOf ds) i hlt
      have hzl := zc_le (rowOf ds) i
      have hfin := symL_succ (rowOf ds) ds.length i
      have hsy : symP (rowOf ds) ds.length i = if (rowOf ds).getD i 0 = 0 then zc (rowOf ds) i else ds.length + (rowOf ds).getD i 0 := rfl
      have HO := Lib.hid hown
      have HB := Lib.hid hbel
      clear hown hbel
      generalize (rowOf ds).getD i 0 = c at *
      by_cases hc : c = 0
      · subst hc
        rw [if_pos rfl] at hsy hz
        rw [hsy] at hfin
        have HFIN := Lib.hid hfin
        have HZ := Lib.hid hz
        clear hfin hz hsy
        generalize zc (rowOf ds) i = q at *
        go_wp2_with (at_builtin; refine wpList_append_own _ rfl _ _ 51 rfl w.heap.size 3 i0 (.int .i64 0) 1 8 Tryz.underlying51 hi0 hz0 hz1 hz2 rfl (by decide) _ _ _ rfl (HO.out.alloc _) ⟨wr.heap.size, 0, none⟩ 1 1 [.int .i64 (q : Int)] rfl rfl (cell_one_new _ _ _) (by simp [Value.oneCell']) (by simp only [maxLen]; omega) (by omega) (by simp; omega) ?_; intro v' w1 hown' hgrow _)
        have hlt' := HO.out.lt
        have ho1 : w1.ownsRow w.heap.size 3 1 v' (i + 1) (intVs (symL (rowOf ds) ds.length (i + 1))) := by rw [HFIN.out]; simpa [intVs] using hown'
        have HO1 := Lib.hid ho1
        have HB1 : Hid (Below w.heap.size w w1) := (HB.out.alloc hs _).grown hgrow (by simp; omega) (fun g hg => (hlt' g hg).1)
        clear hown' hgrow hlt' ho1
        go_wp2
        go_roundw
        case rel => exact ⟨i + 1, by omega, by go_num, by (rw [HZ.out]) <;> go_num, HO1.out, HB1.out⟩
        case measure => simp [intOf]; omega
      · rw [if_neg hc] at hsy hz
        rw [hsy] at hfin
        have HFIN := Lib.hid hfin
        have HZ := Lib.hid hz
        have t1 : ((c : Int) == 0) = false := by simp; omega
        have ex : IntKind.i64.wrap (c : Int) = (c : Int) := IntWalk.i64_in _ (by omega)
        clear hfin hz hsy hc
        go_wp2_with (first
          | (go_at_call 80; refine (tdocs_any _ bt x ds HX2.out).mono ?_; rintro e w' ⟨rfl, rfl⟩)
          | (at_builtin; refine wpList_append_own _ rfl _ _ 51 rfl w.heap.size 3 i0 (.int .i64 0) 1 8 Tryz.underlying51 hi0 hz0 hz1 hz2 rfl (by decide) _ _ _ rfl (HO.out.alloc _) ⟨wr.heap.size, 0, none⟩ 1 1 [.int .i64 ((ds.length : Int) + (c : Int))] rfl rfl (cell_one_new _ _ _) (by simp [Value.oneCell']) (by simp only [maxLen]; omega) (by omega) (by simp; omega) ?_; intro v' w1 hown' hgrow _))
        have hlt' := HO.out.lt
        have ho1 : w1.ownsRow w.heap.size 3 1 v' (i + 1) (intVs (symL (rowOf ds) ds.length (i + 1))) := by rw [HFIN.out]; simpa [intVs] using hown'
        have HO1 := Lib.hid ho1
        have HB1 : Hid (Below w.heap.size w w1) := (HB.out.alloc hs _).grown hgrow (by simp; omega) (fun g hg => (hlt' g hg).1)
        clear hown' hgrow hlt' ho1 ex t1
        go_wp2
        go_roundw
        case rel => exact ⟨i + 1, by omega, by go_num, by (rw [HZ.out]) <;> rfl, HO1.out, HB1.out⟩
        case measure => simp [intOf]; omega
    · obtain rfl : i = (rowOf ds).length := by omega
      have hd : decide (((rowOf ds).length : Int) < (rowOf ds).length) = false := by simp
      obtain ⟨a', cap', rfl, _, hr, _⟩ := Row.of_owns hown
      have HR : Hid (Row wr a' (rowOf ds).length (fun p => .int .i64 ((symP (rowOf ds) ds.length p : Nat) : Int))) := hr.congr fun p hp => by
        have hl := symL_len (rowOf ds) ds.length (rowOf ds).length
        have := symL_at (rowOf ds) ds.length (rowOf ds).length p hp
        rw [← this, List.getD_eq_getElem?_getD, List.getD_eq_getElem?_getD, List.getElem?_map, List.getElem?_eq_getElem (by omega)]; rfl
      have HB := Lib.hid hbel
      clear hr hown hbel
      go_wp2_with (go_at_call 80; refine (tdocs_any _ bt x ds HX2.out).mono ?_; rintro e w' ⟨rfl, rfl⟩)
      go_ret2
      exact ⟨a', cap', rfl, HR.out, HB.out⟩
/-- all places, each once, in order -/
structure IsSA (s : Nat → Int) (n : Nat) (sa : List Nat) : Prop where
  len : sa.length = n
  mem : ∀ x, x ∈ sa ↔ x < n
  ord : sa.Pairwise (ltS s)
theorem IsSA.one {s : Nat → Int} {n : Nat} {sa sb : List Nat} (h : IsSA s n sa) (g : IsSA s n sb) : sa = sb :=
  sorted_unique (fun _ _ h g => ltS_asymm h g) sa sb h.ord g.ord (fun x => (h.mem x).trans (g.mem x).symm)
def ArrPost (w : World) (s : Nat → Int) (n : Nat) (e : Ending) (w' : World) : Prop :=
  ∃ a cap sa, e = .returned (.slice a n cap) ∧ Row w' a n (natV sa) ∧ IsSA s n sa ∧ Below w.heap.size w w' ∧ (n = 0 ∨ w.heap.size ≤ bOf a)
theorem arr_nil (w : World) : Calls Tryz.prog 46 #[.pointer none] w fun e w' => e = .returned (.slice none 0 0) ∧ w = w' := by
  go_enter Tryz.func46, Tryz.ntmps46
  go_wp2
  go_ret
  exact ⟨rfl, rfl⟩
/-- the loop's state -/
structure ArrSt (w : World) (s : Nat → Int) (n k : Nat) (sa : List Nat) (r : Nat → Nat) (K : Nat) (a5 a3 : Option Addr) (wr : World) : Prop where
  r5 : Row wr a5 n (natV sa)
  r3 : Row wr a3 n (fun p => .int .i64 ((r p : Nat) : Int))
  len : sa.length = n
  mem : ∀ x, x ∈ sa ↔ x < n
  ord : sa.Pairwise (ltT s k)
  rk : RankK s n k r K
  bel : Below w.heap.size w wr
  low : w.heap.size ≤ bOf a5
theorem range_natV (n : Nat) (j : Nat) (h : j < n) : natV (List.range n) j = .int .i64 (j : Int) := by simp [natV, List.getD_eq_getElem?_getD, h]
theorem range_nodup (n : Nat) : (List.range n).Nodup := (List.pairwise_lt_range (n := n)).imp (fun h e => by subst e; omega)
theorem range_len (n : Nat) : (List.range n).length = n := List.length_range
set_option maxRecDepth 100000 in
set_option maxHeartbeats 2000000 in
theorem array_any (w : World) (bt : Nat) (x : TxP) (ds : List (List Nat)) (h : TextAt w bt x ds) (hok : NewOk ds) :
    Calls Tryz.prog 46 #[.pointer (some ⟨bt, 0, none⟩)] w (ArrPost w (symS (rowOf ds) ds.length) (rowOf ds).length) := by
  have HX := Lib.hid h
  have HOK := Lib.hid hok
  have hall := hok.all
  have hmany := hok.many
  have HSN := Lib.hid (symN_row ds)
  have HRK := Lib.hid (rank_row ds (row_le ds hok.byte))
  have HP := Lib.hid (symP_lt ds (row_le ds hok.byte))
  clear h hok
  generalize hn : (rowOf ds).length = n at *
  generalize hs : symS (rowOf ds) ds.length = s at *
  generalize hsp : symP (rowOf ds) ds.length = sp at *
  have HN := Lib.hid hn
  have HSP := Lib.hid hsp
  clear hn hs hsp
  by_cases h0 : n = 0
  · have t1 : ((n : Int) == 0) = true := by simp; omega
    go_enter Tryz.func46, Tryz.ntmps46
    go_wp2_with (go_at_call 65; refine (tlen_any _ bt x ds HX.out).mono ?_; rintro e w' ⟨rfl, rfl⟩; rw [HN.out])
    go_ret
    subst h0
    exact ⟨none, 0, [], rfl, Row.nil _ _ _, ⟨rfl, fun x => by simp, List.Pairwise.nil⟩, Below.refl _ _, .inl rfl⟩
  · have t1 : ((n : Int) == 0) = false := by simp; omega
    have hmk := make_int n (by omega)
    go_enter Tryz.func46, Tryz.ntmps46
    go_wp2_with fail
    refine (tlen_any _ bt x ds HX.out).mono ?_
    rintro e w' ⟨rfl, rfl⟩
    rw [HN.out]
    go_wp2_with fail
    refine (firsts_any _ bt x ds HX.out HOK.out).mono ?_
    rintro e w1 ⟨a3, c3, rfl, hr3, hb1⟩
    rw [HN.out] at hr3
    rw [HSP.out] at hr3
    rw [HN.out]
    have HX1 := Lib.hid (HX.out.kept hb1)
    have HR3 := Lib.hid hr3
    have HB1 := Lib.hid hb1
    clear hr3 hb1 t1
    go_wp2_with fail
    refine (tlen_any _ bt x ds HX1.out).mono ?_
    rintro e w' ⟨rfl, rfl⟩
    rw [HN.out]
    have HS0 := Lib.hid (World.rowIs_made w1 (.int .i64 0) n 3)
    have HB2 : Hid (Below w1.heap.size w1 (w1.alloc (.cells (madeCells #[.int .i64 0] n) 3))) := (Below.refl _ _).alloc (Nat.le_refl _) _
    go_wp2_with fail
    clear hmk
    obtain ⟨K0, hK0⟩ : ∃ K0 : Nat, K0 = ds.length + 257 := ⟨_, rfl⟩
    have eK : (ds.length : Int) + 257 = (K0 : Int) := by omega
    rw [eK]
    rw [← hK0] at HRK HP
    have hKb : K0 ≤ 757 := by omega
    clear eK hK0
    go_loopw [25] (fun ii wr => ∃ i : Nat, i ≤ n ∧ ii = .int .i64 i ∧ wr.rowIs w1.heap.size 3 n (fun j => .int .i64 (((if j < i then j else 0 : Nat)) : Int)) ∧ Below w1.heap.size w1 wr) (fun ii _ => n - (intOf ii).toNat)
    case atStart => exact ⟨0, Nat.zero_le _, rfl, HS0.out.congr fun c _ => by simp, HB2.out⟩
    case round =>
      obtain ⟨i, hi, rfl, hrow, hbw⟩ := hrel
      by_cases hlt : i < n
      · have d1 := hrow.cell (i := i) hlt
        have d2 := hrow.frozen i
        generalize ((if i < i then i else 0 : Nat)) = o at *
        have HROW := Lib.hid hrow
        have HBW := Lib.hid hbw
        clear hrow hbw
        go_wp2
        go_roundw
        case rel => exact ⟨i + 1, by omega, by go_num, (HROW.out.set i (.int .i64 (i : Int))).congr fun j hj => by
          by_cases ej : j = i
          · subst ej; simp
          · by_cases e2 : j < i
            · simp [ej, e2, show j < i + 1 by omega]
            · simp [ej, e2, show ¬ j < i + 1 by omega], HBW.out.setCell (p := ⟨w1.heap.size, i, none⟩) (Nat.le_refl _) _⟩
        case measure => simp [intOf]; omega
      · obtain rfl : i = n := by omega
        have hr : Row wr (some ⟨w1.heap.size, 0, none⟩) (List.range i).length (natV (List.range i)) := by
          rw [range_len]
          exact (Row.of_row hrow (Nat.le_refl _)).congr fun j hj => by rw [range_natV i j hj, if_pos hj]
        have hc := sortBy_any wr (some ⟨w1.heap.size, 0, none⟩) a3 i i c3 (List.range i) sp K0 (by rw [range_len]; omega) (by omega) (by omega) hr (HR3.out.kept hbw) (fun x hx => List.mem_range.1 hx) (fun x hx => HP.out x (List.mem_range.1 hx)) (range_nodup i)
        rw [range_len] at hc
        have HC := Lib.hid hc
        have HR3' := Lib.hid (HR3.out.kept hbw)
        have HBW : Hid (Below w.heap.size w wr) := below_next HB1.out hbw HB1.out.size
        have hd : decide ((i : Int) < i) = false := by simp
        have hlen : (byK (List.range i) sp K0).length = i := by rw [byK_length, below_all _ _ _ (fun x hx => HP.out x (List.mem_range.1 hx)), range_len]
        have hmem : ∀ x, x ∈ byK (List.range i) sp K0 ↔ x < i := fun x => by
          rw [mem_byK, List.mem_range]
          exact ⟨fun h => h.1, fun h => ⟨h, HP.out x h⟩⟩
        have HFS := Lib.hid (first_sorted s i sp K0 HRK.out)
        have HLEN := Lib.hid hlen
        have HMEM := Lib.hid hmem
        have hsz1 := HB1.out.size
        have hsz2 := hbw.size
        clear hrow hbw hr hc hlen hmem HR3 HS0 HB2 hi hlt
        go_wp2_with fail
        refine HC.out.mono ?_
        rintro e w2 ⟨a5, c5, rfl, hr5, hb5, hlow⟩
        rw [HLEN.out] at hr5 hlow
        rw [HLEN.out]
        have hst : ArrSt w s i 1 (byK (List.range i) sp K0) sp K0 a5 a3 w2 := ⟨hr5, HR3'.out.kept hb5, HLEN.out, HMEM.out, HFS.out, HRK.out, below_next HBW.out hb5 HBW.out.size, by have := HBW.out.size; omega⟩
        have HST := Lib.hid hst
        clear hst hr5 hb5 hlow HC HR3' HBW HFS HLEN HMEM hd
        go_wp2_with fail
        go_loopw [3, 4, 5, 7] (fun v3 v4 v5 v7 wr => ∃ (k : Nat) (sa : List Nat) (r : Nat → Nat) (K : Nat) (a5 a3 : Option Addr) (c5 c3 : Nat), 1 ≤ k ∧ k ≤ 120000 ∧ K ≤ 60000 ∧ v7 = .int .i64 k ∧ v4 = .int .i64 K ∧ v5 = .slice a5 i c5 ∧ v3 = .slice a3 i c3 ∧ ArrSt w s i k sa r K a5 a3 wr) (fun _ _ _ v7 _ => i - (intOf v7).toNat)
        case atStart => exact ⟨1, _, sp, K0, a5, a3, c5, c3, by omega, by omega, by omega, rfl, rfl, rfl, rfl, HST.out⟩
        case round =>
          obtain ⟨k, sa, r, K, a5, a3, c5, c3, hk1, hk2, hK2, rfl, rfl, rfl, rfl, hst⟩ := hrel
          have HST := Lib.hid hst
          by_cases hlt : k < i
          · have hsec := second_any wr a5 c5 sa k (by rw [hst.len]; omega) (by rw [hst.len]; omega) (by rw [hst.len]; exact hst.r5) (fun x hx => by rw [hst.len]; exact (hst.mem x).1 hx)
            rw [hst.len] at hsec
            have HSEC := Lib.hid hsec
            have hsnd : (sndK sa i k).Nodup := (sndK_sorted s i HSN.out sa k hk1 (by omega) hst.mem hst.ord).imp (fun h e => by subst e; exact ltT_irr h)
            have hsm : ∀ x, x ∈ sndK sa i k ↔ x < i := fun x => mem_sndK sa i k x (by omega) hst.mem
            have hsl := len_of_mem _ i hsnd hsm
            have hdb := dbl_sorted s i HSN.out sa k hk1 (by omega) hst.mem hst.ord r K hst.rk
            have hbl : (byK (sndK sa i k) r K).length = i := by rw [byK_length, below_all _ _ _ (fun x hx => hst.rk.bd x ((hsm x).1 hx)), hsl]
            have hbm : ∀ x, x ∈ byK (sndK sa i k) r K ↔ x < i := fun x => by
              rw [mem_byK, hsm]
              exact ⟨fun h => h.1, fun h => ⟨h, hst.rk.bd x h⟩⟩
            have HSND := Lib.hid hsnd
            have HSM := Lib.hid hsm
            have HSL := Lib.hid hsl
            have HDB := Lib.hid hdb
            have HBL := Lib.hid hbl
            have HBM := Lib.hid hbm
            clear hst hsec hsnd hsm hsl hdb hbl hbm
            generalize sndK sa i k = sn at *
            go_wp2_with fail
            refine HSEC.out.mono ?_
            rintro e w3 ⟨a6, c6, rfl, hr6, hb6, _⟩
            have hso := sortBy_any w3 a6 a3 c6 i c3 sn r K (by rw [HSL.out]; omega) (by omega) (by omega) hr6 (HST.out.r3.kept hb6) (fun x hx => (HSM.out x).1 hx) (fun x hx => HST.out.rk.bd x ((HSM.out x).1 hx)) HSND.out
            rw [HSL.out] at hso
            rw [HSL.out]
            have HSO := Lib.hid hso
            have HB6 := Lib.hid hb6
            clear hr6 hb6 hso HSEC
            generalize byK sn r K = sb at *
            go_wp2_with fail
            refine HSO.out.mono ?_
            rintro e w4 ⟨a7, c7, rfl, hr7, hb7, hlow7⟩
            rw [HBL.out] at hr7 hlow7
            rw [HBL.out]
            have hbw4 : Below wr.heap.size wr w4 := below_next HB6.out hb7 HB6.out.size
            have hra := ranks_any w4 a7 a3 c7 c3 sb r k (by rw [HBL.out]; omega) (by rw [HBL.out]; omega) (by omega) (by rw [HBL.out]; exact hr7) (by rw [HBL.out]; exact HST.out.r3.kept hbw4) (fun x hx => by rw [HBL.out]; exact (HBM.out x).1 hx) (nodup_of_ltT HDB.out) (fun x hx => (HBM.out x).2 (by rw [← HBL.out]; exact hx))
            rw [HBL.out] at hra
            have hdif : ∀ p q, p ∈ sb → q ∈ sb → (difK r i k p q = false ↔ eqK s (k + k) p q) := fun p q hp hq => difK_iff s i HSN.out k hk1 r K HST.out.rk p q ((HBM.out p).1 hp) ((HBM.out q).1 hq)
            have hrn := rank_next s i (k + k) sb HBL.out HBM.out HDB.out (difK r i k) hdif
            have hcle := chg_le (difK r i k) sb (i - 1)
            have hfull := done_full s i (k + k) sb HBL.out HDB.out (difK r i k) hdif
            have hlw := HB6.out.size
            have hlw2 := HST.out.bel.size
            have hlow8 : w.heap.size ≤ bOf a7 := by omega
            have HRA := Lib.hid hra
            have HR7 := Lib.hid hr7
            have HB4 := Lib.hid hbw4
            have HRN := Lib.hid hrn
            have HFU := Lib.hid hfull
            clear hr7 hb7 hlow7 hbw4 hra hrn hdif hfull HSO hlw hlw2
            generalize clsK (difK r i k) sb = cl at *
            generalize chg (difK r i k) sb (i - 1) = ch at *
            go_wp2_with fail
            refine HRA.out.mono ?_
            rintro e w5 ⟨a8, c8, rfl, hr8, hb8⟩
            have HR8 := Lib.hid hr8
            have HR7' := Lib.hid (HR7.out.kept hb8)
            have HB5 : Hid (Below w.heap.size w w5) := below_next (below_next HST.out.bel HB4.out HST.out.bel.size) hb8 (Nat.le_trans HST.out.bel.size HB4.out.size)
            obtain ⟨K', hK'⟩ : ∃ K' : Nat, K' = ch + 1 := ⟨_, rfl⟩
            rw [← hK'] at HRN HFU ⊢
            have hK'b : K' ≤ 60000 := by omega
            clear hr8 hb8 hK' HRA HR7
            by_cases hfu : K' = i
            · subst hfu
              have HFIN := Lib.hid (HFU.out rfl)
              go_wp2_with fail
              go_ret
              exact ⟨a7, c7, sb, rfl, HR7'.out, ⟨HBL.out, HBM.out, HFIN.out⟩, HB5.out, .inr hlow8⟩
            · have t2 : ((K' : Int) == (i : Int)) = false := by simp; omega
              have ekk : (k : Int) * 2 = ((k + k : Nat) : Int) := by omega
              go_wp2_with fail
              go_roundw
              case rel => exact ⟨k + k, sb, cl, K', a7, a8, c7, c8, by omega, by omega, hK'b, by go_num, rfl, rfl, rfl, ⟨HR7'.out, HR8.out, HBL.out, HBM.out, HDB.out, HRN.out, HB5.out, hlow8⟩⟩
              case measure => simp [intOf]; omega
          · have HFIN := Lib.hid (done_long s i HSN.out sa hst.mem k (by omega) hst.ord)
            have t3 : ¬ ((k : Int) < (i : Int)) := by omega
            clear hst
            go_wp2_with fail
            go_ret
            exact ⟨a5, c5, sa, rfl, HST.out.r5, ⟨HST.out.len, HST.out.mem, HFIN.out⟩, HST.out.bel, .inr HST.out.low⟩
end Go.Proofs.YtjpoebmjfedecaaGreat
