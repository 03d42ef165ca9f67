/-
  The statement DiskNames: its walk.
-/
import Derived.Test.YtelndbjjkhlacaaDkTwo
import Derived.Test.YtelndbjjkhlacaaSameTexts
import Derived.Test.YtelndbjjkhlacaaDiskLasts
import Derived.Test.YtelndbjjkhlacaaDiskFiles
import Derived.Maps.AppendAt
namespace Go.Proofs.Ytelndbjjkhlacaa
open Go.RowKit Go.Maps Go.Sort

def nbB (i : Nat) : List UInt8 := [110, UInt8.ofNat (97 + i)]
def nbS (i : Nat) : ByteArray := ⟨(nbB i).toArray⟩
abbrev oldB : List UInt8 := [111, 108, 100]
abbrev sOld : ByteArray := ⟨#[111, 108, 100]⟩
theorem okN_old : okN sOld = true := by decide
theorem nbS_ok : ∀ i, i < 16 → okN (nbS i) = true := by decide +kernel
theorem nbS_ne : ∀ i, i < 16 → ∀ j, j < 16 → i ≠ j → nbS i ≠ nbS j := by decide +kernel
theorem nbS_old : ∀ i, i < 16 → nbS i ≠ sOld := by decide +kernel
theorem nbB_lt : ∀ i, i < 16 → ∀ j, j < 16 → i < j → nbB i ≤ nbB j := by decide +kernel
theorem nbB_ne : ∀ i, i < 16 → ∀ j, j < 16 → i ≠ j → nbB i ≠ nbB j := by decide +kernel
theorem nbB_old : ∀ i, i < 16 → nbB i ≤ oldB ∧ nbB i ≠ oldB := by decide +kernel
theorem nbS_cat (i : Nat) : (⟨#[110]⟩ : ByteArray) ++ sB [97 + i] = nbS i := by
  unfold sB nbS nbB
  apply ByteArray.ext
  rw [ByteArray.data_append]
  simp
theorem nbS_key (i : Nat) : kl (nbS i) = .string (nbB i) := rfl
/-- is the i-th name to be there? -/
def kb (sy : Bool) (len : Nat) (f : Nat → Bool) (j : Nat) : Bool := sy || (decide (len ≤ j) || f j)
def wl (sy : Bool) (len : Nat) (f : Nat → Bool) (i : Nat) : List (List UInt8) := ((List.range i).filter (kb sy len f)).map nbB
theorem wl_succ (sy : Bool) (len : Nat) (f : Nat → Bool) (i : Nat) : wl sy len f (i + 1) = if kb sy len f i = true then wl sy len f i ++ [nbB i] else wl sy len f i := by
  unfold wl
  rw [List.range_succ, List.filter_append, List.map_append]
  split
  · rename_i h
    rw [List.filter_cons_of_pos h]
    rfl
  · rename_i h
    rw [List.filter_cons_of_neg h]
    simp
theorem wl_len (sy : Bool) (len : Nat) (f : Nat → Bool) (i : Nat) : (wl sy len f i).length ≤ i := by
  unfold wl
  rw [List.length_map]
  have := List.length_filter_le (kb sy len f) (List.range i)
  rwa [List.length_range] at this
theorem wl_mem {sy : Bool} {len : Nat} {f : Nat → Bool} {i : Nat} {x : List UInt8} (h : x ∈ wl sy len f i) : ∃ j, j < i ∧ x = nbB j := by
  obtain ⟨j, h1, h2⟩ := List.mem_map.1 h
  exact ⟨j, List.mem_range.1 (List.mem_filter.1 h1).1, h2.symm⟩
theorem wl_rise (sy : Bool) (len : Nat) (f : Nat → Bool) : ∀ i, i ≤ 16 → (wl sy len f i ++ [oldB]).Pairwise (fun x y => decide (x ≤ y) = true) ∧ (wl sy len f i ++ [oldB]).Nodup := by
  intro i hi
  have hr : ((List.range i).filter (kb sy len f)).Pairwise (· < ·) := List.pairwise_lt_range.filter _
  have hm : ∀ j ∈ (List.range i).filter (kb sy len f), j < 16 := fun j hj => by have := List.mem_range.1 (List.mem_filter.1 hj).1; omega
  constructor
  · refine List.pairwise_append.2 ⟨List.pairwise_map.2 (hr.imp_of_mem fun {p q} hp hq h => decide_eq_true (nbB_lt p (hm p hp) q (hm q hq) h)), List.pairwise_singleton _ _, fun x hx y hy => ?_⟩
    obtain rfl := List.mem_singleton.1 hy
    obtain ⟨j, hj, rfl⟩ := wl_mem hx
    exact decide_eq_true (nbB_old j (by omega)).1
  · refine List.nodup_append.2 ⟨List.pairwise_map.2 (hr.imp_of_mem fun {p q} hp hq h => nbB_ne p (hm p hp) q (hm q hq) (Nat.ne_of_lt h)), List.nodup_cons.2 ⟨by simp, List.nodup_nil⟩, fun x hx y hy => ?_⟩
    obtain rfl := List.mem_singleton.1 hy
    obtain ⟨j, hj, rfl⟩ := wl_mem hx
    exact (nbB_old j (by omega)).2
def HasIs (D : DT) (X : List (List UInt8)) : Prop := ∀ x, x ∈ X ↔ has D (.string x) = true
theorem HasIs.put {D : DT} {X : List (List UInt8)} (h : HasIs D X) (hD : IsMap D) (y : List UInt8) (d : DT) {Y : List (List UInt8)} (hY : ∀ x, x ∈ Y ↔ x ∈ X ∨ x = y) : HasIs (D.put (.string y) d) Y := fun x => by
  rw [hY]
  by_cases e : x = y
  · subst e
    rw [has_put_same (k := .string x) hD (show WideAt.IsKeyLit (.string x) from trivial) d]
    simp
  · rw [has_put_other (fun h => e (by injection h)), ← h x]
    simp [e]
theorem keys_perm {w : World} {b : Nat} {D : DT} (h : NmAt w b D) {X : List (List UInt8)} (hX : X.Nodup) (hm : HasIs D X) : X.Perm (strKeys D) := by
  obtain ⟨es, rfl, hr, _⟩ := h.canon
  obtain ⟨es', hD', hko⟩ := World.ownsMap.keysOf h
  obtain rfl : es = es' := by simpa using hD'
  exact perm_strKeys (apart_of_rising hr) (fun p hp => by
    obtain ⟨v, hv⟩ := hko p hp
    obtain ⟨x, _, hx, _⟩ := Maps.keyOf_str Try.underlying9 hv
    exact ⟨x, hx⟩) hX hm
theorem DiskAv.nm {B : Nat} {w : World} {bd : Nat} {S : DSt} {A : Nat → Prop} (h : DiskAv B w bd S A) : ∃ b, NmAt w b S.names := by
  obtain ⟨ρ, vf, vt, bn, bl, V, hd, _⟩ := h
  exact ⟨bn, hd.names⟩
theorem DiskAv.grow {B : Nat} {w w' : World} {bd : Nat} {S : DSt} {A A' : Nat → Prop} {r : Option Nat} (h : DiskAv B w bd S A) (hg : w.grownBy w' r) (hr : ∀ k, r = some k → A k) (hA : ∀ b, A' b → A b ∨ w.heap.size ≤ b) : DiskAv B w' bd S A' := by
  obtain ⟨ρ, vf, vt, bn, bl, V, hd, hav⟩ := h
  refine ⟨ρ, vf, vt, bn, bl, V, hd.kept (KeepX.gb hg fun k e h => h (hav k (hr k e))), fun b hb => ?_⟩
  rcases hA b hb with h1 | h1
  · exact hav b h1
  · by_cases e : ρ b = .other
    · exact e
    · have := (hd.base b e).2; omega
theorem owns_empty4 (w : World) (t : TypeId) : (w.alloc (.cells #[] t)).ownsRow w.heap.size t 1 (.slice (some ⟨w.heap.size, 0, none⟩) 0 0) 0 [] :=
  ⟨rfl, .inr ⟨w.heap.size, 0, #[], rfl, Nat.le_refl _, heap_alloc_new w _, Nat.le_refl _, Nat.zero_le _, rfl, rfl⟩⟩
theorem info_str4 : (Try.prog.info? 9).map (fun i => (i.zero, i.size, i.bytes)) = some (some (.string ByteArray.empty), 1, 16) := by kernel_rfl
/-- the disk, ahead of the i-th name; the names wanted so far -/
structure NaI (w : World) (B1 : Nat) (sy : Bool) (bs : List Bool) (len : Nat) (f : Nat → Bool) (i : Nat) (S : DSt) (v : Value) (wr : World) : Prop where
  lv : Lv S
  calls : S.calls = 2 + (i : Int)
  sz : size S.names = i + 1
  no : ∀ j, i ≤ j → j < 16 → fileOf S.names (nbS j) = none
  turns : S.turns.length = i
  fin : HasIs (if sy then S.names else nowD S.last S.turns bs) (oldB :: wl sy len f i)
  files : 0 < S.files.length
  row : wr.ownsRow B1 9 1 v (wl sy len f i).length ((wl sy len f i).map encStr)
  av : DiskAv w.heap.size wr (w.heap.size + 2) S (fun b => b < w.heap.size ∨ v.ownBlock = some b)
  ge : w.heap.size ≤ B1 ∧ B1 ≤ wr.heap.size
  below : Below w.heap.size w wr
theorem lsB_get (len : Nat) (f : Nat → Bool) (i : Nat) : (lsB len f).getD i true = (decide (len ≤ i) || f i) := by
  unfold lsB
  by_cases h : i < len
  · simp [List.getD_eq_getElem?_getD, h, show ¬ len ≤ i by omega]
  · simp [List.getD_eq_getElem?_getD, h, show len ≤ i by omega]
theorem NaI.next {w : World} {B1 : Nat} {sy : Bool} {len : Nat} {f : Nat → Bool} {i : Nat} {S : DSt} {v : Value} {wr : World} (h : NaI w B1 sy (lsB len f) len f i S v wr) (hi : i < 16) (fn : Nat) :
    HasIs (if sy then (createS S (nbS i) fn).names else nowD (createS S (nbS i) fn).last (createS S (nbS i) fn).turns (lsB len f)) (oldB :: wl sy len f (i + 1)) ∧ size (createS S (nbS i) fn).names = i + 1 + 1 ∧ ∀ j, i + 1 ≤ j → j < 16 → fileOf (createS S (nbS i) fn).names (nbS j) = none := by
  refine ⟨?_, ?_, fun j h1 h2 => ?_⟩
  · have hf := h.fin
    rw [wl_succ]
    cases sy with
    | true =>
      have hk1 : kb true len f i = true := rfl
      rw [if_pos hk1]
      simp only [if_true] at hf ⊢
      exact hf.put h.av.tidy.1.isMap (nbB i) (enc fn) (fun x => by simp [or_assoc])
    | false =>
      simp only [Bool.false_eq_true, if_false] at hf ⊢
      show HasIs (nowD S.last (S.turns ++ [⟨0, nbS i, ByteArray.empty, some fn⟩]) (lsB len f)) _
      rw [nowD_snoc, h.turns, lsB_get]
      have hk : kb false len f i = (decide (len ≤ i) || f i) := rfl
      rw [hk]
      split
      · exact hf.put (now_props S.files S.turns (lsB len f) S.last h.av.tidy.2 h.lv.ok.last h.lv.ok.turns h.lv.ok.tkind).1.isMap (nbB i) (enc fn) (fun x => by simp [or_assoc])
      · exact hf
  · show size (S.names.put (kl (nbS i)) (enc fn)) = _
    rw [size_put h.av.tidy.1, no_has h.lv.ok.names (h.no i (Nat.le_refl _) hi), if_neg (by simp), h.sz]
  · show fileOf (S.names.put (kl (nbS i)) (enc fn)) (nbS j) = none
    rw [fileOf_put_other (nbS_ne j h2 i hi (by omega))]
    exact h.no j (by omega) h2
theorem files_pos {S : DSt} {x : List UInt8} (h : has S.names (.string x) = true) (hok : DOk S) : 0 < S.files.length := by
  obtain ⟨f, hf, _⟩ := hok.names _ h
  exact List.length_pos_of_mem hf
set_option maxRecDepth 100000 in
set_option maxHeartbeats 4000000 in
theorem dnames_walk (w : World) (x0 : Int) (_ : (Lit.int .i64 x0).wf = true) (a : Option Addr) (len cap : Nat) (f : Nat → Bool) (hl : len ≤ maxLen) (hr : Row w a len (fun k => .bool (f k))) (sy : Bool) :
    Calls Try.prog 10 #[.int .i64 x0, .slice a len cap, .bool sy] w fun e w' => e = .returned (.bool true) ∧ Below w.heap.size w w' := by
  obtain ⟨m, hm, hm2⟩ : ∃ n : Nat, bits .and .i64 x0 15 = (n : Int) ∧ n < 16 := by
    have en : bits .and .i64 x0 15 = x0 % 16 := i64_mask x0 4 (by omega)
    exact ⟨(x0 % 16).toNat, by rw [en]; omega, by omega⟩
  obtain ⟨n, hn⟩ : ∃ n, n = m + 1 := ⟨_, rfl⟩
  have yn : IntKind.i64.wrap ((m : Int) + 1) = (n : Int) := by rw [show (m : Int) + 1 = (n : Int) by omega]; exact IntWalk.i64_in _ (by omega)
  have hn2 : 1 ≤ n ∧ n ≤ 16 := by omega
  have hix := run_ix (P := Try.prog) 39 (by kernel_rfl) size_bool4 a len cap hr.at_ .i64
  have HIX := Lib.hid hix
  have HR := Lib.hid hr
  have HN := Lib.hid (dnew_any w 1000 (by omega))
  have HB1 := Lib.hid (newW_below w 1000)
  have HA1 := Lib.hid (DiskAv.avB (new_at w 1000))
  have HL := Lib.hid hl
  unfold maxLen at hl
  clear hr hix hn hm2
  go_enter Try.func10, Try.ntmps10
  go_wp2_with fail
  refine HN.out.mono ?_
  rintro e w1 ⟨rfl, hw1⟩
  rw [← hw1] at HB1 HA1
  clear hw1 HN
  go_wp2_with fail
  refine (create_at w.heap.size w1 (w.heap.size + 2) (newS 1000) _ HA1.out (fun b h => Nat.lt_of_lt_of_le h HB1.out.size) (newS_lv 1000 (by omega)) HB1.out.size (by show (0 : Int) < 100000; omega) sOld okN_old rfl (by show 0 < 64; omega)).mono ?_
  rintro e w3 ⟨f0, -, rfl, hlv, hav, hb3, -⟩
  have HB3 : Hid (Below w.heap.size w w3) := HB1.out.trans hb3
  have hbw := HB3.out.size
  have HSD := Lib.hid (syncdir_at w.heap.size w3 (w.heap.size + 2) _ (fun b => b < w.heap.size) hav (fun b h => by change b < w.heap.size at h; omega) hlv hbw (by show (0 : Int) + 1 < 100000; omega))
  clear hlv hav hb3 hbw HA1 HB1
  go_wp2_with fail
  refine HSD.out.mono ?_
  rintro e w4 ⟨rfl, hlv, hav, hb4, -⟩
  have HB4 : Hid (Below w.heap.size w w4) := HB3.out.trans hb4
  have hs4 := HB4.out.size
  obtain ⟨B1, hB1⟩ : ∃ B1, B1 = w4.heap.size := ⟨_, rfl⟩
  have HI0 : Hid (NaI w B1 sy (lsB len f) len f 0 (syncdirS (createS (newS 1000) sOld f0)) (.slice (some ⟨w4.heap.size, 0, none⟩) 0 0) (w4.alloc (.cells #[] 9))) := by
    have hb5 : Below w4.heap.size w4 (w4.alloc (.cells #[] 9)) := (Below.refl _ _).alloc (Nat.le_refl _) _
    have hD : HasIs (.map [(kl sOld, enc f0)]) [oldB] := by
      rw [← put_nil]
      exact HasIs.put (X := []) (fun x => by simp [has]) ⟨[], rfl⟩ oldB (enc f0) (fun x => by simp)
    subst hB1
    refine ⟨hlv, rfl, rfl, fun j _ hj => fileOf_one_no (nbS_old j hj) f0, rfl, ?_, Nat.one_pos, owns_empty4 w4 9, ?_, ⟨hs4, by simp⟩, HB4.out.trans (hb5.mono hs4)⟩
    · cases sy with
      | true => exact hD
      | false =>
        show HasIs (nowD (.map [(kl sOld, enc f0)]) [] (lsB len f)) _
        rw [nowD_nil]
        exact hD
    · refine (hav.avoid hb5 (fun b => b = w4.heap.size) (fun b hb => Nat.le_of_eq hb.symm)).mono fun b hb => ?_
      rcases hb with h | h
      · exact .inl h
      · exact .inr (Option.some.inj h).symm
  clear hlv hav hb4 hs4 HSD HB3 HB4 hB1
  go_wp2_with fail
  clear hm yn
  go_loopw [8, 9, 10] (fun v8 v9 _ wr => ∃ (i : Nat) (S : DSt) (v : Value), i ≤ n ∧ v9 = .int .i64 (i : Int) ∧ NaI w B1 sy (lsB len f) len f i S v8 wr) (fun _ v9 _ _ => n - (intOf v9).toNat)
  case atStart => exact ⟨0, _, undef, Nat.zero_le _, rfl, HI0.out⟩
  case round =>
    obtain ⟨i, S, -, hi, rfl, hna⟩ := hrel
    obtain ⟨v, hv⟩ : ∃ v, v = u8 := ⟨_, rfl⟩
    subst hv
    have HNA := Lib.hid hna
    clear hna HI0
    by_cases hlt : i < n
    · have hii : i < 16 := by omega
      cases sy with
      | true =>
        have e1 : 97 + i < 256 := by omega
        obtain ⟨m1, hm1⟩ : ∃ m1, m1 = 97 + i := ⟨_, rfl⟩
        have y1 : IntKind.u8.wrap (i : Int) = (i : Int) := by show (i : Int) % 256 = _; omega
        have y3 : IntKind.u8.wrap (97 + (i : Int)) = (m1 : Int) := by show (97 + (i : Int)) % 256 = _; omega
        have hcat := nbS_cat i
        rw [← hm1] at hcat
        have hrow : Row (wr.alloc (.cells #[.int .u8 (m1 : Int)] 5)) (some ⟨wr.heap.size, 0, none⟩) [m1].length (byteV [m1]) :=
          Row.of_row (m := 1) (World.rowIs_alloc wr #[.int .u8 (m1 : Int)] 5 (byteV [m1]) (fun j hj => by
            match j, hj with
            | 0, _ => rfl)) (Nat.le_refl _)
        have hcv := conv_str _ _ [m1] 1 hrow
        simp only [List.length_cons, List.length_nil, Nat.zero_add] at hcv
        have hz : (sB [m1]).size ≤ 1 := by rw [sB_size]; exact Nat.le_refl _
        generalize sB [m1] = sx at *
        generalize hnm : nbS i = nm at hcat
        have HNM := Lib.hid hnm
        have hb2 : Below wr.heap.size wr (wr.alloc (.cells #[.int .u8 (m1 : Int)] 5)) := (Below.refl _ _).alloc (Nat.le_refl _) _
        have HB2 := Lib.hid hb2
        have tin : (i : Int) < (n : Int) := by omega
        clear hnm hb2 hrow hm1 e1
        go_wp2_with fail
        clear hcv hz hcat y1 y3 tin
        have hbw := HNA.out.below.size
        have hs2 := HB2.out.size
        have hcl := HNA.out.calls
        have hav := HNA.out.av.below HB2.out
        have hsz := HNA.out.sz
        have hlt := HNA.out.row.lt
        have HCR := Lib.hid (create_at w.heap.size _ (w.heap.size + 2) S (fun b => b < w.heap.size ∨ v.ownBlock = some b) hav (fun b h => by
          rcases h with h | h
          · omega
          · have := (hlt b h).2; omega) HNA.out.lv (by omega) (by omega) (nbS i) (nbS_ok i (by omega)) (HNA.out.no i (Nat.le_refl _) (by omega)) (by omega))
        rw [HNM.out] at HCR
        clear hbw hs2 hcl hav hsz hlt
        refine HCR.out.mono ?_
        rintro e w5 ⟨fn, -, rfl, hlv, hav, hb5, hk5⟩
        obtain ⟨k1, k2, k3⟩ := HNA.out.next (by omega) fn
        rw [HNM.out] at k1 k2 k3
        have HK1 := Lib.hid k1
        have HK2 := Lib.hid k2
        have HK3 := Lib.hid k3
        have HLV := Lib.hid hlv
        have HAV := Lib.hid hav
        have HR5 := Lib.hid (owns_keepX HNA.out.row ((KeepX.of_below HB2.out).trans hk5) (fun g hg => .inr hg))
        have HB5 : Hid (Below w.heap.size w w5) := (HNA.out.below.trans (HB2.out.mono HNA.out.below.size)).trans hb5
        have HS5 : Hid (wr.heap.size ≤ w5.heap.size) := by show _ ≤ _; have h1 := HB2.out.size; have h2 := hk5.size; omega
        clear k1 k2 k3 hlv hav hb5 hk5 HCR HB2
        have hk : kb true len f i = true := rfl
        have hl9 := wl_len true len f i
        have hge := HNA.out.ge
        have hs5 := HS5.out
        obtain ⟨i0, hi0, hz0, hz1, hz2⟩ := info_parts info_str4
        have HKB := Lib.hid hk
        go_wp2_with (at_builtin; refine wpList_append_own_at _ rfl _ _ 45 rfl B1 9 i0 (.string ByteArray.empty) 1 16 Try.underlying45 hi0 hz0 hz1 hz2 rfl (by decide) v (wl true len f i).length ((wl true len f i).map encStr) rfl (HR5.out.alloc _) ⟨w5.heap.size, 0, none⟩ 1 1 [.string nm] rfl rfl (cell_one_new _ _ _) (by simp [Value.oneCell']) (by simp only [maxLen]; omega) (by omega) (by simp; omega) ?_; intro v' w6 hown' hgrow _ hat)
        have HI2 : Hid (NaI w B1 true (lsB len f) len f (i + 1) (createS S nm fn) v' w6) := by
          have h := HNA.out
          have hw : wl true len f (i + 1) = wl true len f i ++ [nbB i] := by rw [wl_succ, if_pos HKB.out]
          have hsz : (w5.alloc (.cells #[.string nm] 9)).heap.size = w5.heap.size + 1 := by simp
          have hb6 : Below w5.heap.size w5 (w5.alloc (.cells #[.string nm] 9)) := (Below.refl _ _).alloc (Nat.le_refl _) _
          refine ⟨HLV.out, by show S.calls + 1 = _; have := h.calls; omega, HK2.out, HK3.out, by show (S.turns ++ [_]).length = _; rw [List.length_append, h.turns]; rfl, HK1.out, by show 0 < (S.files ++ [_]).length; simp, ?_, ?_, ⟨h.ge.1, by have := hgrow.size; omega⟩, ?_⟩
          · rw [hw, List.length_append, List.map_append]
            have : encStr (nbB i) = .string nm := by rw [← HNM.out]; rfl
            show w6.ownsRow B1 _ 1 v' (_ + 1) (_ ++ [encStr (nbB i)])
            rw [this]
            exact hown'
          · refine (HAV.out.below hb6).grow hgrow (fun k e => .inr e) (fun b hb => ?_)
            rcases hb with hb | hb
            · exact .inl (.inl hb)
            · rcases hat with e | e
              · exact .inl (.inr (by rw [← e]; exact hb))
              · rw [hb] at e
                have : b = (w5.alloc (.cells #[.string nm] 9)).heap.size := Option.some.inj e
                exact .inr (Nat.le_of_eq this.symm)
          · exact (HB5.out.trans (hb6.mono HB5.out.size)).grown hgrow (by rw [hsz]; have := HB5.out.size; omega) (fun k e => Nat.le_trans h.ge.1 (HR5.out.lt k e).1)
        clear HNA HLV HAV HK1 HK2 HK3 HR5 HB5 HS5 HNM hown' hgrow hat hl9 hge hs5 HKB
        go_wp2_with fail
        go_roundw
        case rel => exact ⟨i + 1, _, undef, by omega, by go_num, HI2.out⟩
        case measure => simp [intOf]; omega
      | false =>
        have e1 : 97 + i < 256 := by omega
        obtain ⟨m1, hm1⟩ : ∃ m1, m1 = 97 + i := ⟨_, rfl⟩
        have y1 : IntKind.u8.wrap (i : Int) = (i : Int) := by show (i : Int) % 256 = _; omega
        have y3 : IntKind.u8.wrap (97 + (i : Int)) = (m1 : Int) := by show (97 + (i : Int)) % 256 = _; omega
        have hcat := nbS_cat i
        rw [← hm1] at hcat
        have hrow : Row (wr.alloc (.cells #[.int .u8 (m1 : Int)] 5)) (some ⟨wr.heap.size, 0, none⟩) [m1].length (byteV [m1]) :=
          Row.of_row (m := 1) (World.rowIs_alloc wr #[.int .u8 (m1 : Int)] 5 (byteV [m1]) (fun j hj => by
            match j, hj with
            | 0, _ => rfl)) (Nat.le_refl _)
        have hcv := conv_str _ _ [m1] 1 hrow
        simp only [List.length_cons, List.length_nil, Nat.zero_add] at hcv
        have hz : (sB [m1]).size ≤ 1 := by rw [sB_size]; exact Nat.le_refl _
        generalize sB [m1] = sx at *
        generalize hnm : nbS i = nm at hcat
        have HNM := Lib.hid hnm
        have hb2 : Below wr.heap.size wr (wr.alloc (.cells #[.int .u8 (m1 : Int)] 5)) := (Below.refl _ _).alloc (Nat.le_refl _) _
        have HB2 := Lib.hid hb2
        have tin : (i : Int) < (n : Int) := by omega
        clear hnm hb2 hrow hm1 e1
        go_wp2_with fail
        clear hcv hz hcat y1 y3 tin
        have hbw := HNA.out.below.size
        have hs2 := HB2.out.size
        have hcl := HNA.out.calls
        have hav := HNA.out.av.below HB2.out
        have hsz := HNA.out.sz
        have hlt := HNA.out.row.lt
        have HCR := Lib.hid (create_at w.heap.size _ (w.heap.size + 2) S (fun b => b < w.heap.size ∨ v.ownBlock = some b) hav (fun b h => by
          rcases h with h | h
          · omega
          · have := (hlt b h).2; omega) HNA.out.lv (by omega) (by omega) (nbS i) (nbS_ok i (by omega)) (HNA.out.no i (Nat.le_refl _) (by omega)) (by omega))
        rw [HNM.out] at HCR
        clear hbw hs2 hcl hav hsz hlt
        refine HCR.out.mono ?_
        rintro e w5 ⟨fn, -, rfl, hlv, hav, hb5, hk5⟩
        obtain ⟨k1, k2, k3⟩ := HNA.out.next (by omega) fn
        rw [HNM.out] at k1 k2 k3
        have HK1 := Lib.hid k1
        have HK2 := Lib.hid k2
        have HK3 := Lib.hid k3
        have HLV := Lib.hid hlv
        have HAV := Lib.hid hav
        have HR5 := Lib.hid (owns_keepX HNA.out.row ((KeepX.of_below HB2.out).trans hk5) (fun g hg => .inr hg))
        have HB5 : Hid (Below w.heap.size w w5) := (HNA.out.below.trans (HB2.out.mono HNA.out.below.size)).trans hb5
        have HS5 : Hid (wr.heap.size ≤ w5.heap.size) := by show _ ≤ _; have h1 := HB2.out.size; have h2 := hk5.size; omega
        clear k1 k2 k3 hlv hav hb5 hk5 HCR HB2
        by_cases hle : len ≤ i
        · have hk : kb false len f i = true := by simp [kb, hle]
          have t1 : (len : Int) ≤ (i : Int) := by omega
          clear hle
          have hl9 := wl_len false len f i
          have hge := HNA.out.ge
          have hs5 := HS5.out
          obtain ⟨i0, hi0, hz0, hz1, hz2⟩ := info_parts info_str4
          have HKB := Lib.hid hk
          go_wp2_with (at_builtin; refine wpList_append_own_at _ rfl _ _ 45 rfl B1 9 i0 (.string ByteArray.empty) 1 16 Try.underlying45 hi0 hz0 hz1 hz2 rfl (by decide) v (wl false len f i).length ((wl false len f i).map encStr) rfl (HR5.out.alloc _) ⟨w5.heap.size, 0, none⟩ 1 1 [.string nm] rfl rfl (cell_one_new _ _ _) (by simp [Value.oneCell']) (by simp only [maxLen]; omega) (by omega) (by simp; omega) ?_; intro v' w6 hown' hgrow _ hat)
          have HI2 : Hid (NaI w B1 false (lsB len f) len f (i + 1) (createS S nm fn) v' w6) := by
            have h := HNA.out
            have hw : wl false len f (i + 1) = wl false len f i ++ [nbB i] := by rw [wl_succ, if_pos HKB.out]
            have hsz : (w5.alloc (.cells #[.string nm] 9)).heap.size = w5.heap.size + 1 := by simp
            have hb6 : Below w5.heap.size w5 (w5.alloc (.cells #[.string nm] 9)) := (Below.refl _ _).alloc (Nat.le_refl _) _
            refine ⟨HLV.out, by show S.calls + 1 = _; have := h.calls; omega, HK2.out, HK3.out, by show (S.turns ++ [_]).length = _; rw [List.length_append, h.turns]; rfl, HK1.out, by show 0 < (S.files ++ [_]).length; simp, ?_, ?_, ⟨h.ge.1, by have := hgrow.size; omega⟩, ?_⟩
            · rw [hw, List.length_append, List.map_append]
              have : encStr (nbB i) = .string nm := by rw [← HNM.out]; rfl
              show w6.ownsRow B1 _ 1 v' (_ + 1) (_ ++ [encStr (nbB i)])
              rw [this]
              exact hown'
            · refine (HAV.out.below hb6).grow hgrow (fun k e => .inr e) (fun b hb => ?_)
              rcases hb with hb | hb
              · exact .inl (.inl hb)
              · rcases hat with e | e
                · exact .inl (.inr (by rw [← e]; exact hb))
                · rw [hb] at e
                  have : b = (w5.alloc (.cells #[.string nm] 9)).heap.size := Option.some.inj e
                  exact .inr (Nat.le_of_eq this.symm)
            · exact (HB5.out.trans (hb6.mono HB5.out.size)).grown hgrow (by rw [hsz]; have := HB5.out.size; omega) (fun k e => Nat.le_trans h.ge.1 (HR5.out.lt k e).1)
          clear HNA HLV HAV HK1 HK2 HK3 HR5 HB5 HS5 HNM hown' hgrow hat hl9 hge hs5 HKB
          go_wp2_with fail
          go_roundw
          case rel => exact ⟨i + 1, _, undef, by omega, by go_num, HI2.out⟩
          case measure => simp [intOf]; omega
        · have t1 : decide ((len : Int) ≤ (i : Int)) = false := by simp; omega
          have t1n : decide (len ≤ i) = false := by simp; omega
          have hx := (HR.out.kept HB5.out).cell i (by omega)
          have hxk := fun W => HIX.out W i (by omega)
          cases hfi : f i with
          | true =>
            have hk : kb false len f i = true := by simp [kb, hfi]
            rw [hfi] at hx
            clear hfi hle
            have hl9 := wl_len false len f i
            have hge := HNA.out.ge
            have hs5 := HS5.out
            obtain ⟨i0, hi0, hz0, hz1, hz2⟩ := info_parts info_str4
            have HKB := Lib.hid hk
            go_wp2_with (at_builtin; refine wpList_append_own_at _ rfl _ _ 45 rfl B1 9 i0 (.string ByteArray.empty) 1 16 Try.underlying45 hi0 hz0 hz1 hz2 rfl (by decide) v (wl false len f i).length ((wl false len f i).map encStr) rfl (HR5.out.alloc _) ⟨w5.heap.size, 0, none⟩ 1 1 [.string nm] rfl rfl (cell_one_new _ _ _) (by simp [Value.oneCell']) (by simp only [maxLen]; omega) (by omega) (by simp; omega) ?_; intro v' w6 hown' hgrow _ hat)
            have HI2 : Hid (NaI w B1 false (lsB len f) len f (i + 1) (createS S nm fn) v' w6) := by
              have h := HNA.out
              have hw : wl false len f (i + 1) = wl false len f i ++ [nbB i] := by rw [wl_succ, if_pos HKB.out]
              have hsz : (w5.alloc (.cells #[.string nm] 9)).heap.size = w5.heap.size + 1 := by simp
              have hb6 : Below w5.heap.size w5 (w5.alloc (.cells #[.string nm] 9)) := (Below.refl _ _).alloc (Nat.le_refl _) _
              refine ⟨HLV.out, by show S.calls + 1 = _; have := h.calls; omega, HK2.out, HK3.out, by show (S.turns ++ [_]).length = _; rw [List.length_append, h.turns]; rfl, HK1.out, by show 0 < (S.files ++ [_]).length; simp, ?_, ?_, ⟨h.ge.1, by have := hgrow.size; omega⟩, ?_⟩
              · rw [hw, List.length_append, List.map_append]
                have : encStr (nbB i) = .string nm := by rw [← HNM.out]; rfl
                show w6.ownsRow B1 _ 1 v' (_ + 1) (_ ++ [encStr (nbB i)])
                rw [this]
                exact hown'
              · refine (HAV.out.below hb6).grow hgrow (fun k e => .inr e) (fun b hb => ?_)
                rcases hb with hb | hb
                · exact .inl (.inl hb)
                · rcases hat with e | e
                  · exact .inl (.inr (by rw [← e]; exact hb))
                  · rw [hb] at e
                    have : b = (w5.alloc (.cells #[.string nm] 9)).heap.size := Option.some.inj e
                    exact .inr (Nat.le_of_eq this.symm)
              · exact (HB5.out.trans (hb6.mono HB5.out.size)).grown hgrow (by rw [hsz]; have := HB5.out.size; omega) (fun k e => Nat.le_trans h.ge.1 (HR5.out.lt k e).1)
            clear HNA HLV HAV HK1 HK2 HK3 HR5 HB5 HS5 HNM hown' hgrow hat hl9 hge hs5 HKB
            go_wp2_with fail
            go_roundw
            case rel => exact ⟨i + 1, _, undef, by omega, by go_num, HI2.out⟩
            case measure => simp [intOf]; omega
          | false =>
            have hk : kb false len f i = false := by simp [kb, hfi]; omega
            rw [hfi] at hx
            clear hfi hle
            go_wp2_with fail
            have HI2 : Hid (NaI w B1 false (lsB len f) len f (i + 1) (createS S nm fn) v w5) := by
              have h := HNA.out
              have hw : wl false len f (i + 1) = wl false len f i := by rw [wl_succ, if_neg (by rw [hk]; simp)]
              exact ⟨HLV.out, by show S.calls + 1 = _; have := h.calls; omega, HK2.out, HK3.out, by show (S.turns ++ [_]).length = _; rw [List.length_append, h.turns]; rfl, HK1.out, by show 0 < (S.files ++ [_]).length; simp, by rw [hw]; exact HR5.out, HAV.out, ⟨h.ge.1, Nat.le_trans h.ge.2 HS5.out⟩, HB5.out⟩
            clear HNA HLV HAV HK1 HK2 HK3 HR5 HB5 HS5 HNM
            go_roundw
            case rel => exact ⟨i + 1, _, undef, by omega, by go_num, HI2.out⟩
            case measure => simp [intOf]; omega
    · obtain rfl : i = n := by omega
      have t1 : decide ((i : Int) < (i : Int)) = false := by simp
      clear hlt hi
      cases sy with
      | true =>
        have hav := HNA.out.av
        have hlt := HNA.out.row.lt
        have hbw := HNA.out.below.size
        have hcl := HNA.out.calls
        have HSD := Lib.hid (syncdir_at w.heap.size wr (w.heap.size + 2) S (fun b => b < w.heap.size ∨ v.ownBlock = some b) hav (fun b h => by
          rcases h with h | h
          · omega
          · exact (hlt b h).2) HNA.out.lv hbw (by omega))
        clear hav hlt hbw hcl
        go_wp2_with fail
        refine HSD.out.mono ?_
        rintro e wx ⟨rfl, hlv, hav, hb5, hk5⟩
        obtain ⟨S2, hS2⟩ : ∃ S2, S2 = syncdirS S := ⟨_, rfl⟩
        have HFIN : Hid (HasIs (nowD S2.last S2.turns (lsB len f)) (oldB :: wl true len f i)) := by
          show HasIs _ _
          rw [hS2]
          show HasIs (nowD S.names [] (lsB len f)) _
          rw [nowD_nil]
          exact HNA.out.fin
        have HFILES : Hid (0 < S2.files.length) := by show 0 < _; rw [hS2]; exact HNA.out.files
        rw [← hS2] at hlv hav
        have HLV := Lib.hid hlv
        have HAV := Lib.hid hav
        have HROW := Lib.hid (owns_keepX HNA.out.row hk5 (fun g hg => .inr hg))
        have HB : Hid (Below w.heap.size w wx) := HNA.out.below.trans hb5
        have HGE : Hid (w.heap.size ≤ B1 ∧ B1 ≤ wx.heap.size) := ⟨HNA.out.ge.1, Nat.le_trans HNA.out.ge.2 hk5.size⟩
        clear hlv hav hb5 hk5 HSD hS2 t1
        have hl9 := wl_len true len f i
        have hge := HGE.out
        obtain ⟨i0, hi0, hz0, hz1, hz2⟩ := info_parts info_str4
        clear HNA HIX
        go_wp2_with (at_builtin; refine wpList_append_own_at _ rfl _ _ 45 rfl B1 9 i0 (.string ByteArray.empty) 1 16 Try.underlying45 hi0 hz0 hz1 hz2 rfl (by decide) v (wl true len f i).length ((wl true len f i).map encStr) rfl (HROW.out.alloc _) ⟨wx.heap.size, 0, none⟩ 1 1 [.string sOld] rfl rfl (cell_one_new _ _ _) (by simp [Value.oneCell']) (by simp only [maxLen]; omega) (by omega) (by simp; omega) ?_; intro v' w6 hown' hgrow _ hat)
        obtain ⟨L, hL⟩ : ∃ L, L = wl true len f i ++ [oldB] := ⟨_, rfl⟩
        obtain ⟨hLr, hLn⟩ := wl_rise true len f i hn2.2
        rw [← hL] at hLr hLn
        have hLl : L.length = (wl true len f i).length + 1 := by rw [hL, List.length_append]; rfl
        have hOW : w6.ownsRow B1 9 1 v' L.length (L.map encStr) := by
          rw [hLl, hL, List.map_append]
          exact hown'
        have hIS : HasIs (nowD S2.last S2.turns (lsB len f)) L := fun x => by
          rw [← HFIN.out x, hL]
          simp [or_comm]
        have hb6 : Below wx.heap.size wx (wx.alloc (.cells #[.string sOld] 9)) := (Below.refl _ _).alloc (Nat.le_refl _) _
        have hsz : (wx.alloc (.cells #[.string sOld] 9)).heap.size = wx.heap.size + 1 := by simp
        have hav6 : DiskAv w.heap.size w6 (w.heap.size + 2) S2 (fun b => b < w.heap.size ∨ v'.ownBlock = some b) := (HAV.out.below hb6).grow hgrow (fun k e => .inr e) (fun b hb => by
          rcases hb with hb | hb
          · exact .inl (.inl hb)
          · rcases hat with e | e
            · exact .inl (.inr (by rw [← e]; exact hb))
            · rw [hb] at e
              have : b = (wx.alloc (.cells #[.string sOld] 9)).heap.size := Option.some.inj e
              exact .inr (Nat.le_of_eq this.symm))
        have HB6 : Hid (Below w.heap.size w w6) := (HB.out.trans (hb6.mono HB.out.size)).grown hgrow (by rw [hsz]; have := HB.out.size; omega) (fun k e => Nat.le_trans hge.1 (HROW.out.lt k e).1)
        obtain ⟨a', cap', rfl, hcap', hr', hge', -⟩ := Row.of_owns hOW
        have hLp : 0 < L.length := by omega
        have hlt6 := hOW.lt
        have hbw6 := HB6.out.size
        have hFA : (lsB len f).length = 0 ∨ (bOf a < w.heap.size ∨ (Value.slice a' L.length cap').ownBlock = some (bOf a)) := by
          rw [lsB_len]
          rcases Nat.eq_zero_or_pos len with h | h
          · exact .inl h
          · exact .inr (.inl (HR.out.lt h))
        have hcr := crash_any w.heap.size w6 (w.heap.size + 2) S2 (fun b => b < w.heap.size ∨ (Value.slice a' L.length cap').ownBlock = some b) hav6 (fun b h => by
          rcases h with h | h
          · omega
          · exact (hlt6 b h).2) HLV.out.ok HFILES.out hbw6 [] none 0 (Row.nil _ _ _) ⟨Nat.le_refl 0, trivial⟩ (.inl rfl) (lsB len f) a cap (lsB_row (HR.out.kept HB6.out)) (by rw [lsB_len]; exact HL.out) hFA
        rw [lsB_len] at hcr
        have HCR := Lib.hid hcr
        have HTY := Lib.hid hav6.tidy.2
        have HOW := Lib.hid hOW
        have HIS := Lib.hid hIS
        have HLr := Lib.hid hLr
        have HLn := Lib.hid hLn
        have HLp := Lib.hid hLp
        have HOLD : Hid (oldB ∈ L) := by show _ ∈ L; rw [hL]; simp
        have HLl : Hid (L.length ≤ 1000) := by show _ ≤ _; omega
        clear hown' hgrow hat hLr hLn hLl hOW hIS hb6 hsz hav6 hcap' hr' hge' hLp hlt6 hbw6 hFA hcr hl9 hge HROW HAV HB HFIN HFILES hL HR HL
        go_wp2_with fail
        refine HCR.out.mono ?_
        rintro e w7 ⟨rfl, hav7, hb7, hk7⟩
        have hlv7 := crash_lv HLV.out [] (lsB len f) HTY.out hav7.canon.1
        have how7 := owns_keepX HOW.out hk7 (fun g hg => .inr hg)
        obtain ⟨nb, hnb⟩ := hav7.nm
        have HPM : Hid (L.Perm (strKeys (crashS S2 [] (lsB len f)).names)) := keys_perm hnb HLn.out HIS.out
        have HLI := Lib.hid (list_new w.heap.size w7 (w.heap.size + 2) _ hav7.at hlv7.ok hlv7.dead L HPM.out HLr.out)
        have HAV7 := Lib.hid hav7
        have HLV7 := Lib.hid hlv7
        have HOW7 := Lib.hid how7
        have HB7 : Hid (Below w.heap.size w w7) := HB6.out.trans hb7
        clear hav7 hb7 hk7 hlv7 how7 hnb HCR HTY HOW HB6 HLV
        go_wp2_with fail
        refine HLI.out.mono ?_
        rintro e w8 ⟨a8, cap8, rfl, hr8, hb8, hge8⟩
        have HB8 : Hid (Below w.heap.size w w8) := HB7.out.trans (hb8.mono HB7.out.size)
        have hav8 := HAV7.out.avoid hb8 (fun b => b = bOf a8) (fun b hb => by rw [hb]; exact hge8.resolve_left (by have := HLp.out; omega))
        have how8 := owns_keepX (K := fun _ => True) HOW7.out (KeepX.of_below hb8) (fun _ _ => trivial)
        have hlt8 := how8.lt
        have hbw8 := HB8.out.size
        have hl8 := hr8.lt HLp.out
        have HCR := Lib.hid (crash_any w.heap.size w8 (w.heap.size + 2) _ _ hav8 (fun b h => by
          rcases h with (h | h) | h
          · omega
          · exact (hlt8 b h).2
          · rw [h]; exact hl8) HLV7.out.ok (files_pos (x := oldB) ((HIS.out oldB).1 HOLD.out) HLV7.out.ok) hbw8 [] none 0 (Row.nil _ _ _) ⟨Nat.le_refl 0, trivial⟩ (.inl rfl) [] none 0 (Row.nil _ _ _) (by decide) (.inl rfl))
        have HTY := Lib.hid hav8.tidy.2
        have HOW8 := Lib.hid how8
        have HR8 := Lib.hid hr8
        clear hr8 hb8 hge8 hav8 how8 hlt8 hbw8 hl8 HLI HAV7 HOW7 HB7
        go_wp2_with fail
        refine HCR.out.mono ?_
        rintro e w9 ⟨rfl, hav9, hb9, hk9⟩
        have hlv9 := crash_lv HLV7.out [] [] HTY.out hav9.canon.1
        have hnm9 : (crashS (crashS S2 [] (lsB len f)) [] []).names = (crashS S2 [] (lsB len f)).names := by
          show nowD (crashS S2 [] (lsB len f)).last [] [] = _
          rw [nowD_nil]
          rfl
        have how9 := owns_keepX HOW8.out hk9 (fun g hg => .inl (.inr hg))
        have hr9 := row_kx HR8.out hk9 (.inr (.inr rfl))
        have hw9 : ∀ W, Below w9.heap.size w9 W → Row W a' L.length (txtV L) := fun W hW => by
          obtain ⟨ax, cx, hx, -, hrx, -, -⟩ := Row.of_owns how9
          injection hx with hx1 hx2 hx3
          subst hx1
          exact (hrx.congr fun k hk => by unfold txtV; simp [List.getD_eq_getElem?_getD, hk]).kept hW
        have HSM := Lib.hid (samet_yes w9 a8 a' L cap8 cap' HLl.out hr9 (hw9 w9 (Below.refl _ _)))
        have HB9 : Hid (Below w.heap.size w w9) := HB8.out.trans hb9
        have HAV9 := Lib.hid hav9
        have HLV9 := Lib.hid hlv9
        have HW9 := Lib.hid hw9
        have HPM9 : Hid (L.Perm (strKeys (crashS (crashS S2 [] (lsB len f)) [] []).names)) := by show _; rw [hnm9]; exact HPM.out
        clear hav9 hb9 hk9 hlv9 hnm9 how9 hr9 hw9 HCR HTY HOW8 HR8 HB8 HPM
        go_wp2_with fail
        refine HSM.out.mono ?_
        rintro e w10 ⟨rfl, q, hw10⟩
        have hb10 : Below w9.heap.size w9 w10 := by rw [hw10]; exact below_drewN (Below.refl _ _) q
        have HB10 := Lib.hid hb10
        have HLI := Lib.hid (list_new w.heap.size w10 (w.heap.size + 2) _ (HAV9.out.below hb10).at HLV9.out.ok HLV9.out.dead L HPM9.out HLr.out)
        clear hb10 hw10 HSM
        go_wp2_with fail
        refine HLI.out.mono ?_
        rintro e w11 ⟨a11, cap11, rfl, hr11, hb11, -⟩
        have hb12 : Below w9.heap.size w9 w11 := HB10.out.trans (hb11.mono HB10.out.size)
        have HSM := Lib.hid (samet_yes w11 a11 a' L cap11 cap' HLl.out hr11 (HW9.out w11 hb12))
        have HB12 : Hid (Below w.heap.size w w11) := HB9.out.trans (hb12.mono HB9.out.size)
        clear hr11 hb11 hb12 HLI HB10 HB9 HAV9 HLV9 HW9 HPM9
        go_wp2_with fail
        refine HSM.out.mono ?_
        rintro e w13 ⟨rfl, q, hw13⟩
        have HB13 : Hid (Below w.heap.size w w13) := by show _; rw [hw13]; exact below_drewN HB12.out q
        clear hw13 HSM HB12
        go_wp2_with fail
        refine (awake4_any _).mono ?_
        rintro e w14 ⟨rfl, hb14⟩
        have HB14 : Hid (Below w.heap.size w w14) := HB13.out.trans (hb14.mono HB13.out.size)
        clear hb14
        go_wp2
        go_ret
        exact ⟨rfl, HB14.out⟩
      | false =>
        obtain ⟨S2, hS2⟩ : ∃ S2, S2 = S := ⟨_, rfl⟩
        subst hS2
        obtain ⟨wx, hwx⟩ : ∃ wx, wx = wr := ⟨_, rfl⟩
        subst hwx
        have HFIN : Hid (HasIs (nowD S2.last S2.turns (lsB len f)) (oldB :: wl false len f i)) := HNA.out.fin
        have HFILES := Lib.hid HNA.out.files
        have HLV := Lib.hid HNA.out.lv
        have HAV := Lib.hid HNA.out.av
        have HROW := Lib.hid HNA.out.row
        have HB := Lib.hid HNA.out.below
        have HGE := Lib.hid HNA.out.ge
        have hl9 := wl_len false len f i
        have hge := HGE.out
        obtain ⟨i0, hi0, hz0, hz1, hz2⟩ := info_parts info_str4
        clear HNA HIX
        go_wp2_with (at_builtin; refine wpList_append_own_at _ rfl _ _ 45 rfl B1 9 i0 (.string ByteArray.empty) 1 16 Try.underlying45 hi0 hz0 hz1 hz2 rfl (by decide) v (wl false len f i).length ((wl false len f i).map encStr) rfl (HROW.out.alloc _) ⟨wx.heap.size, 0, none⟩ 1 1 [.string sOld] rfl rfl (cell_one_new _ _ _) (by simp [Value.oneCell']) (by simp only [maxLen]; omega) (by omega) (by simp; omega) ?_; intro v' w6 hown' hgrow _ hat)
        obtain ⟨L, hL⟩ : ∃ L, L = wl false len f i ++ [oldB] := ⟨_, rfl⟩
        obtain ⟨hLr, hLn⟩ := wl_rise false len f i hn2.2
        rw [← hL] at hLr hLn
        have hLl : L.length = (wl false len f i).length + 1 := by rw [hL, List.length_append]; rfl
        have hOW : w6.ownsRow B1 9 1 v' L.length (L.map encStr) := by
          rw [hLl, hL, List.map_append]
          exact hown'
        have hIS : HasIs (nowD S2.last S2.turns (lsB len f)) L := fun x => by
          rw [← HFIN.out x, hL]
          simp [or_comm]
        have hb6 : Below wx.heap.size wx (wx.alloc (.cells #[.string sOld] 9)) := (Below.refl _ _).alloc (Nat.le_refl _) _
        have hsz : (wx.alloc (.cells #[.string sOld] 9)).heap.size = wx.heap.size + 1 := by simp
        have hav6 : DiskAv w.heap.size w6 (w.heap.size + 2) S2 (fun b => b < w.heap.size ∨ v'.ownBlock = some b) := (HAV.out.below hb6).grow hgrow (fun k e => .inr e) (fun b hb => by
          rcases hb with hb | hb
          · exact .inl (.inl hb)
          · rcases hat with e | e
            · exact .inl (.inr (by rw [← e]; exact hb))
            · rw [hb] at e
              have : b = (wx.alloc (.cells #[.string sOld] 9)).heap.size := Option.some.inj e
              exact .inr (Nat.le_of_eq this.symm))
        have HB6 : Hid (Below w.heap.size w w6) := (HB.out.trans (hb6.mono HB.out.size)).grown hgrow (by rw [hsz]; have := HB.out.size; omega) (fun k e => Nat.le_trans hge.1 (HROW.out.lt k e).1)
        obtain ⟨a', cap', rfl, hcap', hr', hge', -⟩ := Row.of_owns hOW
        have hLp : 0 < L.length := by omega
        have hlt6 := hOW.lt
        have hbw6 := HB6.out.size
        have hFA : (lsB len f).length = 0 ∨ (bOf a < w.heap.size ∨ (Value.slice a' L.length cap').ownBlock = some (bOf a)) := by
          rw [lsB_len]
          rcases Nat.eq_zero_or_pos len with h | h
          · exact .inl h
          · exact .inr (.inl (HR.out.lt h))
        have hcr := crash_any w.heap.size w6 (w.heap.size + 2) S2 (fun b => b < w.heap.size ∨ (Value.slice a' L.length cap').ownBlock = some b) hav6 (fun b h => by
          rcases h with h | h
          · omega
          · exact (hlt6 b h).2) HLV.out.ok HFILES.out hbw6 [] none 0 (Row.nil _ _ _) ⟨Nat.le_refl 0, trivial⟩ (.inl rfl) (lsB len f) a cap (lsB_row (HR.out.kept HB6.out)) (by rw [lsB_len]; exact HL.out) hFA
        rw [lsB_len] at hcr
        have HCR := Lib.hid hcr
        have HTY := Lib.hid hav6.tidy.2
        have HOW := Lib.hid hOW
        have HIS := Lib.hid hIS
        have HLr := Lib.hid hLr
        have HLn := Lib.hid hLn
        have HLp := Lib.hid hLp
        have HOLD : Hid (oldB ∈ L) := by show _ ∈ L; rw [hL]; simp
        have HLl : Hid (L.length ≤ 1000) := by show _ ≤ _; omega
        clear hown' hgrow hat hLr hLn hLl hOW hIS hb6 hsz hav6 hcap' hr' hge' hLp hlt6 hbw6 hFA hcr hl9 hge HROW HAV HB HFIN HFILES hL HR HL
        go_wp2_with fail
        refine HCR.out.mono ?_
        rintro e w7 ⟨rfl, hav7, hb7, hk7⟩
        have hlv7 := crash_lv HLV.out [] (lsB len f) HTY.out hav7.canon.1
        have how7 := owns_keepX HOW.out hk7 (fun g hg => .inr hg)
        obtain ⟨nb, hnb⟩ := hav7.nm
        have HPM : Hid (L.Perm (strKeys (crashS S2 [] (lsB len f)).names)) := keys_perm hnb HLn.out HIS.out
        have HLI := Lib.hid (list_new w.heap.size w7 (w.heap.size + 2) _ hav7.at hlv7.ok hlv7.dead L HPM.out HLr.out)
        have HAV7 := Lib.hid hav7
        have HLV7 := Lib.hid hlv7
        have HOW7 := Lib.hid how7
        have HB7 : Hid (Below w.heap.size w w7) := HB6.out.trans hb7
        clear hav7 hb7 hk7 hlv7 how7 hnb HCR HTY HOW HB6 HLV
        go_wp2_with fail
        refine HLI.out.mono ?_
        rintro e w8 ⟨a8, cap8, rfl, hr8, hb8, hge8⟩
        have HB8 : Hid (Below w.heap.size w w8) := HB7.out.trans (hb8.mono HB7.out.size)
        have hav8 := HAV7.out.avoid hb8 (fun b => b = bOf a8) (fun b hb => by rw [hb]; exact hge8.resolve_left (by have := HLp.out; omega))
        have how8 := owns_keepX (K := fun _ => True) HOW7.out (KeepX.of_below hb8) (fun _ _ => trivial)
        have hlt8 := how8.lt
        have hbw8 := HB8.out.size
        have hl8 := hr8.lt HLp.out
        have HCR := Lib.hid (crash_any w.heap.size w8 (w.heap.size + 2) _ _ hav8 (fun b h => by
          rcases h with (h | h) | h
          · omega
          · exact (hlt8 b h).2
          · rw [h]; exact hl8) HLV7.out.ok (files_pos (x := oldB) ((HIS.out oldB).1 HOLD.out) HLV7.out.ok) hbw8 [] none 0 (Row.nil _ _ _) ⟨Nat.le_refl 0, trivial⟩ (.inl rfl) [] none 0 (Row.nil _ _ _) (by decide) (.inl rfl))
        have HTY := Lib.hid hav8.tidy.2
        have HOW8 := Lib.hid how8
        have HR8 := Lib.hid hr8
        clear hr8 hb8 hge8 hav8 how8 hlt8 hbw8 hl8 HLI HAV7 HOW7 HB7
        go_wp2_with fail
        refine HCR.out.mono ?_
        rintro e w9 ⟨rfl, hav9, hb9, hk9⟩
        have hlv9 := crash_lv HLV7.out [] [] HTY.out hav9.canon.1
        have hnm9 : (crashS (crashS S2 [] (lsB len f)) [] []).names = (crashS S2 [] (lsB len f)).names := by
          show nowD (crashS S2 [] (lsB len f)).last [] [] = _
          rw [nowD_nil]
          rfl
        have how9 := owns_keepX HOW8.out hk9 (fun g hg => .inl (.inr hg))
        have hr9 := row_kx HR8.out hk9 (.inr (.inr rfl))
        have hw9 : ∀ W, Below w9.heap.size w9 W → Row W a' L.length (txtV L) := fun W hW => by
          obtain ⟨ax, cx, hx, -, hrx, -, -⟩ := Row.of_owns how9
          injection hx with hx1 hx2 hx3
          subst hx1
          exact (hrx.congr fun k hk => by unfold txtV; simp [List.getD_eq_getElem?_getD, hk]).kept hW
        have HSM := Lib.hid (samet_yes w9 a8 a' L cap8 cap' HLl.out hr9 (hw9 w9 (Below.refl _ _)))
        have HB9 : Hid (Below w.heap.size w w9) := HB8.out.trans hb9
        have HAV9 := Lib.hid hav9
        have HLV9 := Lib.hid hlv9
        have HW9 := Lib.hid hw9
        have HPM9 : Hid (L.Perm (strKeys (crashS (crashS S2 [] (lsB len f)) [] []).names)) := by show _; rw [hnm9]; exact HPM.out
        clear hav9 hb9 hk9 hlv9 hnm9 how9 hr9 hw9 HCR HTY HOW8 HR8 HB8 HPM
        go_wp2_with fail
        refine HSM.out.mono ?_
        rintro e w10 ⟨rfl, q, hw10⟩
        have hb10 : Below w9.heap.size w9 w10 := by rw [hw10]; exact below_drewN (Below.refl _ _) q
        have HB10 := Lib.hid hb10
        have HLI := Lib.hid (list_new w.heap.size w10 (w.heap.size + 2) _ (HAV9.out.below hb10).at HLV9.out.ok HLV9.out.dead L HPM9.out HLr.out)
        clear hb10 hw10 HSM
        go_wp2_with fail
        refine HLI.out.mono ?_
        rintro e w11 ⟨a11, cap11, rfl, hr11, hb11, -⟩
        have hb12 : Below w9.heap.size w9 w11 := HB10.out.trans (hb11.mono HB10.out.size)
        have HSM := Lib.hid (samet_yes w11 a11 a' L cap11 cap' HLl.out hr11 (HW9.out w11 hb12))
        have HB12 : Hid (Below w.heap.size w w11) := HB9.out.trans (hb12.mono HB9.out.size)
        clear hr11 hb11 hb12 HLI HB10 HB9 HAV9 HLV9 HW9 HPM9
        go_wp2_with fail
        refine HSM.out.mono ?_
        rintro e w13 ⟨rfl, q, hw13⟩
        have HB13 : Hid (Below w.heap.size w w13) := by show _; rw [hw13]; exact below_drewN HB12.out q
        clear hw13 HSM HB12
        go_wp2_with fail
        refine (awake4_any _).mono ?_
        rintro e w14 ⟨rfl, hb14⟩
        have HB14 : Hid (Below w.heap.size w w14) := HB13.out.trans (hb14.mono HB13.out.size)
        clear hb14
        go_wp2
        go_ret
        exact ⟨rfl, HB14.out⟩
end Go.Proofs.Ytelndbjjkhlacaa
