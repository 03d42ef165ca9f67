/-
  The statement DiskQuota: its walk.
-/
import Derived.Test.YtelndbjjkhlacaaDkTwo
import Derived.Deep.CutBlock
namespace Go.Proofs.Ytelndbjjkhlacaa
open Go.RowKit Go.Maps

abbrev sBn : ByteArray := ⟨#[98]⟩
theorem okN_b : okN sBn = true := by decide
def twoD (f g : Nat) : DT := .map [(kl sA, enc f), (kl sBn, enc g)]
theorem put_a (f g : Nat) : (DataW.map [(kl sBn, enc g)] : DT).put (kl sA) (enc f) = twoD f g := rfl
theorem put_b (f g : Nat) : (DataW.map [(kl sA, enc f)] : DT).put (kl sBn) (enc g) = twoD f g := rfl
theorem del_a (f g : Nat) : (twoD f g).del (kl sA) = .map [(kl sBn, enc g)] := rfl
theorem del_b (f g : Nat) : (twoD f g).del (kl sBn) = .map [(kl sA, enc f)] := rfl
/-- two files, of so many bytes -/
structure TwoF (S : DSt) (f g u v q : Nat) (c : Int) : Prop where
  lv : Lv S
  names : S.names = twoD f g
  mf : f ∈ S.files
  mg : g ∈ S.files
  ne : f ≠ g
  quota : S.quota = (q : Int)
  calls : S.calls ≤ c
  lf : (S.fb f).length = u
  lg : (S.fb g).length = v
theorem TwoF.rise {S : DSt} {f g u v q : Nat} {c : Int} (h : TwoF S f g u v q c) : fileOf S.names sA = some f ∧ fileOf S.names sBn = some g ∧ usedS S = u + v := by
  obtain ⟨h1, h2, h3⟩ := two_rise sA sBn f g (put_b f g) (by decide) S h.names
  exact ⟨h1, h2, by rw [h3 h.lv.dead, h.lf, h.lg]⟩
theorem TwoF.appA {S : DSt} {f g u v q : Nat} {c : Int} (h : TwoF S f g u v q c) {d : List Nat} (hl : Lv (appendS S f d)) : TwoF (appendS S f d) f g (u + d.length) v q (c + 2) :=
  ⟨hl, h.names, h.mf, h.mg, h.ne, h.quota, by have := h.calls; show S.calls + 1 ≤ c + 2; omega, by rw [appendS_fb, List.length_append, h.lf], by show (updN S.fb f _ g).length = v; rw [updN_other _ _ h.ne.symm]; exact h.lg⟩
theorem TwoF.appB {S : DSt} {f g u v q : Nat} {c : Int} (h : TwoF S f g u v q c) {d : List Nat} (hl : Lv (appendS S g d)) : TwoF (appendS S g d) f g u (v + d.length) q (c + 2) :=
  ⟨hl, h.names, h.mf, h.mg, h.ne, h.quota, by have := h.calls; show S.calls + 1 ≤ c + 2; omega, by show (updN S.fb g _ f).length = u; rw [updN_other _ _ h.ne]; exact h.lf, by rw [appendS_fb, List.length_append, h.lg]⟩
theorem TwoF.call {S : DSt} {f g u v q : Nat} {c : Int} (h : TwoF S f g u v q c) (hl : Lv (callS S)) : TwoF (callS S) f g u v q (c + 2) :=
  ⟨hl, h.names, h.mf, h.mg, h.ne, h.quota, by have := h.calls; show S.calls + 1 ≤ c + 2; omega, h.lf, h.lg⟩
theorem TwoF.newA {S : DSt} {f g u v q : Nat} {c : Int} (h : TwoF S f g u v q c) (t : Turn) (fn : Nat) (hfn : fn ∉ S.files) (hl : Lv (createS (moveS S (S.names.del (kl sA)) t) sA fn)) : TwoF (createS (moveS S (S.names.del (kl sA)) t) sA fn) fn g 0 v q (c + 2) := by
  have hne : fn ≠ g := fun e => hfn (e ▸ h.mg)
  refine ⟨hl, ?_, List.mem_append_right _ (List.mem_singleton.2 rfl), List.mem_append_left _ h.mg, hne, h.quota, by have := h.calls; show S.calls + 1 + 1 ≤ c + 2; omega, by rw [createS_fb]; rfl, by show (updN S.fb fn _ g).length = v; rw [updN_other _ _ hne.symm]; exact h.lg⟩
  show (S.names.del (kl sA)).put (kl sA) (enc fn) = _
  rw [h.names, del_a, put_a]
theorem TwoF.newB {S : DSt} {f g u v q : Nat} {c : Int} (h : TwoF S f g u v q c) (t : Turn) (fn : Nat) (hfn : fn ∉ S.files) (hl : Lv (createS (moveS S (S.names.del (kl sBn)) t) sBn fn)) : TwoF (createS (moveS S (S.names.del (kl sBn)) t) sBn fn) f fn u 0 q (c + 2) := by
  have hne : fn ≠ f := fun e => hfn (e ▸ h.mf)
  refine ⟨hl, ?_, List.mem_append_left _ h.mf, List.mem_append_right _ (List.mem_singleton.2 rfl), hne.symm, h.quota, by have := h.calls; show S.calls + 1 + 1 ≤ c + 2; omega, by show (updN S.fb fn _ f).length = u; rw [updN_other _ _ hne.symm]; exact h.lf, by rw [createS_fb]; rfl⟩
  show (S.names.del (kl sBn)).put (kl sBn) (enc fn) = _
  rw [h.names, del_b, put_b]
/-- what holds at each round -/
structure QuI (w : World) (ub q i : Nat) (S : DSt) (f g u v : Nat) (wr : World) : Prop where
  two : TwoF S f g u v q (2 + 2 * (i : Int))
  le : u + v ≤ q
  row : wr.rowIs ub 43 2 (fun j => .int .i64 ((if j = 0 then u else v : Nat) : Int))
  av : DiskAv w.heap.size wr (w.heap.size + 2) S (fun b => b < w.heap.size ∨ b = ub)
  ge : w.heap.size ≤ ub
  below : Below w.heap.size w wr
theorem DiskAv.setOther {B : Nat} {w : World} {bd : Nat} {S : DSt} {A : Nat → Prop} (h : DiskAv B w bd S A) (ub : Nat) (hA : A ub) (i : Nat) (x : Value) : DiskAv B (w.setCell ⟨ub, i, none⟩ x) bd S A := by
  obtain ⟨ρ, vf, vt, bn, bl, V, hd, hav⟩ := h
  exact ⟨ρ, vf, vt, bn, bl, V, hd.kept (KeepX.setCell w ⟨ub, i, none⟩ x (fun h => h (hav ub hA))), hav⟩
/-- the round's numbers -/
theorem quo_nums (x : Int) : (bits .and .i64 x 1 = 0 ∨ bits .and .i64 x 1 = 1) ∧ (∃ n : Nat, bits .and .i64 (x / 2) 63 = (n : Int) ∧ n < 64) ∧ (bits .and .i64 (x / 256) 7 = 0 ∨ ((bits .and .i64 (x / 256) 7 == 0) = false ∧ decide (bits .and .i64 (x / 256) 7 = 0) = false)) := by
  have e1 : bits .and .i64 x 1 = x % 2 := i64_mask x 1 (by omega)
  have e2 : bits .and .i64 (x / 2) 63 = x / 2 % 64 := i64_mask (x / 2) 6 (by omega)
  have e3 : bits .and .i64 (x / 256) 7 = x / 256 % 8 := i64_mask (x / 256) 3 (by omega)
  refine ⟨by rw [e1]; omega, ⟨(x / 2 % 64).toNat, by rw [e2]; omega, by omega⟩, ?_⟩
  rw [e3]
  by_cases h : x / 256 % 8 = 0
  · exact .inl h
  · exact .inr ⟨by simpa using h, by simpa using h⟩
set_option maxRecDepth 100000 in
set_option maxHeartbeats 4000000 in
theorem dquota_walk (w : World) (x0 : Int) (_ : (Lit.int .i64 x0).wf = true) (a : Option Addr) (len cap : Nat) (ff : Nat → Int) (hl : len ≤ maxLen) (hr : Row w a len (fun k => .int .i64 (ff k)) ∧ ∀ k, k < len → (Lit.int .i64 (ff k)).wf = true) :
    Calls Try.prog 7 #[.int .i64 x0, .slice a len cap] w fun e w' => e = .returned (.bool true) ∧ Below w.heap.size w w' := by
  obtain ⟨q, hq, hq2⟩ : ∃ n : Nat, bits .and .i64 x0 511 = (n : Int) ∧ n < 512 := by
    have en : bits .and .i64 x0 511 = x0 % 512 := i64_mask x0 9 (by omega)
    exact ⟨(x0 % 512).toNat, by rw [en]; omega, by omega⟩
  have hix := run_ix (P := Try.prog) 34 (by kernel_rfl) size_int4 a len cap hr.1.at_ .i64
  have HIX := Lib.hid hix
  have HR := Lib.hid hr.1
  unfold maxLen at hl
  clear hr hix
  have HN := Lib.hid (dnew_any w (q : Int) (by omega))
  have HB1 := Lib.hid (newW_below w (q : Int))
  have HA1 := Lib.hid (DiskAv.avB (new_at w (q : Int)))
  go_enter Try.func7, Try.ntmps7
  go_wp2_with fail
  refine HN.out.mono ?_
  rintro e w1 ⟨rfl, hw1⟩
  rw [← hw1] at HB1 HA1
  clear hw1 HN
  go_wp2_with fail
  refine (create_at w.heap.size w1 (w.heap.size + 2) (newS (q : Int)) _ HA1.out (fun b h => Nat.lt_of_lt_of_le h HB1.out.size) (newS_lv (q : Int) (by omega)) HB1.out.size (by show (0 : Int) < 100000; omega) sA okN_a rfl (by show 0 < 64; omega)).mono ?_
  rintro e w3 ⟨f, -, rfl, hlv, hav, hb3, -⟩
  have HB3 : Hid (Below w.heap.size w w3) := HB1.out.trans hb3
  have hbw := HB3.out.size
  have HCB := Lib.hid (create_at w.heap.size w3 (w.heap.size + 2) (createS (newS (q : Int)) sA f) _ hav (fun b h => Nat.lt_of_lt_of_le h hbw) hlv hbw (by show (0 : Int) + 1 < 100000; omega) sBn okN_b (fileOf_one_no (by decide) f) (by show 1 < 64; omega))
  clear hlv hav hb3 hbw HA1 HB1
  go_wp2_with fail
  refine HCB.out.mono ?_
  rintro e w4 ⟨g, hg, rfl, hlv, hav, hb4, -⟩
  have hne : g ≠ f := fun e => hg (by rw [e]; exact List.mem_singleton.2 rfl)
  have HT0 : Hid (TwoF (createS (createS (newS (q : Int)) sA f) sBn g) f g 0 0 q 2) := by
    refine ⟨hlv, rfl, List.mem_append_left _ (List.mem_singleton.2 rfl), List.mem_append_right _ (List.mem_singleton.2 rfl), hne.symm, rfl, Int.le_refl 2, ?_, by rw [createS_fb]; rfl⟩
    show (updN (updN (newS (q : Int)).fb f []) g [] f).length = 0
    rw [updN_other _ _ hne.symm, updN_same]
    rfl
  have HA4 := Lib.hid hav
  have HB4 : Hid (Below w.heap.size w w4) := HB3.out.trans hb4
  clear hlv hav hb4 hne hg HCB HB3 hq
  have hs4 := HB4.out.size
  have HI0 : Hid (QuI w w4.heap.size q 0 (createS (createS (newS (q : Int)) sA f) sBn g) f g 0 0 (w4.alloc (.cells #[.int .i64 0, .int .i64 0] 43))) := by
    have hb5 : Below w4.heap.size w4 (w4.alloc (.cells #[.int .i64 0, .int .i64 0] 43)) := (Below.refl _ _).alloc (Nat.le_refl _) _
    refine ⟨HT0.out, Nat.zero_le _, ?_, (HA4.out.avoid hb5 (fun b => b = w4.heap.size) (fun b hb => Nat.le_of_eq hb.symm)), hs4, HB4.out.trans (hb5.mono hs4)⟩
    exact World.rowIs_alloc w4 #[.int .i64 0, .int .i64 0] 43 _ fun j hj => by
      match j, hj with
      | 0, _ => rfl
      | 1, _ => rfl
  clear HT0 HA4 HB4 hs4
  go_wp2_with fail
  go_loopw [7, 8, 9, 10, 11, 12] (fun v7 _ _ _ _ _ wr => ∃ (i : Nat) (S : DSt) (f g u v : Nat), i ≤ len ∧ i ≤ 40 ∧ v7 = .int .i64 (i : Int) ∧ QuI w w4.heap.size q i S f g u v wr) (fun v7 _ _ _ _ _ _ => 40 - (intOf v7).toNat)
  case atStart => exact ⟨0, _, f, g, 0, 0, Nat.zero_le _, Nat.zero_le _, rfl, HI0.out⟩
  case round =>
    clear HI0 f g
    obtain ⟨i, S, f, g, u, v, hi, hi40, rfl, hqu⟩ := hrel
    have HQ := Lib.hid hqu
    clear hqu
    by_cases hlt : i < len ∧ i < 40
    · obtain ⟨hlt, hi2⟩ := hlt
      have hx := (HR.out.kept HQ.out.below).cell i hlt
      have hxk := fun W => HIX.out W i hlt
      generalize hfx : ff i = x at hx
      clear hfx
      have t20 : (i : Int) < 40 := by omega
      have tln : (i : Int) < (len : Int) := by omega
      obtain ⟨hxb, ⟨n, hxn, hn⟩, hxt⟩ := quo_nums x
      rcases hxb with hxb | hxb
      · have HF := Lib.hid HQ.out.two.rise.1
        have hus := HQ.out.two.rise.2.2
        have HUS := Lib.hid hus
        rcases hxt with hxt | ⟨hxt, hxt2⟩
        · go_upto_region 9 with fail
          go_quiet (fail)
          have hb1 : Below wr.heap.size wr ((wr.drewN nq).alloc (.cells #[.string ⟨#[97]⟩, .string ⟨#[98]⟩] 9)) := (below_drewN (Below.refl _ _) nq).alloc (Nat.le_refl _) _
          have hcn : ((wr.drewN nq).alloc (.cells #[.string ⟨#[97]⟩, .string ⟨#[98]⟩] 9)).cell? ⟨wr.heap.size, 0, none⟩ = some (.string ⟨#[97]⟩) :=
            (World.rowIs_alloc (wr.drewN nq) #[.string ⟨#[97]⟩, .string ⟨#[98]⟩] 9 (fun j => if j = 0 then .string ⟨#[97]⟩ else .string ⟨#[98]⟩) (fun j hj => by
              match j, hj with
              | 0, _ => rfl
              | 1, _ => rfl)).cell (i := 0) (by decide)
          have hx1 : ((wr.drewN nq).alloc (.cells #[.string ⟨#[97]⟩, .string ⟨#[98]⟩] 9)).cell? ⟨bOf a, oOf a + i, none⟩ = some (.int .i64 x) := (hb1.cell (p := ⟨bOf a, oOf a + i, none⟩) (World.block_lt_of_cell? wr _ hx)).trans hx
          have HB1 := Lib.hid hb1
          have hs1 := hb1.size
          have hlu := HQ.out.row.lt
          have hbw := HQ.out.below.size
          have hcl := HQ.out.two.calls
          have HRM := Lib.hid (remove_at w.heap.size _ (w.heap.size + 2) S (fun b => b < w.heap.size ∨ b = w4.heap.size) (HQ.out.av.below hb1) (fun b h => by rcases h with h | h; (omega); (omega)) HQ.out.two.lv (by omega) (by omega) sA okN_a _ HF.out)
          clear hb1 hs1 hlu hbw hcl hx t20 tln hus
          go_wp2_with fail
          clear hcn hx1 hxk
          refine HRM.out.mono ?_
          rintro e w5 ⟨rfl, hlv, hav, hb5, hk5⟩
          have HK5 : Hid (KeepX (fun b => b < w.heap.size ∨ b = w4.heap.size) wr w5) := (KeepX.of_below HB1.out).trans hk5
          have HB5 : Hid (Below w.heap.size w w5) := (HQ.out.below.trans (HB1.out.mono HQ.out.below.size)).trans hb5
          have hbw := HB5.out.size
          have hlu := HQ.out.row.lt
          have hcl := HQ.out.two.calls
          have hks := HK5.out.size
          have hnn : (moveS S (S.names.del (kl sA)) ⟨2, sA, ⟨#[]⟩, none⟩).names = (twoD f g).del (kl sA) := by show S.names.del _ = _; rw [HQ.out.two.names]
          have HCR := Lib.hid (create_at w.heap.size w5 (w.heap.size + 2) _ (fun b => b < w.heap.size ∨ b = w4.heap.size) hav (fun b h => by rcases h with h | h; (omega); (omega)) hlv hbw (by show S.calls + 1 < 100000; omega) sA okN_a (by rw [hnn]; exact fileOf_one_no (by decide) _) (by rw [hnn]; show 1 < 64; omega))
          clear hlv hav hb5 hk5 hbw hlu hcl hks hnn HRM
          go_wp2_with fail
          refine HCR.out.mono ?_
          rintro e w6 ⟨fn, hfn, rfl, hlv, hav, hb6, hk6⟩
          have hrow6 := rowIs_keepX HQ.out.row (HK5.out.trans hk6) (.inr rfl)
          have HT6 := Lib.hid (HQ.out.two.newA _ fn hfn hlv)
          have HB6 : Hid (Below w.heap.size w w6) := HB5.out.trans hb6
          have HA6 := Lib.hid hav
          have HR6 := Lib.hid hrow6
          have c0 := hrow6.cell (i := 0) (by omega)
          have f0 := hrow6.frozen 0
          clear hlv hav hb6 hk6 hfn hrow6 HCR HK5
          have HI2 : Hid (∃ S' u' v', QuI w w4.heap.size q (i + 1) S' fn g u' v' (w6.setCell ⟨w4.heap.size, 0, none⟩ (.int .i64 0))) := by
            have h2 := HT6.out
            have hle := HQ.out.le
            refine ⟨_, _, _, ⟨h2.lv, h2.names, h2.mf, h2.mg, h2.ne, h2.quota, by have := h2.calls; omega, h2.lf, h2.lg⟩, by omega, (HR6.out.set 0 (.int .i64 0)).congr fun j hj => ?_, HA6.out.setOther _ (.inr rfl) _ _, HQ.out.ge, HB6.out.setCell (p := ⟨w4.heap.size, 0, none⟩) HQ.out.ge _⟩
            match j, hj with
            | 0, _ => rfl
            | 1, _ => rfl
          clear HT6 HA6 HR6 HB6 HB5 HB1
          go_wp2_with fail
          go_roundw
          case rel =>
            obtain ⟨S', u', v', h⟩ := HI2.out
            exact ⟨i + 1, S', _, _, u', v', by omega, by omega, by go_num, h⟩
          case measure => simp [intOf]; omega
        · go_upto_region 9 with fail
          go_quiet (fail)
          have hb1 : Below wr.heap.size wr ((wr.drewN nq).alloc (.cells #[.string ⟨#[97]⟩, .string ⟨#[98]⟩] 9)) := (below_drewN (Below.refl _ _) nq).alloc (Nat.le_refl _) _
          have hcn : ((wr.drewN nq).alloc (.cells #[.string ⟨#[97]⟩, .string ⟨#[98]⟩] 9)).cell? ⟨wr.heap.size, 0, none⟩ = some (.string ⟨#[97]⟩) :=
            (World.rowIs_alloc (wr.drewN nq) #[.string ⟨#[97]⟩, .string ⟨#[98]⟩] 9 (fun j => if j = 0 then .string ⟨#[97]⟩ else .string ⟨#[98]⟩) (fun j hj => by
              match j, hj with
              | 0, _ => rfl
              | 1, _ => rfl)).cell (i := 0) (by decide)
          have hx1 : ((wr.drewN nq).alloc (.cells #[.string ⟨#[97]⟩, .string ⟨#[98]⟩] 9)).cell? ⟨bOf a, oOf a + i, none⟩ = some (.int .i64 x) := (hb1.cell (p := ⟨bOf a, oOf a + i, none⟩) (World.block_lt_of_cell? wr _ hx)).trans hx
          have HB1 := Lib.hid hb1
          clear hb1 hx t20 tln hus
          go_wp2_with fail
          clear hcn hx1 hxk
          refine (bytes4_any _ i n (by omega) (by omega)).mono ?_
          rintro e w2 ⟨rfl, hb2⟩
          have HPB := Lib.hid (bysL_byte i n)
          have HPL := Lib.hid (bysL_len i n)
          generalize bysL i n = p at *
          obtain ⟨cap', w3b, hcv, -, hrow, hb4, -⟩ := str_bytes w2 p HPB.out
          have hs1 := HB1.out.size
          have hs2 := hb2.size
          have hs4 := hb4.size
          have HB4 : Hid (Below wr.heap.size wr w3b) := (HB1.out.trans (hb2.mono hs1)).trans (hb4.mono (by omega))
          have hbd := HQ.out.av.bd_lt
          have hlu := HQ.out.row.lt
          have hbw := HQ.out.below.size
          have hcl := HQ.out.two.calls
          have hq := HQ.out.two.quota
          have hle := HQ.out.le
          have hlf := HQ.out.two.lf
          have hlg := HQ.out.two.lg
          have hav4 := HQ.out.av.below HB4.out
          have hus := HUS.out
          by_cases hfull : q < u + v + n
          · have HAP := Lib.hid (append_full w.heap.size w3b (w.heap.size + 2) S (fun b => b < w.heap.size ∨ b = w4.heap.size) hav4 (fun b h => by rcases h with h | h; (omega); (omega)) HQ.out.two.lv (by omega) (by omega) sA okN_a _ HF.out (some ⟨w2.heap.size, 0, none⟩) cap' p hrow (.inr (by show w2.heap.size ≠ _; omega))
              (by rw [HPL.out]; omega) (by rw [hus, hq, HPL.out]; omega))
            have HLE := Lib.hid hle
            clear hb2 hrow hb4 hs1 hs2 hs4 hbd hlu hbw hcl hq hlf hlg hav4 hus hle
            go_wp2_with fail
            clear hcv
            refine HAP.out.mono ?_
            rintro e w5 ⟨rfl, hlv, hav, hb5, hk5⟩
            have HK5 : Hid (KeepX (fun b => b < w.heap.size ∨ b = w4.heap.size) wr w5) := (KeepX.of_below HB4.out).trans hk5
            have HB5 : Hid (Below w.heap.size w w5) := (HQ.out.below.trans (HB4.out.mono HQ.out.below.size)).trans hb5
            have HT5 := Lib.hid (HQ.out.two.call hlv)
            have hrow5 := rowIs_keepX HQ.out.row HK5.out (.inr rfl)
            have HR5 := Lib.hid hrow5
            have HA5 := Lib.hid hav
            have hle := HLE.out
            obtain ⟨s1, hs1⟩ : ∃ s1, s1 = u + v := ⟨_, rfl⟩
            obtain ⟨s2, hs2⟩ : ∃ s2, s2 = s1 + n := ⟨_, rfl⟩
            have y1 : IntKind.i64.wrap ((u : Int) + (v : Int)) = (s1 : Int) := by rw [show (u : Int) + (v : Int) = (s1 : Int) by omega]; exact IntWalk.i64_in _ (by omega)
            have y2 : IntKind.i64.wrap ((s1 : Int) + (n : Int)) = (s2 : Int) := by rw [show (s1 : Int) + (n : Int) = (s2 : Int) by omega]; exact IntWalk.i64_in _ (by omega)
            have t5 : (q : Int) < (s2 : Int) := by omega
            have c0 : w5.cell? ⟨w4.heap.size, 0, none⟩ = some (.int .i64 (u : Int)) := hrow5.cell (i := 0) (by omega)
            have c1 : w5.cell? ⟨w4.heap.size, 1, none⟩ = some (.int .i64 (v : Int)) := hrow5.cell (i := 1) (by omega)
            have HU : Hid (∀ Q, Calls Try.prog 24 #[.pointer (some ⟨w.heap.size + 2, 0, none⟩)] (w5.drewN Q) fun e w' => e = .returned (.int .i64 (s1 : Int)) ∧ Below w5.heap.size w5 w') := fun Q => by
              have := used_any w.heap.size (w5.drewN Q) (w.heap.size + 2) _ (hav.drewN Q).at hlv.ok
              rw [HT5.out.rise.2.2, ← hs1] at this
              exact this.mono fun e w' ⟨h1, h2⟩ => ⟨h1, (below_drewN (Below.refl _ w5) Q).trans h2⟩
            have HX : Hid (∀ W, Below w5.heap.size w5 W → W.cell? ⟨w4.heap.size, 0, none⟩ = some (.int .i64 (u : Int)) ∧ W.cell? ⟨w4.heap.size, 1, none⟩ = some (.int .i64 (v : Int))) := fun W hb =>
              ⟨(hb.cell (p := ⟨w4.heap.size, 0, none⟩) (World.block_lt_of_cell? w5 _ c0)).trans c0, (hb.cell (p := ⟨w4.heap.size, 1, none⟩) (World.block_lt_of_cell? w5 _ c1)).trans c1⟩
            clear hlv hav hb5 hk5 hrow5 hs1 hs2 HAP HK5 HB4 hfull hle
            go_upto_region 20 with fail
            clear y2 t5
            go_region_held3 (fun w' => w'.cell? ⟨w4.heap.size, 0, none⟩ = some (.int .i64 (u : Int)) ∧ w'.cell? ⟨w4.heap.size, 1, none⟩ = some (.int .i64 (v : Int)))
              (first | exact HX.out _ ((below_drewN (Below.refl _ _) _).drew) | exact HX.out _ HB9.out | go_keep)
              (first | (go_at_call 24; refine (HU.out _).mono ?_; rintro e w9 ⟨rfl, hb9⟩; have HB9 := Lib.hid hb9; clear hb9))
            all_goals
              have HI2 : Hid (∃ S', QuI w w4.heap.size q (i + 1) S' f g u v w9) := by
                have h2 := HT5.out
                exact ⟨_, ⟨h2.lv, h2.names, h2.mf, h2.mg, h2.ne, h2.quota, by have := h2.calls; omega, h2.lf, h2.lg⟩, HQ.out.le, rowIs_keepX (K := fun _ => True) HR5.out (KeepX.of_below HB9.out) trivial, HA5.out.below HB9.out, HQ.out.ge, HB5.out.trans (HB9.out.mono HB5.out.size)⟩
              clear HT5 HA5 HR5 HB5 HB9 c0 c1 HX HU
              go_wp2_with fail
              go_roundw
              case rel =>
                obtain ⟨S', h⟩ := HI2.out
                exact ⟨i + 1, S', f, g, u, v, by omega, by omega, by go_num, h⟩
              case measure => simp [intOf]; omega
          · have HAP := Lib.hid (append_at w.heap.size w3b (w.heap.size + 2) S (fun b => b < w.heap.size ∨ b = w4.heap.size) hav4 (fun b h => by rcases h with h | h; (omega); (omega)) HQ.out.two.lv (by omega) (by omega) sA okN_a _ HF.out (some ⟨w2.heap.size, 0, none⟩) cap' p hrow (.inr (by show w2.heap.size ≠ _; omega)) HPB.out
              (by rw [HPL.out]; omega) (by rw [hus, hq, HPL.out]; omega))
            have HLE := Lib.hid hle
            clear hb2 hrow hb4 hs1 hs2 hs4 hbd hlu hbw hcl hq hlf hlg hav4 hus hle
            go_wp2_with fail
            clear hcv
            refine HAP.out.mono ?_
            rintro e w5 ⟨rfl, hlv, hav, hb5, hk5⟩
            have HK5 : Hid (KeepX (fun b => b < w.heap.size ∨ b = w4.heap.size) wr w5) := (KeepX.of_below HB4.out).trans hk5
            have HB5 : Hid (Below w.heap.size w w5) := (HQ.out.below.trans (HB4.out.mono HQ.out.below.size)).trans hb5
            have ht5 := HQ.out.two.appA hlv
            rw [HPL.out] at ht5
            have HT5 := Lib.hid ht5
            have hrow5 := rowIs_keepX HQ.out.row HK5.out (.inr rfl)
            have hle := HLE.out
            obtain ⟨s1, hs1⟩ : ∃ s1, s1 = u + v := ⟨_, rfl⟩
            obtain ⟨s2, hs2⟩ : ∃ s2, s2 = s1 + n := ⟨_, rfl⟩
            obtain ⟨s3, hs3⟩ : ∃ s3, s3 = u + n := ⟨_, rfl⟩
            rw [← hs3] at HT5
            have y1 : IntKind.i64.wrap ((u : Int) + (v : Int)) = (s1 : Int) := by rw [show (u : Int) + (v : Int) = (s1 : Int) by omega]; exact IntWalk.i64_in _ (by omega)
            have y2 : IntKind.i64.wrap ((s1 : Int) + (n : Int)) = (s2 : Int) := by rw [show (s1 : Int) + (n : Int) = (s2 : Int) by omega]; exact IntWalk.i64_in _ (by omega)
            have y3 : IntKind.i64.wrap ((u : Int) + (n : Int)) = (s3 : Int) := by rw [show (u : Int) + (n : Int) = (s3 : Int) by omega]; exact IntWalk.i64_in _ (by omega)
            have y4 : IntKind.i64.wrap ((s3 : Int) + (v : Int)) = (s2 : Int) := by rw [show (s3 : Int) + (v : Int) = (s2 : Int) by omega]; exact IntWalk.i64_in _ (by omega)
            have t5 : decide ((q : Int) < (s2 : Int)) = false := by simp; omega
            have t5n : decide (q < s2) = false := by simp; omega
            have c0 : w5.cell? ⟨w4.heap.size, 0, none⟩ = some (.int .i64 (u : Int)) := hrow5.cell (i := 0) (by omega)
            have c1 : w5.cell? ⟨w4.heap.size, 1, none⟩ = some (.int .i64 (v : Int)) := hrow5.cell (i := 1) (by omega)
            have f0 := hrow5.frozen 0
            have hrow6 : (w5.setCell ⟨w4.heap.size, 0, none⟩ (.int .i64 (s3 : Int))).rowIs w4.heap.size 43 2 (fun j => .int .i64 ((if j = 0 then s3 else v : Nat) : Int)) := (hrow5.set 0 (.int .i64 (s3 : Int))).congr fun j hj => by
              match j, hj with
              | 0, _ => rfl
              | 1, _ => rfl
            have HR6 := Lib.hid hrow6
            have HA6 : Hid (DiskAv w.heap.size (w5.setCell ⟨w4.heap.size, 0, none⟩ (.int .i64 (s3 : Int))) (w.heap.size + 2) _ (fun b => b < w.heap.size ∨ b = w4.heap.size)) := hav.setOther w4.heap.size (.inr rfl) 0 (.int .i64 (s3 : Int))
            have HB6 : Hid (Below w.heap.size w (w5.setCell ⟨w4.heap.size, 0, none⟩ (.int .i64 (s3 : Int)))) := HB5.out.setCell (p := ⟨w4.heap.size, 0, none⟩) HQ.out.ge _
            have HOK := Lib.hid hlv.ok
            have HSS : Hid (s3 + v = s2) := by show _ = _; omega
            have HS2 : Hid (s2 ≤ q) := by show _ ≤ _; omega
            clear hlv hav hb5 hk5 hrow5 hrow6 hs1 hs2 hs3 HAP HK5 HB4 hfull hle ht5
            go_upto_region 20 with fail
            generalize hw6 : w5.setCell ⟨w4.heap.size, 0, none⟩ (.int .i64 (s3 : Int)) = w6 at *
            clear hw6 c0 c1 f0 y1 y2 y3 t5 t5n
            have c0 : w6.cell? ⟨w4.heap.size, 0, none⟩ = some (.int .i64 (s3 : Int)) := HR6.out.cell (i := 0) (by omega)
            have c1 : w6.cell? ⟨w4.heap.size, 1, none⟩ = some (.int .i64 (v : Int)) := HR6.out.cell (i := 1) (by omega)
            have HU : Hid (∀ Q, Calls Try.prog 24 #[.pointer (some ⟨w.heap.size + 2, 0, none⟩)] (w6.drewN Q) fun e w' => e = .returned (.int .i64 (s2 : Int)) ∧ Below w6.heap.size w6 w') := fun Q => by
              have := used_any w.heap.size (w6.drewN Q) (w.heap.size + 2) _ (HA6.out.drewN Q).at HOK.out
              rw [HT5.out.rise.2.2, HSS.out] at this
              exact this.mono fun e w' ⟨h1, h2⟩ => ⟨h1, (below_drewN (Below.refl _ w6) Q).trans h2⟩
            have HX : Hid (∀ W, Below w6.heap.size w6 W → W.cell? ⟨w4.heap.size, 0, none⟩ = some (.int .i64 (s3 : Int)) ∧ W.cell? ⟨w4.heap.size, 1, none⟩ = some (.int .i64 (v : Int))) := fun W hb =>
              ⟨(hb.cell (p := ⟨w4.heap.size, 0, none⟩) (World.block_lt_of_cell? w6 _ c0)).trans c0, (hb.cell (p := ⟨w4.heap.size, 1, none⟩) (World.block_lt_of_cell? w6 _ c1)).trans c1⟩
            go_region_held3 (fun w' => w'.cell? ⟨w4.heap.size, 0, none⟩ = some (.int .i64 (s3 : Int)) ∧ w'.cell? ⟨w4.heap.size, 1, none⟩ = some (.int .i64 (v : Int)))
              (first | exact HX.out _ ((below_drewN (Below.refl _ _) _).drew) | exact HX.out _ HB9.out | go_keep)
              (first | (go_at_call 24; refine (HU.out _).mono ?_; rintro e w9 ⟨rfl, hb9⟩; have HB9 := Lib.hid hb9; clear hb9))
            all_goals
              have HI2 : Hid (∃ S', QuI w w4.heap.size q (i + 1) S' f g s3 v w9) := by
                have h2 := HT5.out
                exact ⟨_, ⟨h2.lv, h2.names, h2.mf, h2.mg, h2.ne, h2.quota, by have := h2.calls; omega, h2.lf, h2.lg⟩, by have := HSS.out; have := HS2.out; omega, rowIs_keepX (K := fun _ => True) HR6.out (KeepX.of_below HB9.out) trivial, HA6.out.below HB9.out, HQ.out.ge, HB6.out.trans (HB9.out.mono HB6.out.size)⟩
              clear HT5 HA6 HR6 HB6 HB5 HB9 c0 c1 HX HU
              go_wp2_with fail
              go_roundw
              case rel =>
                obtain ⟨S', h⟩ := HI2.out
                exact ⟨i + 1, S', f, g, s3, v, by omega, by omega, by go_num, h⟩
              case measure => simp [intOf]; omega
      · have HF := Lib.hid HQ.out.two.rise.2.1
        have hus := HQ.out.two.rise.2.2
        have HUS := Lib.hid hus
        rcases hxt with hxt | ⟨hxt, hxt2⟩
        · go_upto_region 9 with fail
          go_quiet (fail)
          have hb1 : Below wr.heap.size wr ((wr.drewN nq).alloc (.cells #[.string ⟨#[97]⟩, .string ⟨#[98]⟩] 9)) := (below_drewN (Below.refl _ _) nq).alloc (Nat.le_refl _) _
          have hcn : ((wr.drewN nq).alloc (.cells #[.string ⟨#[97]⟩, .string ⟨#[98]⟩] 9)).cell? ⟨wr.heap.size, 1, none⟩ = some (.string ⟨#[98]⟩) :=
            (World.rowIs_alloc (wr.drewN nq) #[.string ⟨#[97]⟩, .string ⟨#[98]⟩] 9 (fun j => if j = 0 then .string ⟨#[97]⟩ else .string ⟨#[98]⟩) (fun j hj => by
              match j, hj with
              | 0, _ => rfl
              | 1, _ => rfl)).cell (i := 1) (by decide)
          have hx1 : ((wr.drewN nq).alloc (.cells #[.string ⟨#[97]⟩, .string ⟨#[98]⟩] 9)).cell? ⟨bOf a, oOf a + i, none⟩ = some (.int .i64 x) := (hb1.cell (p := ⟨bOf a, oOf a + i, none⟩) (World.block_lt_of_cell? wr _ hx)).trans hx
          have HB1 := Lib.hid hb1
          have hs1 := hb1.size
          have hlu := HQ.out.row.lt
          have hbw := HQ.out.below.size
          have hcl := HQ.out.two.calls
          have HRM := Lib.hid (remove_at w.heap.size _ (w.heap.size + 2) S (fun b => b < w.heap.size ∨ b = w4.heap.size) (HQ.out.av.below hb1) (fun b h => by rcases h with h | h; (omega); (omega)) HQ.out.two.lv (by omega) (by omega) sBn okN_b _ HF.out)
          clear hb1 hs1 hlu hbw hcl hx t20 tln hus
          go_wp2_with fail
          clear hcn hx1 hxk
          refine HRM.out.mono ?_
          rintro e w5 ⟨rfl, hlv, hav, hb5, hk5⟩
          have HK5 : Hid (KeepX (fun b => b < w.heap.size ∨ b = w4.heap.size) wr w5) := (KeepX.of_below HB1.out).trans hk5
          have HB5 : Hid (Below w.heap.size w w5) := (HQ.out.below.trans (HB1.out.mono HQ.out.below.size)).trans hb5
          have hbw := HB5.out.size
          have hlu := HQ.out.row.lt
          have hcl := HQ.out.two.calls
          have hks := HK5.out.size
          have hnn : (moveS S (S.names.del (kl sBn)) ⟨2, sBn, ⟨#[]⟩, none⟩).names = (twoD f g).del (kl sBn) := by show S.names.del _ = _; rw [HQ.out.two.names]
          have HCR := Lib.hid (create_at w.heap.size w5 (w.heap.size + 2) _ (fun b => b < w.heap.size ∨ b = w4.heap.size) hav (fun b h => by rcases h with h | h; (omega); (omega)) hlv hbw (by show S.calls + 1 < 100000; omega) sBn okN_b (by rw [hnn]; exact fileOf_one_no (by decide) _) (by rw [hnn]; show 1 < 64; omega))
          clear hlv hav hb5 hk5 hbw hlu hcl hks hnn HRM
          go_wp2_with fail
          refine HCR.out.mono ?_
          rintro e w6 ⟨fn, hfn, rfl, hlv, hav, hb6, hk6⟩
          have hrow6 := rowIs_keepX HQ.out.row (HK5.out.trans hk6) (.inr rfl)
          have HT6 := Lib.hid (HQ.out.two.newB _ fn hfn hlv)
          have HB6 : Hid (Below w.heap.size w w6) := HB5.out.trans hb6
          have HA6 := Lib.hid hav
          have HR6 := Lib.hid hrow6
          have c0 := hrow6.cell (i := 1) (by omega)
          have f0 := hrow6.frozen 1
          clear hlv hav hb6 hk6 hfn hrow6 HCR HK5
          have HI2 : Hid (∃ S' u' v', QuI w w4.heap.size q (i + 1) S' f fn u' v' (w6.setCell ⟨w4.heap.size, 1, none⟩ (.int .i64 0))) := by
            have h2 := HT6.out
            have hle := HQ.out.le
            refine ⟨_, _, _, ⟨h2.lv, h2.names, h2.mf, h2.mg, h2.ne, h2.quota, by have := h2.calls; omega, h2.lf, h2.lg⟩, by omega, (HR6.out.set 1 (.int .i64 0)).congr fun j hj => ?_, HA6.out.setOther _ (.inr rfl) _ _, HQ.out.ge, HB6.out.setCell (p := ⟨w4.heap.size, 1, none⟩) HQ.out.ge _⟩
            match j, hj with
            | 0, _ => rfl
            | 1, _ => rfl
          clear HT6 HA6 HR6 HB6 HB5 HB1
          go_wp2_with fail
          go_roundw
          case rel =>
            obtain ⟨S', u', v', h⟩ := HI2.out
            exact ⟨i + 1, S', _, _, u', v', by omega, by omega, by go_num, h⟩
          case measure => simp [intOf]; omega
        · go_upto_region 9 with fail
          go_quiet (fail)
          have hb1 : Below wr.heap.size wr ((wr.drewN nq).alloc (.cells #[.string ⟨#[97]⟩, .string ⟨#[98]⟩] 9)) := (below_drewN (Below.refl _ _) nq).alloc (Nat.le_refl _) _
          have hcn : ((wr.drewN nq).alloc (.cells #[.string ⟨#[97]⟩, .string ⟨#[98]⟩] 9)).cell? ⟨wr.heap.size, 1, none⟩ = some (.string ⟨#[98]⟩) :=
            (World.rowIs_alloc (wr.drewN nq) #[.string ⟨#[97]⟩, .string ⟨#[98]⟩] 9 (fun j => if j = 0 then .string ⟨#[97]⟩ else .string ⟨#[98]⟩) (fun j hj => by
              match j, hj with
              | 0, _ => rfl
              | 1, _ => rfl)).cell (i := 1) (by decide)
          have hx1 : ((wr.drewN nq).alloc (.cells #[.string ⟨#[97]⟩, .string ⟨#[98]⟩] 9)).cell? ⟨bOf a, oOf a + i, none⟩ = some (.int .i64 x) := (hb1.cell (p := ⟨bOf a, oOf a + i, none⟩) (World.block_lt_of_cell? wr _ hx)).trans hx
          have HB1 := Lib.hid hb1
          clear hb1 hx t20 tln hus
          go_wp2_with fail
          clear hcn hx1 hxk
          refine (bytes4_any _ i n (by omega) (by omega)).mono ?_
          rintro e w2 ⟨rfl, hb2⟩
          have HPB := Lib.hid (bysL_byte i n)
          have HPL := Lib.hid (bysL_len i n)
          generalize bysL i n = p at *
          obtain ⟨cap', w3b, hcv, -, hrow, hb4, -⟩ := str_bytes w2 p HPB.out
          have hs1 := HB1.out.size
          have hs2 := hb2.size
          have hs4 := hb4.size
          have HB4 : Hid (Below wr.heap.size wr w3b) := (HB1.out.trans (hb2.mono hs1)).trans (hb4.mono (by omega))
          have hbd := HQ.out.av.bd_lt
          have hlu := HQ.out.row.lt
          have hbw := HQ.out.below.size
          have hcl := HQ.out.two.calls
          have hq := HQ.out.two.quota
          have hle := HQ.out.le
          have hlf := HQ.out.two.lf
          have hlg := HQ.out.two.lg
          have hav4 := HQ.out.av.below HB4.out
          have hus := HUS.out
          by_cases hfull : q < u + v + n
          · have HAP := Lib.hid (append_full w.heap.size w3b (w.heap.size + 2) S (fun b => b < w.heap.size ∨ b = w4.heap.size) hav4 (fun b h => by rcases h with h | h; (omega); (omega)) HQ.out.two.lv (by omega) (by omega) sBn okN_b _ HF.out (some ⟨w2.heap.size, 0, none⟩) cap' p hrow (.inr (by show w2.heap.size ≠ _; omega))
              (by rw [HPL.out]; omega) (by rw [hus, hq, HPL.out]; omega))
            have HLE := Lib.hid hle
            clear hb2 hrow hb4 hs1 hs2 hs4 hbd hlu hbw hcl hq hlf hlg hav4 hus hle
            go_wp2_with fail
            clear hcv
            refine HAP.out.mono ?_
            rintro e w5 ⟨rfl, hlv, hav, hb5, hk5⟩
            have HK5 : Hid (KeepX (fun b => b < w.heap.size ∨ b = w4.heap.size) wr w5) := (KeepX.of_below HB4.out).trans hk5
            have HB5 : Hid (Below w.heap.size w w5) := (HQ.out.below.trans (HB4.out.mono HQ.out.below.size)).trans hb5
            have HT5 := Lib.hid (HQ.out.two.call hlv)
            have hrow5 := rowIs_keepX HQ.out.row HK5.out (.inr rfl)
            have HR5 := Lib.hid hrow5
            have HA5 := Lib.hid hav
            have hle := HLE.out
            obtain ⟨s1, hs1⟩ : ∃ s1, s1 = u + v := ⟨_, rfl⟩
            obtain ⟨s2, hs2⟩ : ∃ s2, s2 = s1 + n := ⟨_, rfl⟩
            have y1 : IntKind.i64.wrap ((u : Int) + (v : Int)) = (s1 : Int) := by rw [show (u : Int) + (v : Int) = (s1 : Int) by omega]; exact IntWalk.i64_in _ (by omega)
            have y2 : IntKind.i64.wrap ((s1 : Int) + (n : Int)) = (s2 : Int) := by rw [show (s1 : Int) + (n : Int) = (s2 : Int) by omega]; exact IntWalk.i64_in _ (by omega)
            have t5 : (q : Int) < (s2 : Int) := by omega
            have c0 : w5.cell? ⟨w4.heap.size, 0, none⟩ = some (.int .i64 (u : Int)) := hrow5.cell (i := 0) (by omega)
            have c1 : w5.cell? ⟨w4.heap.size, 1, none⟩ = some (.int .i64 (v : Int)) := hrow5.cell (i := 1) (by omega)
            have HU : Hid (∀ Q, Calls Try.prog 24 #[.pointer (some ⟨w.heap.size + 2, 0, none⟩)] (w5.drewN Q) fun e w' => e = .returned (.int .i64 (s1 : Int)) ∧ Below w5.heap.size w5 w') := fun Q => by
              have := used_any w.heap.size (w5.drewN Q) (w.heap.size + 2) _ (hav.drewN Q).at hlv.ok
              rw [HT5.out.rise.2.2, ← hs1] at this
              exact this.mono fun e w' ⟨h1, h2⟩ => ⟨h1, (below_drewN (Below.refl _ w5) Q).trans h2⟩
            have HX : Hid (∀ W, Below w5.heap.size w5 W → W.cell? ⟨w4.heap.size, 0, none⟩ = some (.int .i64 (u : Int)) ∧ W.cell? ⟨w4.heap.size, 1, none⟩ = some (.int .i64 (v : Int))) := fun W hb =>
              ⟨(hb.cell (p := ⟨w4.heap.size, 0, none⟩) (World.block_lt_of_cell? w5 _ c0)).trans c0, (hb.cell (p := ⟨w4.heap.size, 1, none⟩) (World.block_lt_of_cell? w5 _ c1)).trans c1⟩
            clear hlv hav hb5 hk5 hrow5 hs1 hs2 HAP HK5 HB4 hfull hle
            go_upto_region 20 with fail
            clear y2 t5
            go_region_held3 (fun w' => w'.cell? ⟨w4.heap.size, 0, none⟩ = some (.int .i64 (u : Int)) ∧ w'.cell? ⟨w4.heap.size, 1, none⟩ = some (.int .i64 (v : Int)))
              (first | exact HX.out _ ((below_drewN (Below.refl _ _) _).drew) | exact HX.out _ HB9.out | go_keep)
              (first | (go_at_call 24; refine (HU.out _).mono ?_; rintro e w9 ⟨rfl, hb9⟩; have HB9 := Lib.hid hb9; clear hb9))
            all_goals
              have HI2 : Hid (∃ S', QuI w w4.heap.size q (i + 1) S' f g u v w9) := by
                have h2 := HT5.out
                exact ⟨_, ⟨h2.lv, h2.names, h2.mf, h2.mg, h2.ne, h2.quota, by have := h2.calls; omega, h2.lf, h2.lg⟩, HQ.out.le, rowIs_keepX (K := fun _ => True) HR5.out (KeepX.of_below HB9.out) trivial, HA5.out.below HB9.out, HQ.out.ge, HB5.out.trans (HB9.out.mono HB5.out.size)⟩
              clear HT5 HA5 HR5 HB5 HB9 c0 c1 HX HU
              go_wp2_with fail
              go_roundw
              case rel =>
                obtain ⟨S', h⟩ := HI2.out
                exact ⟨i + 1, S', f, g, u, v, by omega, by omega, by go_num, h⟩
              case measure => simp [intOf]; omega
          · have HAP := Lib.hid (append_at w.heap.size w3b (w.heap.size + 2) S (fun b => b < w.heap.size ∨ b = w4.heap.size) hav4 (fun b h => by rcases h with h | h; (omega); (omega)) HQ.out.two.lv (by omega) (by omega) sBn okN_b _ HF.out (some ⟨w2.heap.size, 0, none⟩) cap' p hrow (.inr (by show w2.heap.size ≠ _; omega)) HPB.out
              (by rw [HPL.out]; omega) (by rw [hus, hq, HPL.out]; omega))
            have HLE := Lib.hid hle
            clear hb2 hrow hb4 hs1 hs2 hs4 hbd hlu hbw hcl hq hlf hlg hav4 hus hle
            go_wp2_with fail
            clear hcv
            refine HAP.out.mono ?_
            rintro e w5 ⟨rfl, hlv, hav, hb5, hk5⟩
            have HK5 : Hid (KeepX (fun b => b < w.heap.size ∨ b = w4.heap.size) wr w5) := (KeepX.of_below HB4.out).trans hk5
            have HB5 : Hid (Below w.heap.size w w5) := (HQ.out.below.trans (HB4.out.mono HQ.out.below.size)).trans hb5
            have ht5 := HQ.out.two.appB hlv
            rw [HPL.out] at ht5
            have HT5 := Lib.hid ht5
            have hrow5 := rowIs_keepX HQ.out.row HK5.out (.inr rfl)
            have hle := HLE.out
            obtain ⟨s1, hs1⟩ : ∃ s1, s1 = u + v := ⟨_, rfl⟩
            obtain ⟨s2, hs2⟩ : ∃ s2, s2 = s1 + n := ⟨_, rfl⟩
            obtain ⟨s3, hs3⟩ : ∃ s3, s3 = v + n := ⟨_, rfl⟩
            rw [← hs3] at HT5
            have y1 : IntKind.i64.wrap ((u : Int) + (v : Int)) = (s1 : Int) := by rw [show (u : Int) + (v : Int) = (s1 : Int) by omega]; exact IntWalk.i64_in _ (by omega)
            have y2 : IntKind.i64.wrap ((s1 : Int) + (n : Int)) = (s2 : Int) := by rw [show (s1 : Int) + (n : Int) = (s2 : Int) by omega]; exact IntWalk.i64_in _ (by omega)
            have y3 : IntKind.i64.wrap ((v : Int) + (n : Int)) = (s3 : Int) := by rw [show (v : Int) + (n : Int) = (s3 : Int) by omega]; exact IntWalk.i64_in _ (by omega)
            have y4 : IntKind.i64.wrap ((u : Int) + (s3 : Int)) = (s2 : Int) := by rw [show (u : Int) + (s3 : Int) = (s2 : Int) by omega]; exact IntWalk.i64_in _ (by omega)
            have t5 : decide ((q : Int) < (s2 : Int)) = false := by simp; omega
            have t5n : decide (q < s2) = false := by simp; omega
            have c0 : w5.cell? ⟨w4.heap.size, 0, none⟩ = some (.int .i64 (u : Int)) := hrow5.cell (i := 0) (by omega)
            have c1 : w5.cell? ⟨w4.heap.size, 1, none⟩ = some (.int .i64 (v : Int)) := hrow5.cell (i := 1) (by omega)
            have f0 := hrow5.frozen 1
            have hrow6 : (w5.setCell ⟨w4.heap.size, 1, none⟩ (.int .i64 (s3 : Int))).rowIs w4.heap.size 43 2 (fun j => .int .i64 ((if j = 0 then u else s3 : Nat) : Int)) := (hrow5.set 1 (.int .i64 (s3 : Int))).congr fun j hj => by
              match j, hj with
              | 0, _ => rfl
              | 1, _ => rfl
            have HR6 := Lib.hid hrow6
            have HA6 : Hid (DiskAv w.heap.size (w5.setCell ⟨w4.heap.size, 1, none⟩ (.int .i64 (s3 : Int))) (w.heap.size + 2) _ (fun b => b < w.heap.size ∨ b = w4.heap.size)) := hav.setOther w4.heap.size (.inr rfl) 1 (.int .i64 (s3 : Int))
            have HB6 : Hid (Below w.heap.size w (w5.setCell ⟨w4.heap.size, 1, none⟩ (.int .i64 (s3 : Int)))) := HB5.out.setCell (p := ⟨w4.heap.size, 1, none⟩) HQ.out.ge _
            have HOK := Lib.hid hlv.ok
            have HSS : Hid (u + s3 = s2) := by show _ = _; omega
            have HS2 : Hid (s2 ≤ q) := by show _ ≤ _; omega
            clear hlv hav hb5 hk5 hrow5 hrow6 hs1 hs2 hs3 HAP HK5 HB4 hfull hle ht5
            go_upto_region 20 with fail
            generalize hw6 : w5.setCell ⟨w4.heap.size, 1, none⟩ (.int .i64 (s3 : Int)) = w6 at *
            clear hw6 c0 c1 f0 y1 y2 y3 t5 t5n
            have c0 : w6.cell? ⟨w4.heap.size, 0, none⟩ = some (.int .i64 (u : Int)) := HR6.out.cell (i := 0) (by omega)
            have c1 : w6.cell? ⟨w4.heap.size, 1, none⟩ = some (.int .i64 (s3 : Int)) := HR6.out.cell (i := 1) (by omega)
            have HU : Hid (∀ Q, Calls Try.prog 24 #[.pointer (some ⟨w.heap.size + 2, 0, none⟩)] (w6.drewN Q) fun e w' => e = .returned (.int .i64 (s2 : Int)) ∧ Below w6.heap.size w6 w') := fun Q => by
              have := used_any w.heap.size (w6.drewN Q) (w.heap.size + 2) _ (HA6.out.drewN Q).at HOK.out
              rw [HT5.out.rise.2.2, HSS.out] at this
              exact this.mono fun e w' ⟨h1, h2⟩ => ⟨h1, (below_drewN (Below.refl _ w6) Q).trans h2⟩
            have HX : Hid (∀ W, Below w6.heap.size w6 W → W.cell? ⟨w4.heap.size, 0, none⟩ = some (.int .i64 (u : Int)) ∧ W.cell? ⟨w4.heap.size, 1, none⟩ = some (.int .i64 (s3 : Int))) := fun W hb =>
              ⟨(hb.cell (p := ⟨w4.heap.size, 0, none⟩) (World.block_lt_of_cell? w6 _ c0)).trans c0, (hb.cell (p := ⟨w4.heap.size, 1, none⟩) (World.block_lt_of_cell? w6 _ c1)).trans c1⟩
            go_region_held3 (fun w' => w'.cell? ⟨w4.heap.size, 0, none⟩ = some (.int .i64 (u : Int)) ∧ w'.cell? ⟨w4.heap.size, 1, none⟩ = some (.int .i64 (s3 : Int)))
              (first | exact HX.out _ ((below_drewN (Below.refl _ _) _).drew) | exact HX.out _ HB9.out | go_keep)
              (first | (go_at_call 24; refine (HU.out _).mono ?_; rintro e w9 ⟨rfl, hb9⟩; have HB9 := Lib.hid hb9; clear hb9))
            all_goals
              have HI2 : Hid (∃ S', QuI w w4.heap.size q (i + 1) S' f g u s3 w9) := by
                have h2 := HT5.out
                exact ⟨_, ⟨h2.lv, h2.names, h2.mf, h2.mg, h2.ne, h2.quota, by have := h2.calls; omega, h2.lf, h2.lg⟩, by have := HSS.out; have := HS2.out; omega, rowIs_keepX (K := fun _ => True) HR6.out (KeepX.of_below HB9.out) trivial, HA6.out.below HB9.out, HQ.out.ge, HB6.out.trans (HB9.out.mono HB6.out.size)⟩
              clear HT5 HA6 HR6 HB6 HB5 HB9 c0 c1 HX HU
              go_wp2_with fail
              go_roundw
              case rel =>
                obtain ⟨S', h⟩ := HI2.out
                exact ⟨i + 1, S', f, g, u, s3, by omega, by omega, by go_num, h⟩
              case measure => simp [intOf]; omega
    · by_cases h40 : i = 40
      · subst h40
        have HB9 := Lib.hid HQ.out.below
        by_cases hln : 40 < len
        · have t1 : decide ((40 : Int) < 40) = false := by decide
          have t2 : (40 : Int) < (len : Int) := by omega
          clear hlt hi hi40 HQ
          go_wp2_with fail
          refine (awake4_any _).mono ?_
          rintro e w8 ⟨rfl, hb8⟩
          have HB8 : Hid (Below w.heap.size w w8) := HB9.out.trans (hb8.mono HB9.out.size)
          clear hb8
          go_wp2
          go_ret
          exact ⟨rfl, HB8.out⟩
        · obtain rfl : len = 40 := by omega
          clear hlt hi hi40 HQ
          go_wp2_with fail
          refine (awake4_any _).mono ?_
          rintro e w8 ⟨rfl, hb8⟩
          have HB8 : Hid (Below w.heap.size w w8) := HB9.out.trans (hb8.mono HB9.out.size)
          clear hb8
          go_wp2
          go_ret
          exact ⟨rfl, HB8.out⟩
      · obtain rfl : i = len := by omega
        have HB9 := Lib.hid HQ.out.below
        have t1 : decide ((i : Int) < (i : Int)) = false := by simp
        clear hlt hi hi40 HQ h40
        go_wp2_with fail
        refine (awake4_any _).mono ?_
        rintro e w8 ⟨rfl, hb8⟩
        have HB8 : Hid (Below w.heap.size w w8) := HB9.out.trans (hb8.mono HB9.out.size)
        clear hb8
        go_wp2
        go_ret
        exact ⟨rfl, HB8.out⟩
end Go.Proofs.Ytelndbjjkhlacaa
