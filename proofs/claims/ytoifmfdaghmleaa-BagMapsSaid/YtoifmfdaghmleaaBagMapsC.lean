/-
  Arms of the switch of BagMaps' round.
-/
import Derived.Test.YtoifmfdaghmleaaBagMapsSw
import Derived.Test.YtoifmfdaghmleaaBagApp
import Derived.Test.YtoifmfdaghmleaaNoPanic
set_option linter.unusedVariables false
namespace Go.Proofs.Ytoifmfdaghmleaa
open Go.RowKit Go.Lib Go.Sort Go.Shelf
set_option maxRecDepth 1000000 in
set_option maxHeartbeats 16000000 in
theorem sw_put_out (w w4 : World) (p : Nat) (v' : Value) (a b : Option Addr) (c d k B : Nat) (L : List MEnt) (kd x vv : Int) (sx : ByteArray) (r : Nat) (mb : Bool) (u0 u1 u2 u6 u10 u11 u12 u13 u14 u15 u16 u17 u18 u19 u20 u21 u22 u23 u24 u25 u26 u27 u28 u29 u30 u31 u32 u33 u34 u35 u36 u37 u38 u39 u40 u41 u42 u43 u44 u45 u46 u47 u48 u49 u50 u51 u52 u53 u54 u55 u56 u57 u58 u59 u60 u61 u62 u63 u64 u65 u66 u67 u69 u70 u71 u72 u73 u74 u75 u76 u77 u78 u79 u80 u81 u82 u83 u84 u85 u86 u87 u88 u89 u90 u91 u92 u93 u94 u95 u96 u97 u98 u99 u100 u101 u102 u103 u104 u105 u106 u107 u108 u109 u110 u111 u112 u113 u114 u115 u116 u117 u118 u119 u120 u121 u122 u123 u124 u125 u126 u127 u128 u129 u130 u131 u132 u133 u134 u135 u136 u137 u138 u139 u140 u141 u142 u143 u144 u145 u146 u147 u148 u149 u150 u151 u152 u153 u154 u155 u156 u157 u158 u159 u160 u161 u162 u163 u164 u165 u166 u167 u168 u169 u170 u171 u172 u173 u174 u175 u176 u177 u178 u179 u180 u181 u182 u183 u184 u185 u186 u187 u188 u189 u190 u191 u192 u193 u194 u195 u196 u197 u198 u199 u200 u201 u202 u203 u204 u205 u206 u207 u208 u209 u210 u211 u212 u213 u214 u215 u216 u217 u218 u219 u220 u221 : Value) (K : Act → World → Prop) (Q : Exit → Act → World → Prop) (hK : SwK w p k B kd x vv sx r mb u0 u1 u2 u6 u10 u11 u12 u13 u14 u15 u16 u17 u18 u19 u20 u21 u22 u23 u24 u25 u26 u27 u28 u29 u30 u31 u32 u33 u34 u35 u36 u37 u38 u39 u40 u41 u42 u43 u44 u45 u46 u47 u48 u49 u50 u51 u52 u53 u54 u55 u56 u57 u58 u59 u60 u61 u62 u63 u64 u65 u66 u67 u69 u70 u71 u72 u73 u74 u75 u76 u77 u78 u79 u80 u81 u82 u83 u84 u85 u86 u87 u88 u89 u90 u91 u92 u93 u94 u95 u96 u97 u98 u99 u100 u101 u102 u103 u104 u105 u106 u107 u108 u109 u110 u111 u112 u113 u114 u115 u116 u117 u118 u119 u120 u121 u122 u123 u124 u125 u126 u127 u128 u129 u130 u131 u132 u133 u134 u135 u136 u137 u138 u139 u140 u141 u142 u143 u144 u145 u146 u147 u148 u149 u150 u151 u152 u153 u154 u155 u156 u157 u158 u159 u160 u161 u162 u163 u164 u165 u166 u167 u168 u169 u170 u171 u172 u173 u174 u175 u176 u177 u178 u179 u180 u181 u182 u183 u184 u185 u186 u187 u188 u189 u190 u191 u192 u193 u194 u195 u196 u197 u198 u199 u200 u201 u202 u203 u204 u205 u206 u207 u208 u209 u210 u211 u212 u213 u214 u215 u216 u217 u218 u219 u220 u221 K) (hk6 : k < 60)
    (HS4 : Hid (MSt w w4 p v' (.slice a L.length c) (.slice b L.length d) L)) (HB4 : Hid (Blk w4 B kd x vv sx)) (HNB : Hid (¬ SetB p v' B)) (HNA : Hid (∀ g, (Value.slice b L.length d).ownBlock = some g → g ≠ B)) (HLK : Hid (L.length ≤ k)) (HMB : Hid (memB (ksG L) sx = mb)) (HRQ : Hid (rk ltT (ksG L) sx = r))
    (hm : sx ∉ ksG L) (hk0 : kd = 0) :
    Code.wp Try.prog swCode (Exit.then K Q) { tmps := #[u0, u1, u2, .pointer (some ⟨p, 0, none⟩), .slice a L.length c, .slice b L.length d, u6, .pointer (some ⟨B, 0, none⟩), .int .i64 (r : Int), .bool mb, u10, u11, u12, u13, u14, u15, u16, u17, u18, u19, u20, u21, u22, u23, u24, u25, u26, u27, u28, u29, u30, u31, u32, u33, u34, u35, u36, u37, u38, u39, u40, u41, u42, u43, u44, u45, u46, u47, u48, u49, u50, u51, u52, u53, u54, u55, u56, u57, u58, u59, u60, u61, u62, u63, u64, u65, u66, u67, .int .i64 kd, u69, u70, u71, u72, u73, u74, u75, u76, u77, u78, u79, u80, u81, u82, u83, u84, u85, u86, u87, u88, u89, u90, u91, u92, u93, u94, u95, u96, u97, u98, u99, u100, u101, u102, u103, u104, u105, u106, u107, u108, u109, u110, u111, u112, u113, u114, u115, u116, u117, u118, u119, u120, u121, u122, u123, u124, u125, u126, u127, u128, u129, u130, u131, u132, u133, u134, u135, u136, u137, u138, u139, u140, u141, u142, u143, u144, u145, u146, u147, u148, u149, u150, u151, u152, u153, u154, u155, u156, u157, u158, u159, u160, u161, u162, u163, u164, u165, u166, u167, u168, u169, u170, u171, u172, u173, u174, u175, u176, u177, u178, u179, u180, u181, u182, u183, u184, u185, u186, u187, u188, u189, u190, u191, u192, u193, u194, u195, u196, u197, u198, u199, u200, u201, u202, u203, u204, u205, u206, u207, u208, u209, u210, u211, u212, u213, u214, u215, u216, u217, u218, u219, u220, u221], defers := [] } w4 := by
  conv => arg 2; whnf
  have HKK := Lib.hid hK
  have HKL := Lib.hid (ksG_len L)
  have HVL := Lib.hid (vsG_len L)
  have HRI := Lib.hid HS4.out.rise
  have HRL : Hid (r ≤ L.length) := by have := rk_le (lt := ltT) (ksG L) sx; rw [ksG_len, HRQ.out] at this; exact this
  have HLN := Lib.hid (putE_len (lt := ltT) L sx vv)
  have HLD := Lib.hid (delE_len (lt := ltT) L sx)
  have e0 := HB4.out.k
  have e2 := HB4.out.v
  have e3 := HB4.out.s
  clear hK
  obtain rfl : mb = false := by rw [← HMB.out]; exact memB_false hm
  have t0 : (kd == 0) = true := by simpa using hk0
  obtain ⟨hpk, hpv, hpl⟩ := putE_out (lt := ltT) vv hm
  have hpt := putMS w4 p v' (ents vI L) HS4.out.map (by rw [ents_len]; have := HLK.out; omega) sx vv
  rw [show mput ltT (ents vI L) sx (.int .i64 vv) = ents vI (putE ltT L sx vv) from mput_ents ltT vI L sx vv, ents_ks, memB_false hm] at hpt
  rw [HRQ.out] at hpk hpv
  have hrl : r ≤ L.length := HRL.out
  have HGK := Lib.hid (getD_insG (⟨#[]⟩ : ByteArray) (ksG L) r sx Value.string (by rw [HKL.out]; exact hrl))
  have HGV := Lib.hid (getD_insG (0 : Int) (vsG L) r vv vI (by rw [HVL.out]; exact hrl))
  rw [HKL.out, ← hpk] at HGK
  rw [HVL.out, ← hpv] at HGV
  obtain ⟨L2, hL2⟩ : ∃ L2, L2 = putE ltT L sx vv := ⟨_, rfl⟩
  rw [← hL2] at hpt hpl HGK HGV
  have HPT := Lib.hid hpt
  have HPN := Lib.hid hpl
  have hL60 : L.length ≤ 60 := by have := HLK.out; omega
  clear hm hk0 hpt hpk hpv hpl hL2
  go_wp2_with fail
  refine HPT.out.mono ?_
  rintro e w5 ⟨v5, rfl, hm5, hst5, hvo5⟩
  have HT := Lib.hid (HS4.out.turned hm5 hst5 hvo5)
  have HB5 := Lib.hid (HB4.out.step hst5 HNB.out)
  have hsr := srow_mapK (⟨#[]⟩ : ByteArray) HT.out.rk HKL.out.symm
  have HSV := Lib.hid (srow_mapK (0 : Int) HT.out.rv HVL.out.symm)
  obtain ⟨i0, hi0, hz0, hz1, hz2⟩ := info_parts info_rS
  have hsh := fun W => run_cuth W 32 9 Try.underlying32 (fun w => by kernel_rfl) a L.length c r (by have := hsr.le; omega) hsr.at_
  have hsl := fun W => run_cutl W 32 9 Try.underlying32 (fun w => by kernel_rfl) a L.length c r hrl
  have HRK := Lib.hid (fun W (hW : Below w5.heap.size w5 W) => (hsr.row.take hrl).kept hW)
  have HRD := Lib.hid (fun W (hW : Below w5.heap.size w5 W) => (hsr.cutl hrl).kept hW)
  have e35 := HB5.out.s
  have HEF := Lib.hid (fun W (hW : Below w5.heap.size w5 W) => (HB5.out.kept hW).s)
  have e36 := HEF.out _ ((Below.refl _ w5).alloc (Nat.le_refl _) (.cells #[] 9))
  clear hm5 hst5 hvo5 HPT e0 e2 e3 hsr
  go_upto_region 25 with fail
  go_cut [4] from 114 to 126 (fun s4 wx => ∃ (a3 : Option Addr) (c3 : Nat), s4 = .slice a3 L2.length c3 ∧ wx.ownsRow w5.heap.size 9 1 (.slice a3 L2.length c3) L2.length ((ksG L2).map Value.string) ∧ Below w5.heap.size w5 wx)
  case first =>
    go_wp2
    refine wp_noPanic ?_
    go_region_law (first
      | (refine step_append_row rfl _ _ _ rfl w5 9 i0 _ 16 Try.underlying32 hi0 hz0 hz1 hz2 rfl _ 0 [] rfl (by first | exact ownA _ _ _ | exact ownB _ _ _ | exact ownC _ _) _ r _ (fun j => Value.string ((ksG L).getD j ⟨#[]⟩)) rfl (HRK.out _ (by first | exact belA _ _ _ | exact belC _ _)) (fun _ _ => rfl) (by simp only [maxLen]; omega) (by omega) (by first | exact belA _ _ _ | exact belC _ _) ?_; rintro v1 w1 ho1 hg1 hb1; have exx := HEF.out w1 hb1; rw [Nat.zero_add, List.nil_append] at ho1; obtain ⟨a1, c1, rfl, -⟩ := Row.of_owns ho1; (first | (have hrx : Row w1 (some ⟨w5.heap.size, 0, none⟩) 1 (fun _ => (.string sx)) := ((rowA w5 (.string sx) 9).gb hg1 (.inr (show (some w5.heap.size : Option Nat) ≠ (Value.slice (some ⟨w5.heap.size + 1, 0, none⟩) 0 0).ownBlock by simp [Value.ownBlock])))) | (have hrx : Row w1 (some ⟨w5.heap.size + 1, 0, none⟩) 1 (fun _ => (.string sx)) := ((rowB w5 (.string sx) 9).gb hg1 (.inr (show (some (w5.heap.size + 1) : Option Nat) ≠ (Value.slice (some ⟨w5.heap.size, 0, none⟩) 0 0).ownBlock by simp [Value.ownBlock])))) | skip); have HO1 := Lib.hid ho1; have HB1 := Lib.hid hb1; clear ho1 hg1 hb1)
      | (refine step_append_row rfl _ _ _ rfl w5 9 i0 _ 16 Try.underlying32 hi0 hz0 hz1 hz2 rfl (.slice a1 r c1) r _ rfl (by first | exact HO1.out | exact World.ownsRow.alloc HO1.out _) _ 1 _ (fun _ => (.string sx)) rfl (by first | exact hrx | exact row_one_new _ _ _) (fun _ _ => rfl) (by simp only [maxLen]; omega) (by omega) (by first | exact HB1.out | exact HB1.out.alloc HB1.out.size _) ?_; rintro v2 w2 ho2 hg2 hb2; obtain ⟨a2, c2, rfl, -⟩ := Row.of_owns ho2; have HO2 := Lib.hid ho2; have HB2 := Lib.hid hb2; clear ho2 hg2 hb2)
      | (refine step_append_row rfl _ _ _ rfl w5 9 i0 _ 16 Try.underlying32 hi0 hz0 hz1 hz2 rfl (.slice a2 (r + 1) c2) (r + 1) _ rfl HO2.out _ (L.length - r) _ (fun j => Value.string ((ksG L).getD (r + j) ⟨#[]⟩)) rfl (HRD.out _ HB2.out) (fun _ _ => rfl) (by simp only [maxLen]; omega) (by omega) HB2.out ?_; rintro v3 w3 ho3 hg3 hb3; obtain ⟨a3, c3, rfl, -⟩ := Row.of_owns ho3; have HO3 := Lib.hid ho3; have HB3 := Lib.hid hb3; clear ho3 hg3 hb3))
    all_goals
      refine noPanic_normal ?_
      have hO := HO3.out
      have hlen : r + 1 + (L.length - r) = L2.length := by have := HPN.out; omega
      rw [HGK.out, hlen] at hO
      have HOO := Lib.hid hO
      have HLN := Lib.hid hlen
      clear hO hlen
      go_wp2
      go_meet
      exact ⟨_, _, by rw [HLN.out], HOO.out, HB3.out⟩
  case rest =>
    obtain ⟨a3, c3, rfl, hk6, hb6⟩ := hcut
    have HK6 := Lib.hid hk6
    have HB6 := Lib.hid hb6
    obtain ⟨w6, hw6⟩ : ∃ w6, w6 = wc := ⟨_, rfl⟩
    subst hw6
    have hsv := HSV.out.kept HB6.out
    have HBK6 := Lib.hid (HB5.out.kept HB6.out)
    clear hk6 hb6 hsh hsl HRK HRD hi0 hz0 hz1 hz2 e35 e36 HEF
    clear i0
    obtain ⟨i0, hi0, hz0, hz1, hz2⟩ := info_parts info_rI
    have hsh := fun W => run_cuth W 31 3 Try.underlying31 (fun w => by kernel_rfl) b L.length d r (by have := hsv.le; omega) hsv.at_
    have hsl := fun W => run_cutl W 31 3 Try.underlying31 (fun w => by kernel_rfl) b L.length d r hrl
    have HRK := Lib.hid (fun W (hW : Below w6.heap.size w6 W) => (hsv.row.take hrl).kept hW)
    have HRD := Lib.hid (fun W (hW : Below w6.heap.size w6 W) => (hsv.cutl hrl).kept hW)
    have e35 := HBK6.out.v
    have HEF := Lib.hid (fun W (hW : Below w6.heap.size w6 W) => (HBK6.out.kept hW).v)
    have e36 := HEF.out _ ((Below.refl _ w6).alloc (Nat.le_refl _) (.cells #[] 3))
    clear hsv
    go_upto_region 26 with fail
    go_wp2
    refine wp_noPanic ?_
    go_region_law (first
      | (refine step_append_row rfl _ _ _ rfl w6 3 i0 _ 8 Try.underlying31 hi0 hz0 hz1 hz2 rfl _ 0 [] rfl (by first | exact ownA _ _ _ | exact ownB _ _ _ | exact ownC _ _) _ r _ (fun j => vI ((vsG L).getD j 0)) rfl (HRK.out _ (by first | exact belA _ _ _ | exact belC _ _)) (fun _ _ => rfl) (by simp only [maxLen]; omega) (by omega) (by first | exact belA _ _ _ | exact belC _ _) ?_; rintro v1 w1 ho1 hg1 hb1; have exx := HEF.out w1 hb1; rw [Nat.zero_add, List.nil_append] at ho1; obtain ⟨a1, c1, rfl, -⟩ := Row.of_owns ho1; (first | (have hrx : Row w1 (some ⟨w6.heap.size, 0, none⟩) 1 (fun _ => (.int .i64 vv)) := ((rowA w6 (.int .i64 vv) 3).gb hg1 (.inr (show (some w6.heap.size : Option Nat) ≠ (Value.slice (some ⟨w6.heap.size + 1, 0, none⟩) 0 0).ownBlock by simp [Value.ownBlock])))) | (have hrx : Row w1 (some ⟨w6.heap.size + 1, 0, none⟩) 1 (fun _ => (.int .i64 vv)) := ((rowB w6 (.int .i64 vv) 3).gb hg1 (.inr (show (some (w6.heap.size + 1) : Option Nat) ≠ (Value.slice (some ⟨w6.heap.size, 0, none⟩) 0 0).ownBlock by simp [Value.ownBlock])))) | skip); have HO1 := Lib.hid ho1; have HB1 := Lib.hid hb1; clear ho1 hg1 hb1)
      | (refine step_append_row rfl _ _ _ rfl w6 3 i0 _ 8 Try.underlying31 hi0 hz0 hz1 hz2 rfl (.slice a1 r c1) r _ rfl (by first | exact HO1.out | exact World.ownsRow.alloc HO1.out _) _ 1 _ (fun _ => (.int .i64 vv)) rfl (by first | exact hrx | exact row_one_new _ _ _) (fun _ _ => rfl) (by simp only [maxLen]; omega) (by omega) (by first | exact HB1.out | exact HB1.out.alloc HB1.out.size _) ?_; rintro v2 w2 ho2 hg2 hb2; obtain ⟨a2, c2, rfl, -⟩ := Row.of_owns ho2; have HO2 := Lib.hid ho2; have HB2 := Lib.hid hb2; clear ho2 hg2 hb2)
      | (refine step_append_row rfl _ _ _ rfl w6 3 i0 _ 8 Try.underlying31 hi0 hz0 hz1 hz2 rfl (.slice a2 (r + 1) c2) (r + 1) _ rfl HO2.out _ (L.length - r) _ (fun j => vI ((vsG L).getD (r + j) 0)) rfl (HRD.out _ HB2.out) (fun _ _ => rfl) (by simp only [maxLen]; omega) (by omega) HB2.out ?_; rintro v3 w3 ho3 hg3 hb3; obtain ⟨a3, c3, rfl, -⟩ := Row.of_owns ho3; have HO3 := Lib.hid ho3; have HB3 := Lib.hid hb3; clear ho3 hg3 hb3))
    all_goals
      refine noPanic_normal ?_
      have hO := HO3.out
      have hlen : r + 1 + (L.length - r) = L2.length := by have := HPN.out; omega
      rw [HGV.out, hlen] at hO
      have HM6 := Lib.hid (HT.out.rows HB6.out HK6.out HB3.out hO)
      have HB9 := Lib.hid (HBK6.out.kept HB3.out)
      have HLN := Lib.hid hlen
      have HPX : Hid (L2.length ≤ k + 1) := by have := HPN.out; have := HLK.out; show _ ≤ _; omega
      clear hO hlen hsh hsl HRK HRD e35 e36
      go_wp2
      rw [HLN.out]
      refine HKK.out (v5) (_) (_) (_) (_) (L2) _ _ _ _ _ _ _ _ _ _ _ _ _ _ _ _ _ _ _ _ _ _ _ _ _ _ _ _ _ _ _ _ _ _ _ _ _ _ _ _ _ _ _ _ _ _ _ _ _ _ _ _ _ _ _ _ _ _ _ _ _ _ _ _ _ _ _ _ _ _ _ _ _ _ _ _ _ _ _ _ _ _ _ _ _ _ _ _ _ _ _ _ _ _ _ _ _ _ _ _ _ _ _ ?_ ?_ ?_
      · exact HPX.out
      · exact HM6.out
      · exact HB9.out
end Go.Proofs.Ytoifmfdaghmleaa
