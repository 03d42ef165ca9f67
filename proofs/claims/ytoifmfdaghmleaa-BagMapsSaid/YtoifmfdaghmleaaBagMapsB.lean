/-
  Arms of the switch of BagMaps' round.
-/
import Derived.Test.YtoifmfdaghmleaaBagMapsSw
import Derived.Test.YtoifmfdaghmleaaBagApp
import Derived.Test.YtoifmfdaghmleaaNoPanic
set_option linter.unusedVariables false
namespace Go.Proofs.Ytoifmfdaghmleaa
open Go.RowKit Go.Lib Go.Sort Go.Shelf
set_option maxRecDepth 1000000 in
set_option maxHeartbeats 16000000 in
theorem sw_drop_in (w w4 : World) (p : Nat) (v' : Value) (a b : Option Addr) (c d k B : Nat) (L : List MEnt) (kd x vv : Int) (sx : ByteArray) (r : Nat) (mb : Bool) (u0 u1 u2 u6 u10 u11 u12 u13 u14 u15 u16 u17 u18 u19 u20 u21 u22 u23 u24 u25 u26 u27 u28 u29 u30 u31 u32 u33 u34 u35 u36 u37 u38 u39 u40 u41 u42 u43 u44 u45 u46 u47 u48 u49 u50 u51 u52 u53 u54 u55 u56 u57 u58 u59 u60 u61 u62 u63 u64 u65 u66 u67 u69 u70 u71 u72 u73 u74 u75 u76 u77 u78 u79 u80 u81 u82 u83 u84 u85 u86 u87 u88 u89 u90 u91 u92 u93 u94 u95 u96 u97 u98 u99 u100 u101 u102 u103 u104 u105 u106 u107 u108 u109 u110 u111 u112 u113 u114 u115 u116 u117 u118 u119 u120 u121 u122 u123 u124 u125 u126 u127 u128 u129 u130 u131 u132 u133 u134 u135 u136 u137 u138 u139 u140 u141 u142 u143 u144 u145 u146 u147 u148 u149 u150 u151 u152 u153 u154 u155 u156 u157 u158 u159 u160 u161 u162 u163 u164 u165 u166 u167 u168 u169 u170 u171 u172 u173 u174 u175 u176 u177 u178 u179 u180 u181 u182 u183 u184 u185 u186 u187 u188 u189 u190 u191 u192 u193 u194 u195 u196 u197 u198 u199 u200 u201 u202 u203 u204 u205 u206 u207 u208 u209 u210 u211 u212 u213 u214 u215 u216 u217 u218 u219 u220 u221 : Value) (K : Act → World → Prop) (Q : Exit → Act → World → Prop) (hK : SwK w p k B kd x vv sx r mb u0 u1 u2 u6 u10 u11 u12 u13 u14 u15 u16 u17 u18 u19 u20 u21 u22 u23 u24 u25 u26 u27 u28 u29 u30 u31 u32 u33 u34 u35 u36 u37 u38 u39 u40 u41 u42 u43 u44 u45 u46 u47 u48 u49 u50 u51 u52 u53 u54 u55 u56 u57 u58 u59 u60 u61 u62 u63 u64 u65 u66 u67 u69 u70 u71 u72 u73 u74 u75 u76 u77 u78 u79 u80 u81 u82 u83 u84 u85 u86 u87 u88 u89 u90 u91 u92 u93 u94 u95 u96 u97 u98 u99 u100 u101 u102 u103 u104 u105 u106 u107 u108 u109 u110 u111 u112 u113 u114 u115 u116 u117 u118 u119 u120 u121 u122 u123 u124 u125 u126 u127 u128 u129 u130 u131 u132 u133 u134 u135 u136 u137 u138 u139 u140 u141 u142 u143 u144 u145 u146 u147 u148 u149 u150 u151 u152 u153 u154 u155 u156 u157 u158 u159 u160 u161 u162 u163 u164 u165 u166 u167 u168 u169 u170 u171 u172 u173 u174 u175 u176 u177 u178 u179 u180 u181 u182 u183 u184 u185 u186 u187 u188 u189 u190 u191 u192 u193 u194 u195 u196 u197 u198 u199 u200 u201 u202 u203 u204 u205 u206 u207 u208 u209 u210 u211 u212 u213 u214 u215 u216 u217 u218 u219 u220 u221 K) (hk6 : k < 60)
    (HS4 : Hid (MSt w w4 p v' (.slice a L.length c) (.slice b L.length d) L)) (HB4 : Hid (Blk w4 B kd x vv sx)) (HNB : Hid (¬ SetB p v' B)) (HNA : Hid (∀ g, (Value.slice b L.length d).ownBlock = some g → g ≠ B)) (HLK : Hid (L.length ≤ k)) (HMB : Hid (memB (ksG L) sx = mb)) (HRQ : Hid (rk ltT (ksG L) sx = r))
    (hm : sx ∈ ksG L) (hk0 : ¬ kd = 0) (hk1 : kd = 1) :
    Code.wp Try.prog swCode (Exit.then K Q) { tmps := #[u0, u1, u2, .pointer (some ⟨p, 0, none⟩), .slice a L.length c, .slice b L.length d, u6, .pointer (some ⟨B, 0, none⟩), .int .i64 (r : Int), .bool mb, u10, u11, u12, u13, u14, u15, u16, u17, u18, u19, u20, u21, u22, u23, u24, u25, u26, u27, u28, u29, u30, u31, u32, u33, u34, u35, u36, u37, u38, u39, u40, u41, u42, u43, u44, u45, u46, u47, u48, u49, u50, u51, u52, u53, u54, u55, u56, u57, u58, u59, u60, u61, u62, u63, u64, u65, u66, u67, .int .i64 kd, u69, u70, u71, u72, u73, u74, u75, u76, u77, u78, u79, u80, u81, u82, u83, u84, u85, u86, u87, u88, u89, u90, u91, u92, u93, u94, u95, u96, u97, u98, u99, u100, u101, u102, u103, u104, u105, u106, u107, u108, u109, u110, u111, u112, u113, u114, u115, u116, u117, u118, u119, u120, u121, u122, u123, u124, u125, u126, u127, u128, u129, u130, u131, u132, u133, u134, u135, u136, u137, u138, u139, u140, u141, u142, u143, u144, u145, u146, u147, u148, u149, u150, u151, u152, u153, u154, u155, u156, u157, u158, u159, u160, u161, u162, u163, u164, u165, u166, u167, u168, u169, u170, u171, u172, u173, u174, u175, u176, u177, u178, u179, u180, u181, u182, u183, u184, u185, u186, u187, u188, u189, u190, u191, u192, u193, u194, u195, u196, u197, u198, u199, u200, u201, u202, u203, u204, u205, u206, u207, u208, u209, u210, u211, u212, u213, u214, u215, u216, u217, u218, u219, u220, u221], defers := [] } w4 := by
  conv => arg 2; whnf
  have HKK := Lib.hid hK
  have HKL := Lib.hid (ksG_len L)
  have HVL := Lib.hid (vsG_len L)
  have HRI := Lib.hid HS4.out.rise
  have HRL : Hid (r ≤ L.length) := by have := rk_le (lt := ltT) (ksG L) sx; rw [ksG_len, HRQ.out] at this; exact this
  have HLN := Lib.hid (putE_len (lt := ltT) L sx vv)
  have HLD := Lib.hid (delE_len (lt := ltT) L sx)
  have e0 := HB4.out.k
  have e2 := HB4.out.v
  have e3 := HB4.out.s
  clear hK
  obtain rfl : mb = true := by rw [← HMB.out]; exact memB_true hm
  obtain ⟨hr1, -⟩ := rk_in ordT HRI.out hm
  rw [HRQ.out] at hr1
  have t0 : (kd == 0) = false := by simpa using hk0
  have t1 : (kd == 1) = true := by simpa using hk1
  obtain ⟨hdk, hdv, hdl⟩ := delE_in (lt := ltT) ordT HRI.out hm
  have hpt := dropMS w4 p v' (ents vI L) HS4.out.map (by rw [ents_len]; have := HLK.out; omega) sx
  rw [mdel_ents, ents_ks, memB_true hm] at hpt
  rw [HRQ.out] at hdk hdv
  have HGK := Lib.hid (getD_delG (⟨#[]⟩ : ByteArray) (ksG L) r Value.string (by rw [HKL.out]; exact hr1))
  have HGV := Lib.hid (getD_delG (0 : Int) (vsG L) r vI (by rw [HVL.out]; exact hr1))
  rw [HKL.out, ← hdk] at HGK
  rw [HVL.out, ← hdv] at HGV
  obtain ⟨L2, hL2⟩ : ∃ L2, L2 = delE ltT L sx := ⟨_, rfl⟩
  rw [← hL2] at hpt hdl HGK HGV HLD
  have HPT := Lib.hid hpt
  have HDN := Lib.hid hdl
  have hL60 : L.length ≤ 60 := by have := HLK.out; omega
  have HR1 := Lib.hid hr1
  clear hm hk0 hk1 hpt hdk hdv hdl hL2
  go_wp2_with fail
  refine HPT.out.mono ?_
  rintro e w5 ⟨v5, rfl, hm5, hst5, hvo5⟩
  have hT := HS4.out.turned hm5 hst5 hvo5
  have HT := Lib.hid hT
  have HB5 := Lib.hid (HB4.out.step hst5 HNB.out)
  have hsr := srow_mapK (⟨#[]⟩ : ByteArray) hT.rk HKL.out.symm
  have HSV := Lib.hid (srow_mapK (0 : Int) hT.rv HVL.out.symm)
  obtain ⟨i0, hi0, hz0, hz1, hz2⟩ := info_parts info_rS
  have hsh := fun W => run_cuth W 32 9 Try.underlying32 (fun w => by kernel_rfl) a L.length c r (by have := hsr.le; omega) hsr.at_
  have hsl := fun W => run_cutl W 32 9 Try.underlying32 (fun w => by kernel_rfl) a L.length c (r + 1) (by omega)
  rw [show ((r + 1 : Nat) : Int) = (r : Int) + 1 by omega] at hsl
  have hwr : IntKind.i64.wrap ((r : Int) + 1) = (r : Int) + 1 := IntWalk.i64_in _ (by omega)
  have HRK := Lib.hid (fun W (hW : Below w5.heap.size w5 W) => (hsr.row.take (show r ≤ L.length by omega)).kept hW)
  have HRD := Lib.hid (fun W (hW : Below w5.heap.size w5 W) => (hsr.cutl (show r + 1 ≤ L.length by omega)).kept hW)
  clear hm5 hst5 hvo5 hT HPT e0 e2 e3 hsr
  go_wp2
  refine wp_noPanic ?_
  go_region_law (first
    | (refine step_append_row rfl _ _ _ rfl w5 9 i0 _ 16 Try.underlying32 hi0 hz0 hz1 hz2 rfl _ 0 [] rfl (by exact ownC _ _) _ r _ (fun j => Value.string ((ksG L).getD j ⟨#[]⟩)) rfl (HRK.out _ (by exact belC _ _)) (fun _ _ => rfl) (by simp only [maxLen]; omega) (by omega) (by exact belC _ _) ?_; rintro v1 w1 ho1 hg1 hb1; rw [Nat.zero_add, List.nil_append] at ho1; obtain ⟨a1, c1, rfl, -⟩ := Row.of_owns ho1; have HO1 := Lib.hid ho1; have HB1 := Lib.hid hb1; clear ho1 hg1 hb1)
    | (refine step_append_row rfl _ _ _ rfl w5 9 i0 _ 16 Try.underlying32 hi0 hz0 hz1 hz2 rfl (.slice a1 r c1) r _ rfl HO1.out _ (L.length - (r + 1)) _ (fun j => Value.string ((ksG L).getD (r + 1 + j) ⟨#[]⟩)) rfl (HRD.out _ HB1.out) (fun _ _ => rfl) (by simp only [maxLen]; omega) (by omega) HB1.out ?_; rintro v3 w3 ho3 hg3 hb3; obtain ⟨a3, c3, rfl, -⟩ := Row.of_owns ho3; have HO3 := Lib.hid ho3; have HB3 := Lib.hid hb3; clear ho3 hg3 hb3))
  all_goals
    refine noPanic_normal ?_
    have hO := HO3.out
    have hlen : r + (L.length - (r + 1)) = L2.length := by have := HDN.out; omega
    rw [HGK.out, hlen] at hO
    have HK6 := Lib.hid hO
    have HB6 := Lib.hid HB3.out
    obtain ⟨w6, hw6⟩ : ∃ w6, w6 = w3 := ⟨_, rfl⟩
    subst hw6
    have hsv := HSV.out.kept HB6.out
    clear hO hsh hsl HRK HRD HO3 HB3 HO1 HB1 hi0 hz0 hz1 hz2
    clear i0
    obtain ⟨i0, hi0, hz0, hz1, hz2⟩ := info_parts info_rI
    have hsh := fun W => run_cuth W 31 3 Try.underlying31 (fun w => by kernel_rfl) b L.length d r (by have := hsv.le; omega) hsv.at_
    have hsl := fun W => run_cutl W 31 3 Try.underlying31 (fun w => by kernel_rfl) b L.length d (r + 1) (by omega)
    rw [show ((r + 1 : Nat) : Int) = (r : Int) + 1 by omega] at hsl
    have HRK := Lib.hid (fun W (hW : Below w6.heap.size w6 W) => (hsv.row.take (show r ≤ L.length by omega)).kept hW)
    have HRD := Lib.hid (fun W (hW : Below w6.heap.size w6 W) => (hsv.cutl (show r + 1 ≤ L.length by omega)).kept hW)
    clear hsv
    go_wp2
    refine wp_noPanic ?_
    go_region_law (first
      | (refine step_append_row rfl _ _ _ rfl w6 3 i0 _ 8 Try.underlying31 hi0 hz0 hz1 hz2 rfl _ 0 [] rfl (by exact ownC _ _) _ r _ (fun j => vI ((vsG L).getD j 0)) rfl (HRK.out _ (by exact belC _ _)) (fun _ _ => rfl) (by simp only [maxLen]; omega) (by omega) (by exact belC _ _) ?_; rintro v1 w1 ho1 hg1 hb1; rw [Nat.zero_add, List.nil_append] at ho1; obtain ⟨a1, c1, rfl, -⟩ := Row.of_owns ho1; have HO1 := Lib.hid ho1; have HB1 := Lib.hid hb1; clear ho1 hg1 hb1)
      | (refine step_append_row rfl _ _ _ rfl w6 3 i0 _ 8 Try.underlying31 hi0 hz0 hz1 hz2 rfl (.slice a1 r c1) r _ rfl HO1.out _ (L.length - (r + 1)) _ (fun j => vI ((vsG L).getD (r + 1 + j) 0)) rfl (HRD.out _ HB1.out) (fun _ _ => rfl) (by simp only [maxLen]; omega) (by omega) HB1.out ?_; rintro v3 w3 ho3 hg3 hb3; obtain ⟨a3, c3, rfl, -⟩ := Row.of_owns ho3; have HO3 := Lib.hid ho3; have HB3 := Lib.hid hb3; clear ho3 hg3 hb3))
    all_goals
      refine noPanic_normal ?_
      have hO := HO3.out
      have hlen : r + (L.length - (r + 1)) = L2.length := by have := HDN.out; omega
      rw [HGV.out, hlen] at hO
      have HM6 := Lib.hid (HT.out.rows HB6.out HK6.out HB3.out hO)
      have HB9 := Lib.hid ((HB5.out.kept HB6.out).kept HB3.out)
      have HLN := Lib.hid hlen
      clear hO hlen hsh hsl HRK HRD
      go_wp2
      refine HKK.out (v5) (_) (_) (_) (_) (L2) _ _ _ _ _ _ _ _ _ _ _ _ _ _ _ _ _ _ _ _ _ _ _ _ _ _ _ _ _ _ _ _ _ _ _ _ _ _ _ _ _ _ _ _ _ _ _ _ _ _ _ _ _ _ _ _ _ _ _ _ _ _ _ _ _ _ _ _ _ _ _ _ _ _ _ _ _ _ _ _ _ _ _ _ _ _ _ _ _ _ _ _ _ _ _ _ _ _ _ _ _ _ _ ?_ ?_ ?_
      · have := HLD.out; have := HLK.out; omega
      · exact HM6.out
      · exact HB9.out
end Go.Proofs.Ytoifmfdaghmleaa
