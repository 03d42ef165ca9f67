/-
  Arms of the switch of BagMaps' round.
-/
import Derived.Test.YtoifmfdaghmleaaBagMapsSw
import Derived.Test.YtoifmfdaghmleaaBagApp
import Derived.Test.YtoifmfdaghmleaaNoPanic
set_option linter.unusedVariables false
namespace Go.Proofs.Ytoifmfdaghmleaa
open Go.RowKit Go.Lib Go.Sort Go.Shelf
set_option maxRecDepth 1000000 in
set_option maxHeartbeats 16000000 in
theorem sw_put_in (w w4 : World) (p : Nat) (v' : Value) (a b : Option Addr) (c d k B : Nat) (L : List MEnt) (kd x vv : Int) (sx : ByteArray) (r : Nat) (mb : Bool) (u0 u1 u2 u6 u10 u11 u12 u13 u14 u15 u16 u17 u18 u19 u20 u21 u22 u23 u24 u25 u26 u27 u28 u29 u30 u31 u32 u33 u34 u35 u36 u37 u38 u39 u40 u41 u42 u43 u44 u45 u46 u47 u48 u49 u50 u51 u52 u53 u54 u55 u56 u57 u58 u59 u60 u61 u62 u63 u64 u65 u66 u67 u69 u70 u71 u72 u73 u74 u75 u76 u77 u78 u79 u80 u81 u82 u83 u84 u85 u86 u87 u88 u89 u90 u91 u92 u93 u94 u95 u96 u97 u98 u99 u100 u101 u102 u103 u104 u105 u106 u107 u108 u109 u110 u111 u112 u113 u114 u115 u116 u117 u118 u119 u120 u121 u122 u123 u124 u125 u126 u127 u128 u129 u130 u131 u132 u133 u134 u135 u136 u137 u138 u139 u140 u141 u142 u143 u144 u145 u146 u147 u148 u149 u150 u151 u152 u153 u154 u155 u156 u157 u158 u159 u160 u161 u162 u163 u164 u165 u166 u167 u168 u169 u170 u171 u172 u173 u174 u175 u176 u177 u178 u179 u180 u181 u182 u183 u184 u185 u186 u187 u188 u189 u190 u191 u192 u193 u194 u195 u196 u197 u198 u199 u200 u201 u202 u203 u204 u205 u206 u207 u208 u209 u210 u211 u212 u213 u214 u215 u216 u217 u218 u219 u220 u221 : Value) (K : Act → World → Prop) (Q : Exit → Act → World → Prop) (hK : SwK w p k B kd x vv sx r mb u0 u1 u2 u6 u10 u11 u12 u13 u14 u15 u16 u17 u18 u19 u20 u21 u22 u23 u24 u25 u26 u27 u28 u29 u30 u31 u32 u33 u34 u35 u36 u37 u38 u39 u40 u41 u42 u43 u44 u45 u46 u47 u48 u49 u50 u51 u52 u53 u54 u55 u56 u57 u58 u59 u60 u61 u62 u63 u64 u65 u66 u67 u69 u70 u71 u72 u73 u74 u75 u76 u77 u78 u79 u80 u81 u82 u83 u84 u85 u86 u87 u88 u89 u90 u91 u92 u93 u94 u95 u96 u97 u98 u99 u100 u101 u102 u103 u104 u105 u106 u107 u108 u109 u110 u111 u112 u113 u114 u115 u116 u117 u118 u119 u120 u121 u122 u123 u124 u125 u126 u127 u128 u129 u130 u131 u132 u133 u134 u135 u136 u137 u138 u139 u140 u141 u142 u143 u144 u145 u146 u147 u148 u149 u150 u151 u152 u153 u154 u155 u156 u157 u158 u159 u160 u161 u162 u163 u164 u165 u166 u167 u168 u169 u170 u171 u172 u173 u174 u175 u176 u177 u178 u179 u180 u181 u182 u183 u184 u185 u186 u187 u188 u189 u190 u191 u192 u193 u194 u195 u196 u197 u198 u199 u200 u201 u202 u203 u204 u205 u206 u207 u208 u209 u210 u211 u212 u213 u214 u215 u216 u217 u218 u219 u220 u221 K) (hk6 : k < 60)
    (HS4 : Hid (MSt w w4 p v' (.slice a L.length c) (.slice b L.length d) L)) (HB4 : Hid (Blk w4 B kd x vv sx)) (HNB : Hid (¬ SetB p v' B)) (HNA : Hid (∀ g, (Value.slice b L.length d).ownBlock = some g → g ≠ B)) (HLK : Hid (L.length ≤ k)) (HMB : Hid (memB (ksG L) sx = mb)) (HRQ : Hid (rk ltT (ksG L) sx = r))
    (hm : sx ∈ ksG L) (hk0 : kd = 0) :
    Code.wp Try.prog swCode (Exit.then K Q) { tmps := #[u0, u1, u2, .pointer (some ⟨p, 0, none⟩), .slice a L.length c, .slice b L.length d, u6, .pointer (some ⟨B, 0, none⟩), .int .i64 (r : Int), .bool mb, u10, u11, u12, u13, u14, u15, u16, u17, u18, u19, u20, u21, u22, u23, u24, u25, u26, u27, u28, u29, u30, u31, u32, u33, u34, u35, u36, u37, u38, u39, u40, u41, u42, u43, u44, u45, u46, u47, u48, u49, u50, u51, u52, u53, u54, u55, u56, u57, u58, u59, u60, u61, u62, u63, u64, u65, u66, u67, .int .i64 kd, u69, u70, u71, u72, u73, u74, u75, u76, u77, u78, u79, u80, u81, u82, u83, u84, u85, u86, u87, u88, u89, u90, u91, u92, u93, u94, u95, u96, u97, u98, u99, u100, u101, u102, u103, u104, u105, u106, u107, u108, u109, u110, u111, u112, u113, u114, u115, u116, u117, u118, u119, u120, u121, u122, u123, u124, u125, u126, u127, u128, u129, u130, u131, u132, u133, u134, u135, u136, u137, u138, u139, u140, u141, u142, u143, u144, u145, u146, u147, u148, u149, u150, u151, u152, u153, u154, u155, u156, u157, u158, u159, u160, u161, u162, u163, u164, u165, u166, u167, u168, u169, u170, u171, u172, u173, u174, u175, u176, u177, u178, u179, u180, u181, u182, u183, u184, u185, u186, u187, u188, u189, u190, u191, u192, u193, u194, u195, u196, u197, u198, u199, u200, u201, u202, u203, u204, u205, u206, u207, u208, u209, u210, u211, u212, u213, u214, u215, u216, u217, u218, u219, u220, u221], defers := [] } w4 := by
  conv => arg 2; whnf
  have HKK := Lib.hid hK
  have HKL := Lib.hid (ksG_len L)
  have HVL := Lib.hid (vsG_len L)
  have HRI := Lib.hid HS4.out.rise
  have HRL : Hid (r ≤ L.length) := by have := rk_le (lt := ltT) (ksG L) sx; rw [ksG_len, HRQ.out] at this; exact this
  have HLN := Lib.hid (putE_len (lt := ltT) L sx vv)
  have HLD := Lib.hid (delE_len (lt := ltT) L sx)
  have e0 := HB4.out.k
  have e2 := HB4.out.v
  have e3 := HB4.out.s
  clear hK
  obtain rfl : mb = true := by rw [← HMB.out]; exact memB_true hm
  obtain ⟨hr1, -⟩ := rk_in ordT HRI.out hm
  rw [HRQ.out] at hr1
  have t0 : (kd == 0) = true := by simpa using hk0
  obtain ⟨hpk, hpv, hpl⟩ := putE_in ordT vv HRI.out hm
  have hpt := putMS w4 p v' (ents vI L) HS4.out.map (by rw [ents_len]; have := HLK.out; omega) sx vv
  rw [show mput ltT (ents vI L) sx (.int .i64 vv) = ents vI (putE ltT L sx vv) from mput_ents ltT vI L sx vv, ents_ks, memB_true hm] at hpt
  rw [HRQ.out] at hpv
  obtain ⟨g, hg⟩ : ∃ g, b = some ⟨g, 0, none⟩ := by
    rcases owns_cases HS4.out.rv with ⟨_, e⟩ | ⟨g, cap, e, _⟩
    · omega
    · injection e with e; exact ⟨g, e⟩
  subst hg
  have HPT := Lib.hid hpt
  have HPK := Lib.hid hpk
  have HPV := Lib.hid hpv
  have HPL := Lib.hid hpl
  have HR1 := Lib.hid hr1
  have hix := run_ix (P := Try.prog) 31 (by kernel_rfl) size_int (some ⟨g, 0, none⟩) L.length d (.inr rfl) .i64
  have hxr : ∀ W, (Instr.indexAt 31 (.slice (some ⟨g, 0, none⟩) L.length d) (.int .i64 (r : Int))).run Try.prog W = .ok (.pointer (some ⟨g, r, none⟩)) W := fun W => by
    have := hix W r hr1
    simpa [bOf, oOf] using this
  clear hm hk0 hpt hpk hpv hpl hr1 hix
  go_wp2_with fail
  refine HPT.out.mono ?_
  rintro e w5 ⟨v5, rfl, hm5, hst5, hvo5⟩
  have hT := HS4.out.turned hm5 hst5 hvo5
  have hB5 := HB4.out.step hst5 HNB.out
  obtain ⟨c5, f5, hM6⟩ := hT.put rfl HPK.out HPV.out HR1.out
  have hBg : B ≠ g := fun e => HNA.out g rfl e.symm
  have HB6 : Hid (Blk (w5.setCell ⟨g, r, none⟩ (.int .i64 vv)) B kd x vv sx) := hB5.step (StepX.setCell (X := fun b => b = g) w5 ⟨g, r, none⟩ _ rfl) (fun h => hBg h)
  have HM6 := Lib.hid hM6
  have e25 := hB5.v
  clear hm5 hst5 hvo5 hT hB5 hM6 hBg HPT e0 e2 e3
  generalize (vsG L).getD r 0 = old at *
  go_wp2
  rw [← HPL.out]
  refine HKK.out (v5) (a) (some ⟨g, 0, none⟩) (c) (d) (putE ltT L sx vv) _ _ _ _ _ _ _ _ _ _ _ _ _ _ _ _ _ _ _ _ _ _ _ _ _ _ _ _ _ _ _ _ _ _ _ _ _ _ _ _ _ _ _ _ _ _ _ _ _ _ _ _ _ _ _ _ _ _ _ _ _ _ _ _ _ _ _ _ _ _ _ _ _ _ _ _ _ _ _ _ _ _ _ _ _ _ _ _ _ _ _ _ _ _ _ _ _ _ _ _ _ _ _ ?_ ?_ ?_
  · have := HLN.out; have := HLK.out; omega
  · rw [HPL.out]; exact HM6.out
  · exact HB6.out
set_option maxRecDepth 1000000 in
set_option maxHeartbeats 16000000 in
theorem sw_get_in (w w4 : World) (p : Nat) (v' : Value) (a b : Option Addr) (c d k B : Nat) (L : List MEnt) (kd x vv : Int) (sx : ByteArray) (r : Nat) (mb : Bool) (u0 u1 u2 u6 u10 u11 u12 u13 u14 u15 u16 u17 u18 u19 u20 u21 u22 u23 u24 u25 u26 u27 u28 u29 u30 u31 u32 u33 u34 u35 u36 u37 u38 u39 u40 u41 u42 u43 u44 u45 u46 u47 u48 u49 u50 u51 u52 u53 u54 u55 u56 u57 u58 u59 u60 u61 u62 u63 u64 u65 u66 u67 u69 u70 u71 u72 u73 u74 u75 u76 u77 u78 u79 u80 u81 u82 u83 u84 u85 u86 u87 u88 u89 u90 u91 u92 u93 u94 u95 u96 u97 u98 u99 u100 u101 u102 u103 u104 u105 u106 u107 u108 u109 u110 u111 u112 u113 u114 u115 u116 u117 u118 u119 u120 u121 u122 u123 u124 u125 u126 u127 u128 u129 u130 u131 u132 u133 u134 u135 u136 u137 u138 u139 u140 u141 u142 u143 u144 u145 u146 u147 u148 u149 u150 u151 u152 u153 u154 u155 u156 u157 u158 u159 u160 u161 u162 u163 u164 u165 u166 u167 u168 u169 u170 u171 u172 u173 u174 u175 u176 u177 u178 u179 u180 u181 u182 u183 u184 u185 u186 u187 u188 u189 u190 u191 u192 u193 u194 u195 u196 u197 u198 u199 u200 u201 u202 u203 u204 u205 u206 u207 u208 u209 u210 u211 u212 u213 u214 u215 u216 u217 u218 u219 u220 u221 : Value) (K : Act → World → Prop) (Q : Exit → Act → World → Prop) (hK : SwK w p k B kd x vv sx r mb u0 u1 u2 u6 u10 u11 u12 u13 u14 u15 u16 u17 u18 u19 u20 u21 u22 u23 u24 u25 u26 u27 u28 u29 u30 u31 u32 u33 u34 u35 u36 u37 u38 u39 u40 u41 u42 u43 u44 u45 u46 u47 u48 u49 u50 u51 u52 u53 u54 u55 u56 u57 u58 u59 u60 u61 u62 u63 u64 u65 u66 u67 u69 u70 u71 u72 u73 u74 u75 u76 u77 u78 u79 u80 u81 u82 u83 u84 u85 u86 u87 u88 u89 u90 u91 u92 u93 u94 u95 u96 u97 u98 u99 u100 u101 u102 u103 u104 u105 u106 u107 u108 u109 u110 u111 u112 u113 u114 u115 u116 u117 u118 u119 u120 u121 u122 u123 u124 u125 u126 u127 u128 u129 u130 u131 u132 u133 u134 u135 u136 u137 u138 u139 u140 u141 u142 u143 u144 u145 u146 u147 u148 u149 u150 u151 u152 u153 u154 u155 u156 u157 u158 u159 u160 u161 u162 u163 u164 u165 u166 u167 u168 u169 u170 u171 u172 u173 u174 u175 u176 u177 u178 u179 u180 u181 u182 u183 u184 u185 u186 u187 u188 u189 u190 u191 u192 u193 u194 u195 u196 u197 u198 u199 u200 u201 u202 u203 u204 u205 u206 u207 u208 u209 u210 u211 u212 u213 u214 u215 u216 u217 u218 u219 u220 u221 K) (hk6 : k < 60)
    (HS4 : Hid (MSt w w4 p v' (.slice a L.length c) (.slice b L.length d) L)) (HB4 : Hid (Blk w4 B kd x vv sx)) (HNB : Hid (¬ SetB p v' B)) (HNA : Hid (∀ g, (Value.slice b L.length d).ownBlock = some g → g ≠ B)) (HLK : Hid (L.length ≤ k)) (HMB : Hid (memB (ksG L) sx = mb)) (HRQ : Hid (rk ltT (ksG L) sx = r))
    (hm : sx ∈ ksG L) (hk0 : ¬ kd = 0) (hk1 : ¬ kd = 1) :
    Code.wp Try.prog swCode (Exit.then K Q) { tmps := #[u0, u1, u2, .pointer (some ⟨p, 0, none⟩), .slice a L.length c, .slice b L.length d, u6, .pointer (some ⟨B, 0, none⟩), .int .i64 (r : Int), .bool mb, u10, u11, u12, u13, u14, u15, u16, u17, u18, u19, u20, u21, u22, u23, u24, u25, u26, u27, u28, u29, u30, u31, u32, u33, u34, u35, u36, u37, u38, u39, u40, u41, u42, u43, u44, u45, u46, u47, u48, u49, u50, u51, u52, u53, u54, u55, u56, u57, u58, u59, u60, u61, u62, u63, u64, u65, u66, u67, .int .i64 kd, u69, u70, u71, u72, u73, u74, u75, u76, u77, u78, u79, u80, u81, u82, u83, u84, u85, u86, u87, u88, u89, u90, u91, u92, u93, u94, u95, u96, u97, u98, u99, u100, u101, u102, u103, u104, u105, u106, u107, u108, u109, u110, u111, u112, u113, u114, u115, u116, u117, u118, u119, u120, u121, u122, u123, u124, u125, u126, u127, u128, u129, u130, u131, u132, u133, u134, u135, u136, u137, u138, u139, u140, u141, u142, u143, u144, u145, u146, u147, u148, u149, u150, u151, u152, u153, u154, u155, u156, u157, u158, u159, u160, u161, u162, u163, u164, u165, u166, u167, u168, u169, u170, u171, u172, u173, u174, u175, u176, u177, u178, u179, u180, u181, u182, u183, u184, u185, u186, u187, u188, u189, u190, u191, u192, u193, u194, u195, u196, u197, u198, u199, u200, u201, u202, u203, u204, u205, u206, u207, u208, u209, u210, u211, u212, u213, u214, u215, u216, u217, u218, u219, u220, u221], defers := [] } w4 := by
  conv => arg 2; whnf
  have HKK := Lib.hid hK
  have HKL := Lib.hid (ksG_len L)
  have HVL := Lib.hid (vsG_len L)
  have HRI := Lib.hid HS4.out.rise
  have HRL : Hid (r ≤ L.length) := by have := rk_le (lt := ltT) (ksG L) sx; rw [ksG_len, HRQ.out] at this; exact this
  have HLN := Lib.hid (putE_len (lt := ltT) L sx vv)
  have HLD := Lib.hid (delE_len (lt := ltT) L sx)
  have e0 := HB4.out.k
  have e2 := HB4.out.v
  have e3 := HB4.out.s
  clear hK
  obtain rfl : mb = true := by rw [← HMB.out]; exact memB_true hm
  obtain ⟨hr1, -⟩ := rk_in ordT HRI.out hm
  rw [HRQ.out] at hr1
  have t0 : (kd == 0) = false := by simpa using hk0
  have t1 : (kd == 1) = false := by simpa using hk1
  have hgt := getMS w4 p v' (ents vI L) HS4.out.map (by rw [ents_len]; have := HLK.out; omega) sx
  have hrr : rk ltT (ksG L) sx < L.length := by rw [HRQ.out]; exact hr1
  rw [mget_in ltT vI 0 (.int .i64 0) L sx hm hrr, ents_ks, memB_true hm, HRQ.out] at hgt
  have hsv := srow_mapK (0 : Int) HS4.out.rv HVL.out.symm
  have hix := run_ix (P := Try.prog) 31 (by kernel_rfl) size_int b L.length d hsv.row.at_ .i64
  have hxr := fun W => hix W r hr1
  have HDD := Lib.hid (fun W (hW : Below w4.heap.size w4 W) => (hsv.row.kept hW).cell r hr1)
  have HGT := Lib.hid hgt
  clear hm hk0 hk1 hgt hrr hsv hix hr1
  generalize (vsG L).getD r 0 = y at *
  go_wp2_with fail
  refine HGT.out.mono ?_
  rintro e w5 ⟨rfl, hb5⟩
  have dd := HDD.out w5 hb5
  have HM6 := Lib.hid (HS4.out.kept hb5)
  have HB6 := Lib.hid (HB4.out.kept hb5)
  have hne : (y != y) = false := by simp
  clear hb5 HGT HDD e0 e2 e3
  go_wp2
  refine HKK.out (v') (a) (b) (c) (d) (L) _ _ _ _ _ _ _ _ _ _ _ _ _ _ _ _ _ _ _ _ _ _ _ _ _ _ _ _ _ _ _ _ _ _ _ _ _ _ _ _ _ _ _ _ _ _ _ _ _ _ _ _ _ _ _ _ _ _ _ _ _ _ _ _ _ _ _ _ _ _ _ _ _ _ _ _ _ _ _ _ _ _ _ _ _ _ _ _ _ _ _ _ _ _ _ _ _ _ _ _ _ _ _ ?_ ?_ ?_
  · have := HLK.out; omega
  · exact HM6.out
  · exact HB6.out
set_option maxRecDepth 1000000 in
set_option maxHeartbeats 16000000 in
theorem sw_drop_out (w w4 : World) (p : Nat) (v' : Value) (a b : Option Addr) (c d k B : Nat) (L : List MEnt) (kd x vv : Int) (sx : ByteArray) (r : Nat) (mb : Bool) (u0 u1 u2 u6 u10 u11 u12 u13 u14 u15 u16 u17 u18 u19 u20 u21 u22 u23 u24 u25 u26 u27 u28 u29 u30 u31 u32 u33 u34 u35 u36 u37 u38 u39 u40 u41 u42 u43 u44 u45 u46 u47 u48 u49 u50 u51 u52 u53 u54 u55 u56 u57 u58 u59 u60 u61 u62 u63 u64 u65 u66 u67 u69 u70 u71 u72 u73 u74 u75 u76 u77 u78 u79 u80 u81 u82 u83 u84 u85 u86 u87 u88 u89 u90 u91 u92 u93 u94 u95 u96 u97 u98 u99 u100 u101 u102 u103 u104 u105 u106 u107 u108 u109 u110 u111 u112 u113 u114 u115 u116 u117 u118 u119 u120 u121 u122 u123 u124 u125 u126 u127 u128 u129 u130 u131 u132 u133 u134 u135 u136 u137 u138 u139 u140 u141 u142 u143 u144 u145 u146 u147 u148 u149 u150 u151 u152 u153 u154 u155 u156 u157 u158 u159 u160 u161 u162 u163 u164 u165 u166 u167 u168 u169 u170 u171 u172 u173 u174 u175 u176 u177 u178 u179 u180 u181 u182 u183 u184 u185 u186 u187 u188 u189 u190 u191 u192 u193 u194 u195 u196 u197 u198 u199 u200 u201 u202 u203 u204 u205 u206 u207 u208 u209 u210 u211 u212 u213 u214 u215 u216 u217 u218 u219 u220 u221 : Value) (K : Act → World → Prop) (Q : Exit → Act → World → Prop) (hK : SwK w p k B kd x vv sx r mb u0 u1 u2 u6 u10 u11 u12 u13 u14 u15 u16 u17 u18 u19 u20 u21 u22 u23 u24 u25 u26 u27 u28 u29 u30 u31 u32 u33 u34 u35 u36 u37 u38 u39 u40 u41 u42 u43 u44 u45 u46 u47 u48 u49 u50 u51 u52 u53 u54 u55 u56 u57 u58 u59 u60 u61 u62 u63 u64 u65 u66 u67 u69 u70 u71 u72 u73 u74 u75 u76 u77 u78 u79 u80 u81 u82 u83 u84 u85 u86 u87 u88 u89 u90 u91 u92 u93 u94 u95 u96 u97 u98 u99 u100 u101 u102 u103 u104 u105 u106 u107 u108 u109 u110 u111 u112 u113 u114 u115 u116 u117 u118 u119 u120 u121 u122 u123 u124 u125 u126 u127 u128 u129 u130 u131 u132 u133 u134 u135 u136 u137 u138 u139 u140 u141 u142 u143 u144 u145 u146 u147 u148 u149 u150 u151 u152 u153 u154 u155 u156 u157 u158 u159 u160 u161 u162 u163 u164 u165 u166 u167 u168 u169 u170 u171 u172 u173 u174 u175 u176 u177 u178 u179 u180 u181 u182 u183 u184 u185 u186 u187 u188 u189 u190 u191 u192 u193 u194 u195 u196 u197 u198 u199 u200 u201 u202 u203 u204 u205 u206 u207 u208 u209 u210 u211 u212 u213 u214 u215 u216 u217 u218 u219 u220 u221 K) (hk6 : k < 60)
    (HS4 : Hid (MSt w w4 p v' (.slice a L.length c) (.slice b L.length d) L)) (HB4 : Hid (Blk w4 B kd x vv sx)) (HNB : Hid (¬ SetB p v' B)) (HNA : Hid (∀ g, (Value.slice b L.length d).ownBlock = some g → g ≠ B)) (HLK : Hid (L.length ≤ k)) (HMB : Hid (memB (ksG L) sx = mb)) (HRQ : Hid (rk ltT (ksG L) sx = r))
    (hm : sx ∉ ksG L) (hk0 : ¬ kd = 0) (hk1 : kd = 1) :
    Code.wp Try.prog swCode (Exit.then K Q) { tmps := #[u0, u1, u2, .pointer (some ⟨p, 0, none⟩), .slice a L.length c, .slice b L.length d, u6, .pointer (some ⟨B, 0, none⟩), .int .i64 (r : Int), .bool mb, u10, u11, u12, u13, u14, u15, u16, u17, u18, u19, u20, u21, u22, u23, u24, u25, u26, u27, u28, u29, u30, u31, u32, u33, u34, u35, u36, u37, u38, u39, u40, u41, u42, u43, u44, u45, u46, u47, u48, u49, u50, u51, u52, u53, u54, u55, u56, u57, u58, u59, u60, u61, u62, u63, u64, u65, u66, u67, .int .i64 kd, u69, u70, u71, u72, u73, u74, u75, u76, u77, u78, u79, u80, u81, u82, u83, u84, u85, u86, u87, u88, u89, u90, u91, u92, u93, u94, u95, u96, u97, u98, u99, u100, u101, u102, u103, u104, u105, u106, u107, u108, u109, u110, u111, u112, u113, u114, u115, u116, u117, u118, u119, u120, u121, u122, u123, u124, u125, u126, u127, u128, u129, u130, u131, u132, u133, u134, u135, u136, u137, u138, u139, u140, u141, u142, u143, u144, u145, u146, u147, u148, u149, u150, u151, u152, u153, u154, u155, u156, u157, u158, u159, u160, u161, u162, u163, u164, u165, u166, u167, u168, u169, u170, u171, u172, u173, u174, u175, u176, u177, u178, u179, u180, u181, u182, u183, u184, u185, u186, u187, u188, u189, u190, u191, u192, u193, u194, u195, u196, u197, u198, u199, u200, u201, u202, u203, u204, u205, u206, u207, u208, u209, u210, u211, u212, u213, u214, u215, u216, u217, u218, u219, u220, u221], defers := [] } w4 := by
  conv => arg 2; whnf
  have HKK := Lib.hid hK
  have HKL := Lib.hid (ksG_len L)
  have HVL := Lib.hid (vsG_len L)
  have HRI := Lib.hid HS4.out.rise
  have HRL : Hid (r ≤ L.length) := by have := rk_le (lt := ltT) (ksG L) sx; rw [ksG_len, HRQ.out] at this; exact this
  have HLN := Lib.hid (putE_len (lt := ltT) L sx vv)
  have HLD := Lib.hid (delE_len (lt := ltT) L sx)
  have e0 := HB4.out.k
  have e2 := HB4.out.v
  have e3 := HB4.out.s
  clear hK
  obtain rfl : mb = false := by rw [← HMB.out]; exact memB_false hm
  have t0 : (kd == 0) = false := by simpa using hk0
  have t1 : (kd == 1) = true := by simpa using hk1
  have hpt := dropMS w4 p v' (ents vI L) HS4.out.map (by rw [ents_len]; have := HLK.out; omega) sx
  rw [mdel_ents, ents_ks, memB_false hm, delE_out hm] at hpt
  have HPT := Lib.hid hpt
  clear hm hk0 hk1 hpt
  go_wp2_with fail
  refine HPT.out.mono ?_
  rintro e w5 ⟨v5, rfl, hm5, hst5, hvo5⟩
  have hT := HS4.out.turned hm5 hst5 hvo5
  have HB6 := Lib.hid (HB4.out.step hst5 HNB.out)
  have HM6 : Hid (MSt w w5 p v5 (.slice a L.length c) (.slice b L.length d) L) := ⟨hT.map, hT.rk, hT.rv, hT.ap, hT.fk, hT.fv, hT.bel, hT.hp⟩
  clear hm5 hst5 hvo5 hT HPT e0 e2 e3
  go_wp2
  refine HKK.out (v5) (a) (b) (c) (d) (L) _ _ _ _ _ _ _ _ _ _ _ _ _ _ _ _ _ _ _ _ _ _ _ _ _ _ _ _ _ _ _ _ _ _ _ _ _ _ _ _ _ _ _ _ _ _ _ _ _ _ _ _ _ _ _ _ _ _ _ _ _ _ _ _ _ _ _ _ _ _ _ _ _ _ _ _ _ _ _ _ _ _ _ _ _ _ _ _ _ _ _ _ _ _ _ _ _ _ _ _ _ _ _ ?_ ?_ ?_
  · have := HLK.out; omega
  · exact HM6.out
  · exact HB6.out
set_option maxRecDepth 1000000 in
set_option maxHeartbeats 16000000 in
theorem sw_get_out (w w4 : World) (p : Nat) (v' : Value) (a b : Option Addr) (c d k B : Nat) (L : List MEnt) (kd x vv : Int) (sx : ByteArray) (r : Nat) (mb : Bool) (u0 u1 u2 u6 u10 u11 u12 u13 u14 u15 u16 u17 u18 u19 u20 u21 u22 u23 u24 u25 u26 u27 u28 u29 u30 u31 u32 u33 u34 u35 u36 u37 u38 u39 u40 u41 u42 u43 u44 u45 u46 u47 u48 u49 u50 u51 u52 u53 u54 u55 u56 u57 u58 u59 u60 u61 u62 u63 u64 u65 u66 u67 u69 u70 u71 u72 u73 u74 u75 u76 u77 u78 u79 u80 u81 u82 u83 u84 u85 u86 u87 u88 u89 u90 u91 u92 u93 u94 u95 u96 u97 u98 u99 u100 u101 u102 u103 u104 u105 u106 u107 u108 u109 u110 u111 u112 u113 u114 u115 u116 u117 u118 u119 u120 u121 u122 u123 u124 u125 u126 u127 u128 u129 u130 u131 u132 u133 u134 u135 u136 u137 u138 u139 u140 u141 u142 u143 u144 u145 u146 u147 u148 u149 u150 u151 u152 u153 u154 u155 u156 u157 u158 u159 u160 u161 u162 u163 u164 u165 u166 u167 u168 u169 u170 u171 u172 u173 u174 u175 u176 u177 u178 u179 u180 u181 u182 u183 u184 u185 u186 u187 u188 u189 u190 u191 u192 u193 u194 u195 u196 u197 u198 u199 u200 u201 u202 u203 u204 u205 u206 u207 u208 u209 u210 u211 u212 u213 u214 u215 u216 u217 u218 u219 u220 u221 : Value) (K : Act → World → Prop) (Q : Exit → Act → World → Prop) (hK : SwK w p k B kd x vv sx r mb u0 u1 u2 u6 u10 u11 u12 u13 u14 u15 u16 u17 u18 u19 u20 u21 u22 u23 u24 u25 u26 u27 u28 u29 u30 u31 u32 u33 u34 u35 u36 u37 u38 u39 u40 u41 u42 u43 u44 u45 u46 u47 u48 u49 u50 u51 u52 u53 u54 u55 u56 u57 u58 u59 u60 u61 u62 u63 u64 u65 u66 u67 u69 u70 u71 u72 u73 u74 u75 u76 u77 u78 u79 u80 u81 u82 u83 u84 u85 u86 u87 u88 u89 u90 u91 u92 u93 u94 u95 u96 u97 u98 u99 u100 u101 u102 u103 u104 u105 u106 u107 u108 u109 u110 u111 u112 u113 u114 u115 u116 u117 u118 u119 u120 u121 u122 u123 u124 u125 u126 u127 u128 u129 u130 u131 u132 u133 u134 u135 u136 u137 u138 u139 u140 u141 u142 u143 u144 u145 u146 u147 u148 u149 u150 u151 u152 u153 u154 u155 u156 u157 u158 u159 u160 u161 u162 u163 u164 u165 u166 u167 u168 u169 u170 u171 u172 u173 u174 u175 u176 u177 u178 u179 u180 u181 u182 u183 u184 u185 u186 u187 u188 u189 u190 u191 u192 u193 u194 u195 u196 u197 u198 u199 u200 u201 u202 u203 u204 u205 u206 u207 u208 u209 u210 u211 u212 u213 u214 u215 u216 u217 u218 u219 u220 u221 K) (hk6 : k < 60)
    (HS4 : Hid (MSt w w4 p v' (.slice a L.length c) (.slice b L.length d) L)) (HB4 : Hid (Blk w4 B kd x vv sx)) (HNB : Hid (¬ SetB p v' B)) (HNA : Hid (∀ g, (Value.slice b L.length d).ownBlock = some g → g ≠ B)) (HLK : Hid (L.length ≤ k)) (HMB : Hid (memB (ksG L) sx = mb)) (HRQ : Hid (rk ltT (ksG L) sx = r))
    (hm : sx ∉ ksG L) (hk0 : ¬ kd = 0) (hk1 : ¬ kd = 1) :
    Code.wp Try.prog swCode (Exit.then K Q) { tmps := #[u0, u1, u2, .pointer (some ⟨p, 0, none⟩), .slice a L.length c, .slice b L.length d, u6, .pointer (some ⟨B, 0, none⟩), .int .i64 (r : Int), .bool mb, u10, u11, u12, u13, u14, u15, u16, u17, u18, u19, u20, u21, u22, u23, u24, u25, u26, u27, u28, u29, u30, u31, u32, u33, u34, u35, u36, u37, u38, u39, u40, u41, u42, u43, u44, u45, u46, u47, u48, u49, u50, u51, u52, u53, u54, u55, u56, u57, u58, u59, u60, u61, u62, u63, u64, u65, u66, u67, .int .i64 kd, u69, u70, u71, u72, u73, u74, u75, u76, u77, u78, u79, u80, u81, u82, u83, u84, u85, u86, u87, u88, u89, u90, u91, u92, u93, u94, u95, u96, u97, u98, u99, u100, u101, u102, u103, u104, u105, u106, u107, u108, u109, u110, u111, u112, u113, u114, u115, u116, u117, u118, u119, u120, u121, u122, u123, u124, u125, u126, u127, u128, u129, u130, u131, u132, u133, u134, u135, u136, u137, u138, u139, u140, u141, u142, u143, u144, u145, u146, u147, u148, u149, u150, u151, u152, u153, u154, u155, u156, u157, u158, u159, u160, u161, u162, u163, u164, u165, u166, u167, u168, u169, u170, u171, u172, u173, u174, u175, u176, u177, u178, u179, u180, u181, u182, u183, u184, u185, u186, u187, u188, u189, u190, u191, u192, u193, u194, u195, u196, u197, u198, u199, u200, u201, u202, u203, u204, u205, u206, u207, u208, u209, u210, u211, u212, u213, u214, u215, u216, u217, u218, u219, u220, u221], defers := [] } w4 := by
  conv => arg 2; whnf
  have HKK := Lib.hid hK
  have HKL := Lib.hid (ksG_len L)
  have HVL := Lib.hid (vsG_len L)
  have HRI := Lib.hid HS4.out.rise
  have HRL : Hid (r ≤ L.length) := by have := rk_le (lt := ltT) (ksG L) sx; rw [ksG_len, HRQ.out] at this; exact this
  have HLN := Lib.hid (putE_len (lt := ltT) L sx vv)
  have HLD := Lib.hid (delE_len (lt := ltT) L sx)
  have e0 := HB4.out.k
  have e2 := HB4.out.v
  have e3 := HB4.out.s
  clear hK
  obtain rfl : mb = false := by rw [← HMB.out]; exact memB_false hm
  have t0 : (kd == 0) = false := by simpa using hk0
  have t1 : (kd == 1) = false := by simpa using hk1
  have hgt := getMS w4 p v' (ents vI L) HS4.out.map (by rw [ents_len]; have := HLK.out; omega) sx
  rw [mget_out ltT vI (.int .i64 0) L sx hm, ents_ks, memB_false hm] at hgt
  have HGT := Lib.hid hgt
  clear hm hk0 hk1 hgt
  go_wp2_with fail
  refine HGT.out.mono ?_
  rintro e w5 ⟨rfl, hb5⟩
  have HM6 := Lib.hid (HS4.out.kept hb5)
  have HB6 := Lib.hid (HB4.out.kept hb5)
  clear hb5 HGT e0 e2 e3
  go_wp2
  refine HKK.out (v') (a) (b) (c) (d) (L) _ _ _ _ _ _ _ _ _ _ _ _ _ _ _ _ _ _ _ _ _ _ _ _ _ _ _ _ _ _ _ _ _ _ _ _ _ _ _ _ _ _ _ _ _ _ _ _ _ _ _ _ _ _ _ _ _ _ _ _ _ _ _ _ _ _ _ _ _ _ _ _ _ _ _ _ _ _ _ _ _ _ _ _ _ _ _ _ _ _ _ _ _ _ _ _ _ _ _ _ _ _ _ ?_ ?_ ?_
  · have := HLK.out; omega
  · exact HM6.out
  · exact HB6.out
end Go.Proofs.Ytoifmfdaghmleaa
