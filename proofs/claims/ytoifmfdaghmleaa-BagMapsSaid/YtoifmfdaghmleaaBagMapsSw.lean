/-
  The switch of BagMaps' round, as code of its own.
-/
import Derived.Test.YtoifmfdaghmleaaMapState
import Derived.Test.YtoifmfdaghmleaaBlkOp
import Derived.Test.YtoifmfdaghmleaaSameInts
import Derived.Deep.CutBlock
import Derived.Deep.CutRange
set_option linter.unusedVariables false
namespace Go.Proofs.Ytoifmfdaghmleaa
open Go.RowKit Go.Lib Go.Sort Go.Shelf

theorem srow_mapK {α : Type} {k : α → Value} (z : α) {w : World} {base cap : Nat} {e : TypeId} {a : Option Addr} {n : Nat} {P : List α} (h : w.ownsRow base e 1 (.slice a n cap) n (P.map k)) (hn : n = P.length) : SRow w a n cap (fun j => k (P.getD j z)) := by
  have hr := row_mapK (z := z) h hn
  obtain ⟨a', c', e', hs⟩ := SRow.of_owns h
  injection e' with e1 e2 e3
  subst e1 e3
  exact ⟨hs.at_, hs.le, hr⟩
def blockOf (n : Nat) : Code → Option Code
  | .block i c => if i = n then some (.block i c) else blockOf n c
  | .seq a b => match blockOf n a with
    | some c => some c
    | none => blockOf n b
  | .loop c => blockOf n c
  | .scope c => blockOf n c
  | .cond _ a b => match blockOf n a with
    | some c => some c
    | none => blockOf n b
  | _ => none
noncomputable def swCode : Code := ((Try.f11.body.bind (blockOf 4)).getD .skip)
/-- what the switch leaves -/
def SwK (w : World) (p k B : Nat) (kd x vv : Int) (sx : ByteArray) (r : Nat) (mb : Bool) (u0 u1 u2 u6 u10 u11 u12 u13 u14 u15 u16 u17 u18 u19 u20 u21 u22 u23 u24 u25 u26 u27 u28 u29 u30 u31 u32 u33 u34 u35 u36 u37 u38 u39 u40 u41 u42 u43 u44 u45 u46 u47 u48 u49 u50 u51 u52 u53 u54 u55 u56 u57 u58 u59 u60 u61 u62 u63 u64 u65 u66 u67 u69 u70 u71 u72 u73 u74 u75 u76 u77 u78 u79 u80 u81 u82 u83 u84 u85 u86 u87 u88 u89 u90 u91 u92 u93 u94 u95 u96 u97 u98 u99 u100 u101 u102 u103 u104 u105 u106 u107 u108 u109 u110 u111 u112 u113 u114 u115 u116 u117 u118 u119 u120 u121 u122 u123 u124 u125 u126 u127 u128 u129 u130 u131 u132 u133 u134 u135 u136 u137 u138 u139 u140 u141 u142 u143 u144 u145 u146 u147 u148 u149 u150 u151 u152 u153 u154 u155 u156 u157 u158 u159 u160 u161 u162 u163 u164 u165 u166 u167 u168 u169 u170 u171 u172 u173 u174 u175 u176 u177 u178 u179 u180 u181 u182 u183 u184 u185 u186 u187 u188 u189 u190 u191 u192 u193 u194 u195 u196 u197 u198 u199 u200 u201 u202 u203 u204 u205 u206 u207 u208 u209 u210 u211 u212 u213 u214 u215 u216 u217 u218 u219 u220 u221 : Value) (K : Act → World → Prop) : Prop :=
  ∀ (v2 : Value) (a2 b2 : Option Addr) (c2 d2 : Nat) (L2 : List MEnt) (wx : World) (y10 y11 y69 y70 y71 y72 y73 y74 y75 y76 y77 y78 y79 y80 y81 y82 y83 y84 y85 y86 y87 y88 y89 y90 y91 y92 y93 y94 y95 y96 y97 y98 y99 y100 y101 y102 y103 y104 y105 y106 y107 y108 y109 y110 y111 y112 y113 y114 y115 y116 y117 y118 y119 y120 y121 y122 y123 y124 y125 y126 y127 y128 y129 y130 y131 y132 y133 y134 y135 y136 y137 y138 y139 y140 y141 y142 y143 y144 y145 y146 y147 y148 y149 y150 y151 y152 y153 y154 y155 y156 y157 y158 y159 y160 y161 y162 y163 y164 y165 y166 y167 y168 : Value), L2.length ≤ k + 1 → MSt w wx p v2 (.slice a2 L2.length c2) (.slice b2 L2.length d2) L2 → Blk wx B kd x vv sx → K { tmps := #[u0, u1, u2, .pointer (some ⟨p, 0, none⟩), .slice a2 L2.length c2, .slice b2 L2.length d2, u6, .pointer (some ⟨B, 0, none⟩), .int .i64 (r : Int), .bool mb, y10, y11, u12, u13, u14, u15, u16, u17, u18, u19, u20, u21, u22, u23, u24, u25, u26, u27, u28, u29, u30, u31, u32, u33, u34, u35, u36, u37, u38, u39, u40, u41, u42, u43, u44, u45, u46, u47, u48, u49, u50, u51, u52, u53, u54, u55, u56, u57, u58, u59, u60, u61, u62, u63, u64, u65, u66, u67, .int .i64 kd, y69, y70, y71, y72, y73, y74, y75, y76, y77, y78, y79, y80, y81, y82, y83, y84, y85, y86, y87, y88, y89, y90, y91, y92, y93, y94, y95, y96, y97, y98, y99, y100, y101, y102, y103, y104, y105, y106, y107, y108, y109, y110, y111, y112, y113, y114, y115, y116, y117, y118, y119, y120, y121, y122, y123, y124, y125, y126, y127, y128, y129, y130, y131, y132, y133, y134, y135, y136, y137, y138, y139, y140, y141, y142, y143, y144, y145, y146, y147, y148, y149, y150, y151, y152, y153, y154, y155, y156, y157, y158, y159, y160, y161, y162, y163, y164, y165, y166, y167, y168, u169, u170, u171, u172, u173, u174, u175, u176, u177, u178, u179, u180, u181, u182, u183, u184, u185, u186, u187, u188, u189, u190, u191, u192, u193, u194, u195, u196, u197, u198, u199, u200, u201, u202, u203, u204, u205, u206, u207, u208, u209, u210, u211, u212, u213, u214, u215, u216, u217, u218, u219, u220, u221], defers := [] } wx
end Go.Proofs.Ytoifmfdaghmleaa
