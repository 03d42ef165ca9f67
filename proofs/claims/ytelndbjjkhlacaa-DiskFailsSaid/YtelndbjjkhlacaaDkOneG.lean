/-
  A call that counts, at a disk that dies, or of which a call is to fail.
  Append at a disk that dies, or of which a call is to fail; Stop, Fail.
  Append to the one file of a disk that dies, or of which a call is to fail.
-/
import Derived.Test.YtelndbjjkhlacaaDkAppend
import Derived.Defers
import Derived.StillTailTactics
import Derived.Test.YtelndbjjkhlacaaDkOk
import Derived.Test.YtelndbjjkhlacaaDkOne
namespace Go.Proofs.Ytelndbjjkhlacaa
open Go.RowKit Go.Maps

/-- the disk's call goes as it is said to, whatever it is to do -/
def CallOk (B bd : Nat) (A : Nat → Prop) (S : DSt) : Prop :=
  ∀ (w : World), DiskAv B w bd S A → (∀ b, A b → b < w.heap.size) → B ≤ w.heap.size → ∀ (lb : Array Value) (R : Int → DSt → Prop),
    (∀ W A', (∀ b, A b → A' b) → (∀ b, A' b → b < W.heap.size) → DiskAv B W bd (preS S) A' → Under B bd w W → Calls Try.prog 53 lb W (DPost B A' W bd R)) →
    Calls Try.prog 33 #[.pointer (some ⟨bd, 0, none⟩), .func (.func 53) #[] lb] w (DPost B A w bd (callR S R))
theorem callok_plain (B bd : Nat) (A : Nat → Prop) (S : DSt) (hok : DOk S) (h1 : S.dead = false) (h2 : S.stop ≤ 0) (h3 : S.fail ≤ 0) : CallOk B bd A S := fun w h hAl hB lb R hdo => by
  have hR : callR S R = R := by
    funext z S'
    unfold callR
    rw [early_plain S h1 h3]
    simp only [postS_plain S _ h2]
    exact propext ⟨fun ⟨S2, h, e⟩ => e ▸ h, fun h => ⟨S', h, rfl⟩⟩
  rw [hR]
  refine call_on B w bd S A h hok h1 h2 h3 hB lb R (fun W hd hu => ?_)
  refine hdo W A (fun _ h => h) (fun b hb => by have := hAl b hb; have := hu.keep.size; omega) ?_ hu
  rw [preS_plain S h2 h3]
  exact hd
set_option maxRecDepth 100000 in
set_option maxHeartbeats 1000000 in
theorem callok_dead (B bd : Nat) (A : Nat → Prop) (S : DSt) (hok : DOk S) (h1 : S.dead = true) : CallOk B bd A S := fun w h hAl hB lb R hdo => by
  have HNE := Lib.hid h.ne
  obtain ⟨ρ, vf, vt, bn, bl, V, hd, hA⟩ := h
  have HAV := Lib.hid hA
  clear hA hdo hAl
  have hn := hok.nums
  have HD := Lib.hid hd
  have c1 : w.cell? ⟨bd, 1, none⟩ = some (.int .i64 S.calls) := hd.head.cell (i := 1) (by omega)
  have c5 : w.cell? ⟨bd, 5, none⟩ = some (.bool true) := by rw [← h1]; exact hd.head.cell (i := 5) (by omega)
  have f1 : w.frozen? ⟨bd, 1, none⟩ = false := hd.head.frozen 1
  have hbl := hd.lt
  have y1 : IntKind.i64.wrap (S.calls + 1) = S.calls + 1 := IntWalk.i64_in _ (by omega)
  have H1 := Lib.hid h1
  clear hd hn h1
  go_enter Try.func33, Try.ntmps33
  go_wp2_with fail
  go_ret
  have hda : DiskAv B ((w.setCell ⟨bd, 1, none⟩ (.int .i64 (S.calls + 1))).alloc (.cells #[.pointer (some ⟨bd, 0, none⟩)] 22)) bd { S with calls := S.calls + 1 } A :=
    ⟨ρ, vf, vt, bn, bl, V, (HD.out.setHead 1 (.int .i64 (S.calls + 1)) { S with calls := S.calls + 1 } rfl rfl rfl rfl rfl rfl (ten rfl rfl rfl rfl rfl rfl rfl rfl rfl rfl)).below ((Below.refl _ _).alloc (Nat.le_refl _) _), HAV.out⟩
  have hun : Under B bd w ((w.setCell ⟨bd, 1, none⟩ (.int .i64 (S.calls + 1))).alloc (.cells #[.pointer (some ⟨bd, 0, none⟩)] 22)) :=
    ((Under.refl B bd w).set HD.out.ge 1 _).alloc (by simp [World.setCell]; exact hB) _
  have hp : preS S = { S with calls := S.calls + 1 } := by unfold preS; rw [if_neg (by rw [H1.out]; simp), if_neg (by rw [H1.out]; simp)]
  refine ⟨50, { S with calls := S.calls + 1 }, rfl, ?_, hda, hun.below, hun.keep.mono fun b _ hb => HNE.out b hb⟩
  unfold callR early
  rw [H1.out]
  refine ⟨rfl, ?_⟩
  unfold postS
  rw [if_neg (by rw [H1.out]; simp), hp, H1.out]
/-- the call's world behind what it turns of the disk -/
def cW (w : World) (bd : Nat) (c : Int) (f : Int) : World := ((w.setCell ⟨bd, 1, none⟩ (.int .i64 c)).setCell ⟨bd, 3, none⟩ (.int .i64 f)).alloc (.cells #[.pointer (some ⟨bd, 0, none⟩)] 22)
set_option maxRecDepth 100000 in
set_option maxHeartbeats 1000000 in
theorem callok_fail (B bd : Nat) (A : Nat → Prop) (S : DSt) (hok : DOk S) (h1 : S.dead = false) (h2 : S.stop ≤ 0) (h3 : 0 < S.fail) : CallOk B bd A S := fun w h hAl hB lb R hdo => by
  have HNE := Lib.hid h.ne
  obtain ⟨ρ, vf, vt, bn, bl, V, hd, hA⟩ := h
  have HAV := Lib.hid hA
  have HAL := Lib.hid hAl
  clear hA hAl
  have hn := hok.nums
  have HDO := Lib.hid hdo
  have c1 : w.cell? ⟨bd, 1, none⟩ = some (.int .i64 S.calls) := hd.head.cell (i := 1) (by omega)
  have c2 : w.cell? ⟨bd, 2, none⟩ = some (.int .i64 S.stop) := hd.head.cell (i := 2) (by omega)
  have c3 : w.cell? ⟨bd, 3, none⟩ = some (.int .i64 S.fail) := hd.head.cell (i := 3) (by omega)
  have c4 : w.cell? ⟨bd, 4, none⟩ = some (.int .i64 S.failE) := hd.head.cell (i := 4) (by omega)
  have c5 : w.cell? ⟨bd, 5, none⟩ = some (.bool false) := by rw [← h1]; exact hd.head.cell (i := 5) (by omega)
  have f1 : w.frozen? ⟨bd, 1, none⟩ = false := hd.head.frozen 1
  have f3 : w.frozen? ⟨bd, 3, none⟩ = false := hd.head.frozen 3
  have hbl := hd.lt
  have y1 : IntKind.i64.wrap (S.calls + 1) = S.calls + 1 := IntWalk.i64_in _ (by omega)
  have y3 : IntKind.i64.wrap (S.fail - 1) = S.fail - 1 := IntWalk.i64_in _ (by omega)
  have t2 : decide (0 < S.stop) = false := by simp; omega
  have hp : preS S = { S with calls := S.calls + 1, fail := S.fail - 1 } := by unfold preS; rw [if_neg (by omega), if_pos ⟨h1, h3⟩]
  have hpo : ∀ S2, postS S S2 = S2 := fun S2 => postS_plain S S2 h2
  have hda : DiskAv B (cW w bd (S.calls + 1) (S.fail - 1)) bd { S with calls := S.calls + 1, fail := S.fail - 1 } A :=
    ⟨ρ, vf, vt, bn, bl, V, ((hd.setHead 1 (.int .i64 (S.calls + 1)) { S with calls := S.calls + 1 } rfl rfl rfl rfl rfl rfl (ten rfl rfl rfl rfl rfl rfl rfl rfl rfl rfl)).setHead 3 (.int .i64 (S.fail - 1)) { S with calls := S.calls + 1, fail := S.fail - 1 } rfl rfl rfl rfl rfl rfl (ten rfl rfl rfl rfl rfl rfl rfl rfl rfl rfl)).below ((Below.refl _ _).alloc (Nat.le_refl _) _), HAV.out⟩
  have hun : Under B bd w (cW w bd (S.calls + 1) (S.fail - 1)) :=
    (((Under.refl B bd w).set hd.ge 1 _).set hd.ge 3 _).alloc (by simp [World.setCell]; exact hB) _
  have hsz : w.heap.size ≤ (cW w bd (S.calls + 1) (S.fail - 1)).heap.size := by simp [cW, World.setCell]
  have HDA := Lib.hid hda
  have HUN := Lib.hid hun
  have HP := Lib.hid hp
  have HPO := Lib.hid hpo
  have HSZ := Lib.hid hsz
  unfold cW at HDA HUN HSZ
  have H1 := Lib.hid h1
  clear hd hdo hn h1 hda hun hp hpo hok hsz
  by_cases e1 : S.fail = 1
  · rw [e1] at c3 y3
    have y3' : IntKind.i64.wrap (1 - 1 : Int) = 0 := by decide
    have E1 := Lib.hid e1
    rw [e1] at HDA HUN HP
    clear e1 y3 h3
    go_enter Try.func33, Try.ntmps33
    go_wp2_with fail
    go_ret
    refine ⟨S.failE, { S with calls := S.calls + 1, fail := 1 - 1 }, rfl, ?_, HDA.out, HUN.out.below, HUN.out.keep.mono fun b _ hb => HNE.out b hb⟩
    unfold callR early
    rw [H1.out, E1.out]
    refine ⟨rfl, ?_⟩
    rw [HPO.out, HP.out, H1.out]
  · have t4 : (S.fail - 1 == 0) = false := by simp; omega
    have t5 : decide (S.fail - 1 = 0) = false := by simp; omega
    have he : early S = none := by unfold early; rw [H1.out, if_neg (by simp), if_neg (by omega)]
    have HE := Lib.hid he
    clear e1 he
    go_enter Try.func33, Try.ntmps33
    go_wp2_with fail
    refine (HDO.out _ A (fun _ h => h) (fun b hb => by have := HAL.out b hb; have := HSZ.out; omega) (by rw [HP.out]; exact HDA.out) HUN.out).mono ?_
    rintro e w2 ⟨z, S2, rfl, hR, hd2, hb2, hk2⟩
    have HK2 := Lib.hid hk2
    have HR := Lib.hid hR
    have HD2 := Lib.hid hd2
    have HB2 := Lib.hid hb2
    clear hR hd2 hb2 hk2 HDA c1 c2 c3 c4 c5 f1 f3 HDO
    go_wp2
    go_ret
    refine ⟨z, S2, rfl, ?_, HD2.out, HUN.out.below.trans HB2.out, (HUN.out.keep.mono fun b _ hb => HNE.out b hb).trans HK2.out⟩
    unfold callR
    rw [HE.out]
    exact ⟨S2, HR.out, (HPO.out S2).symm⟩
set_option maxRecDepth 100000 in
/-- the deferred closure: a disk whose calls are done is dead -/
theorem deadD (w : World) (u : FrameMode) (b bd : Nat) (st : Int) (dd : Bool) (c0 : w.cell? ⟨b, 0, none⟩ = some (.pointer (some ⟨bd, 0, none⟩))) (c2 : w.cell? ⟨bd, 2, none⟩ = some (.int .i64 st)) (c5 : w.cell? ⟨bd, 5, none⟩ = some (.bool dd)) (f5 : w.frozen? ⟨bd, 5, none⟩ = false) :
    CallsD Try.prog 52 #[.pointer (some ⟨b, 0, none⟩)] u w fun e u' w' => u' = u ∧ (e = .returned (.tuple #[]) ∧ ∃ q, w' = (w.drewN q).setCell ⟨bd, 5, none⟩ (.bool (dd || decide (st = 0)))) := by
  cases dd with
  | true =>
    go_enter_d Try.func52, Try.ntmps52
    refine wp_region_still_tail 14 (by kernel_rfl) (by kernel_rfl) ?_
    simp only [List.take_succ_cons, List.take_zero, List.drop_succ_cons, List.drop_zero]
    change wpStill _ _ w.drew (fun a' => wpList _ _ _ _ a' w.drew) _ _
    repeat still_step
    refine wpStill_nil ?_
    go_wp2
    go_end0
    exact ⟨rfl, _, rfl⟩
  | false =>
    go_enter_d Try.func52, Try.ntmps52
    refine wp_region_still_tail 14 (by kernel_rfl) (by kernel_rfl) ?_
    simp only [List.take_succ_cons, List.take_zero, List.drop_succ_cons, List.drop_zero]
    change wpStill _ _ w.drew (fun a' => wpList _ _ _ _ a' w.drew) _ _
    repeat still_step
    refine wpStill_nil ?_
    go_wp2
    go_end0
    exact ⟨rfl, _, rfl⟩
set_option maxRecDepth 100000 in
set_option maxHeartbeats 1000000 in
theorem callok_stop (B bd : Nat) (A : Nat → Prop) (S : DSt) (hok : DOk S) (h1 : S.dead = false) (h2 : 0 < S.stop) (h3 : S.fail ≤ 0) : CallOk B bd A S := fun w h hAl hB lb R hdo => by
  have HNE := Lib.hid h.ne
  have hmf : ∀ (fn : Fn) (first cap : Array Value) (w : World), (Instr.makeFunc fn first cap).run Try.prog w = .ok (.func fn first cap) w := fun _ _ _ _ => rfl
  have HAV0 := Lib.hid h
  obtain ⟨ρ, vf, vt, bn, bl, V, hd, hA⟩ := h
  have HAV := Lib.hid hA
  have HAL := Lib.hid hAl
  clear hA hAl
  have hn := hok.nums
  have HDO := Lib.hid hdo
  have c1 : w.cell? ⟨bd, 1, none⟩ = some (.int .i64 S.calls) := hd.head.cell (i := 1) (by omega)
  have c2 : w.cell? ⟨bd, 2, none⟩ = some (.int .i64 S.stop) := hd.head.cell (i := 2) (by omega)
  have c3 : w.cell? ⟨bd, 3, none⟩ = some (.int .i64 S.fail) := hd.head.cell (i := 3) (by omega)
  have c5 : w.cell? ⟨bd, 5, none⟩ = some (.bool false) := by rw [← h1]; exact hd.head.cell (i := 5) (by omega)
  have f1 : w.frozen? ⟨bd, 1, none⟩ = false := hd.head.frozen 1
  have f2 : w.frozen? ⟨bd, 2, none⟩ = false := hd.head.frozen 2
  have hbl := hd.lt
  have y1 : IntKind.i64.wrap (S.calls + 1) = S.calls + 1 := IntWalk.i64_in _ (by omega)
  have y2 : IntKind.i64.wrap (S.stop - 1) = S.stop - 1 := IntWalk.i64_in _ (by omega)
  have t2 : (0 : Int) < S.stop := h2
  have t3 : decide (0 < S.fail) = false := by simp; omega
  have hp : preS S = { S with calls := S.calls + 1, stop := S.stop - 1 } := by unfold preS; rw [if_pos ⟨h1, h2⟩, if_neg (by omega)]
  have hpo : ∀ S2, postS S S2 = { S2 with dead := S2.dead || decide (S2.stop = 0) } := fun S2 => by unfold postS; rw [if_pos ⟨h1, h2⟩]
  have hda0 : DiskIn B ((w.setCell ⟨bd, 1, none⟩ (.int .i64 (S.calls + 1))).setCell ⟨bd, 2, none⟩ (.int .i64 (S.stop - 1))) bd ρ { S with calls := S.calls + 1, stop := S.stop - 1 } vf vt bn bl V :=
    (hd.setHead 1 (.int .i64 (S.calls + 1)) { S with calls := S.calls + 1 } rfl rfl rfl rfl rfl rfl (ten rfl rfl rfl rfl rfl rfl rfl rfl rfl rfl)).setHead 2 (.int .i64 (S.stop - 1)) { S with calls := S.calls + 1, stop := S.stop - 1 } rfl rfl rfl rfl rfl rfl (ten rfl rfl rfl rfl rfl rfl rfl rfl rfl rfl)
  have hsz0 : ((w.setCell ⟨bd, 1, none⟩ (.int .i64 (S.calls + 1))).setCell ⟨bd, 2, none⟩ (.int .i64 (S.stop - 1))).heap.size = w.heap.size := by simp [World.setCell]
  have hda : DiskAv B (((w.setCell ⟨bd, 1, none⟩ (.int .i64 (S.calls + 1))).setCell ⟨bd, 2, none⟩ (.int .i64 (S.stop - 1))).alloc (.cells #[.pointer (some ⟨bd, 0, none⟩)] 22)) bd { S with calls := S.calls + 1, stop := S.stop - 1 } (fun b => A b ∨ b = w.heap.size) :=
    DiskAv.avoid ⟨ρ, vf, vt, bn, bl, V, hda0, HAV.out⟩ ((Below.refl _ _).alloc (Nat.le_refl _) _) (fun b => b = w.heap.size) (fun b hb => by rw [hsz0, hb]; exact Nat.le_refl _)
  have hbox : (((w.setCell ⟨bd, 1, none⟩ (.int .i64 (S.calls + 1))).setCell ⟨bd, 2, none⟩ (.int .i64 (S.stop - 1))).alloc (.cells #[.pointer (some ⟨bd, 0, none⟩)] 22)).cell? ⟨w.heap.size, 0, none⟩ = some (.pointer (some ⟨bd, 0, none⟩)) := by
    have := box_cell ((w.setCell ⟨bd, 1, none⟩ (.int .i64 (S.calls + 1))).setCell ⟨bd, 2, none⟩ (.int .i64 (S.stop - 1))) (.pointer (some ⟨bd, 0, none⟩)) 22
    rw [hsz0] at this
    exact this
  have hun : Under B bd w (((w.setCell ⟨bd, 1, none⟩ (.int .i64 (S.calls + 1))).setCell ⟨bd, 2, none⟩ (.int .i64 (S.stop - 1))).alloc (.cells #[.pointer (some ⟨bd, 0, none⟩)] 22)) :=
    (((Under.refl B bd w).set hd.ge 1 _).set hd.ge 2 _).alloc (by rw [hsz0]; exact hB) _
  have hsz : (((w.setCell ⟨bd, 1, none⟩ (.int .i64 (S.calls + 1))).setCell ⟨bd, 2, none⟩ (.int .i64 (S.stop - 1))).alloc (.cells #[.pointer (some ⟨bd, 0, none⟩)] 22)).heap.size = w.heap.size + 1 := by rw [World.size_alloc, hsz0]
  have he : early S = none := early_plain S h1 h3
  have HDA := Lib.hid hda
  have HBOX := Lib.hid hbox
  have HUN := Lib.hid hun
  have HP := Lib.hid hp
  have HPO := Lib.hid hpo
  have HSZ := Lib.hid hsz
  have HE := Lib.hid he
  have HGE := Lib.hid hd.ge
  clear hd hdo hn h1 h2 hda hun hp hpo hok hsz hbox hda0 hsz0 he
  go_enter_defers Try.func33, Try.ntmps33
  go_wp2_with fail
  refine (HDO.out _ (fun b => A b ∨ b = w.heap.size) (fun _ h => .inl h) (fun b hb => by have := HSZ.out; rcases hb with hb | hb; (have := HAL.out b hb; omega); omega) (by rw [HP.out]; exact HDA.out) HUN.out).mono ?_
  rintro e w2 ⟨z, S2, rfl, hR, hd2, hb2, hk2⟩
  have hx2 : w2.cell? ⟨w.heap.size, 0, none⟩ = some (.pointer (some ⟨bd, 0, none⟩)) := (World.cell?_of_block (hk2.block w.heap.size (by have := HSZ.out; omega) (.inr rfl))).trans HBOX.out
  obtain ⟨ρ2, vf2, vt2, bn2, bl2, V2, hi2, hav2⟩ := hd2
  have HI2 := Lib.hid hi2
  have HX2 := Lib.hid hx2
  have HK2 := Lib.hid hk2
  have HR := Lib.hid hR
  have HV2 := Lib.hid hav2
  have HB2 := Lib.hid hb2
  clear hR hi2 hb2 hk2 hav2 HDA c1 c2 c3 c5 f1 f2 HDO hx2
  go_wp2
  refine leaves_cons (f := 52) (args := #[.pointer (some ⟨w.heap.size, 0, none⟩)]) (by simp) (by simp [go_sem]) ?_
  refine (deadD _ .returning w.heap.size bd S2.stop S2.dead HX2.out (HI2.out.head.cell (i := 2) (by omega)) (HI2.out.head.cell (i := 5) (by omega)) (HI2.out.head.frozen 5)).mono ?_
  rintro e u' w3 ⟨rfl, rfl, q, rfl⟩
  refine ⟨_, results_tmp rfl _ _ _, ?_⟩
  have hd3 : DiskAv B ((w2.drewN q).setCell ⟨bd, 5, none⟩ (.bool (S2.dead || decide (S2.stop = 0)))) bd { S2 with dead := S2.dead || decide (S2.stop = 0) } A :=
    ⟨ρ2, vf2, vt2, bn2, bl2, V2, (HI2.out.below (below_drewN (Below.refl _ _) q)).setHead 5 (.bool (S2.dead || decide (S2.stop = 0))) { S2 with dead := S2.dead || decide (S2.stop = 0) } rfl rfl rfl rfl rfl rfl (ten rfl rfl rfl rfl rfl rfl rfl rfl rfl rfl), fun b hb => HV2.out b (.inl hb)⟩
  have hu3 : Under B bd w2 ((w2.drewN q).setCell ⟨bd, 5, none⟩ (.bool (S2.dead || decide (S2.stop = 0)))) := ((Under.refl B bd w2).drewN q).set HGE.out 5 _
  refine ⟨z, { S2 with dead := S2.dead || decide (S2.stop = 0) }, rfl, ?_, hd3, (HUN.out.below.trans HB2.out).trans hu3.below, ((HUN.out.keep.mono fun b _ hb => HNE.out b hb).trans (HK2.out.mono fun b _ hb => .inl hb)).trans (hu3.keep.mono fun b _ hb => HNE.out b hb)⟩
  unfold callR
  rw [HE.out]
  exact ⟨S2, HR.out, (HPO.out S2).symm⟩
end Go.Proofs.Ytelndbjjkhlacaa
namespace Go.Proofs.Ytelndbjjkhlacaa
open Go.RowKit Go.Maps

theorem preS_ok {S : DSt} (h : DOk S) (hc : S.calls < 100000) : DOk (preS S) := by
  have h1 := h.call hc
  have hn := h1.nums
  refine ⟨h1.nodup, h1.names, h1.last, h1.turns, h1.long, h1.lasts, h1.byte, h1.tkind, h1.tnames, h1.few, ⟨hn.1, hn.2.1, hn.2.2.1, hn.2.2.2.1, ?_, ?_, ?_, ?_⟩⟩
  all_goals
    have h2 := hn.2.2.2.2
    simp only at h2
    unfold preS
    simp only
    split <;> omega
def onG (S : DSt) (s : ByteArray) (R : Nat → Int → DSt → Prop) (z : Int) (S' : DSt) : Prop := if okN s = true then callR S (findR S.names s (preS S) R) z S' else z = 10 ∧ S' = S
theorem preS_names (S : DSt) : (preS S).names = S.names := rfl
set_option maxRecDepth 100000 in
set_option maxHeartbeats 1000000 in
theorem on_append_gen (B : Nat) (w : World) (bd : Nat) (S : DSt) (A : Nat → Prop) (h : DiskAv B w bd S A) (hAl : ∀ b, A b → b < w.heap.size) (hcall : CallOk B bd A S) (hB : B ≤ w.heap.size) (s : ByteArray) (hs : s.size ≤ maxLen) (lb : Array Value) (R : Nat → Int → DSt → Prop)
    (hdo : ∀ W f A', (∀ b, A b → A' b) → (∀ b, A' b → b < W.heap.size) → DiskAv B W bd (preS S) A' → Under B bd w W → fileOf S.names s = some f → Calls Try.prog 36 (#[ptrB f] ++ lb) W (DPost B A' W bd (R f))) :
    Calls Try.prog 35 #[.pointer (some ⟨bd, 0, none⟩), .string s, .func (.func 36) #[] lb] w (DPost B A w bd (onG S s R)) := by
  have HNE := Lib.hid h.ne
  have HDO := Lib.hid hdo
  have HA := Lib.hid h
  have HCALL := Lib.hid hcall
  have HAL := Lib.hid hAl
  have hbl : bd < w.heap.size := by obtain ⟨ρ, vf, vt, bn, bl, V, hd, _⟩ := h; exact hd.lt
  have B0 := Boxed.new w 22 (.pointer (some ⟨bd, 0, none⟩))
  have B1 := Boxed.new (w.alloc (.cells #[.pointer (some ⟨bd, 0, none⟩)] 22)) 9 (.string s)
  have B2 := Boxed.new ((w.alloc (.cells #[.pointer (some ⟨bd, 0, none⟩)] 22)).alloc (.cells #[.string s] 9)) 68 (.func (.func 36) #[] lb)
  simp only [World.size_alloc] at B1 B2
  have B0' := (B0.alloc (.cells #[.string s] 9)).alloc (.cells #[.func (.func 36) #[] lb] 68)
  have B1' := B1.alloc (.cells #[.func (.func 36) #[] lb] 68)
  have hbl3 : Below w.heap.size w (((w.alloc (.cells #[.pointer (some ⟨bd, 0, none⟩)] 22)).alloc (.cells #[.string s] 9)).alloc (.cells #[.func (.func 36) #[] lb] 68)) :=
    (((Below.refl _ w).alloc (Nat.le_refl _) _).alloc (by simp) _).alloc (by simp; omega) _
  have HU3 : Hid (Under B bd w (((w.alloc (.cells #[.pointer (some ⟨bd, 0, none⟩)] 22)).alloc (.cells #[.string s] 9)).alloc (.cells #[.func (.func 36) #[] lb] 68))) :=
    ⟨KeepX.of_below hbl3, hbl3.mono hB⟩
  have HS3 : Hid ((((w.alloc (.cells #[.pointer (some ⟨bd, 0, none⟩)] 22)).alloc (.cells #[.string s] 9)).alloc (.cells #[.func (.func 36) #[] lb] 68)).heap.size = w.heap.size + 3) := by show _ = _; simp
  have HA3 := Lib.hid (h.below hbl3)
  have HX0 := Lib.hid B0'.cell
  have HX1 := Lib.hid B1'.cell
  have HX2 := Lib.hid B2.cell
  have hnm := name_any (((w.alloc (.cells #[.pointer (some ⟨bd, 0, none⟩)] 22)).alloc (.cells #[.string s] 9)).alloc (.cells #[.func (.func 36) #[] lb] 68)) s hs
  have HNM := Lib.hid hnm
  clear hdo B0 B1 B2 B0' B1' hbl3 hnm h hcall hAl
  unfold onG
  cases hk : okN s with
  | false =>
    rw [hk] at HNM
    clear hk
    go_enter Try.func35, Try.ntmps35
    go_wp2_with fail
    refine HNM.out.mono ?_
    rintro e w' ⟨rfl, j, rfl⟩
    go_wp2
    go_ret
    exact ⟨10, S, rfl, ⟨rfl, rfl⟩, (HA3.out.drewN _), (HU3.out.drewN _).below, (HU3.out.drewN _).keep.mono fun b _ hb => HNE.out b hb⟩
  | true =>
    rw [hk] at HNM
    clear hk
    go_enter Try.func35, Try.ntmps35
    go_wp2_with fail
    refine HNM.out.mono ?_
    rintro e w' ⟨rfl, j, rfl⟩
    go_wp2_with fail
    generalize hw3 : ((w.alloc (.cells #[.pointer (some ⟨bd, 0, none⟩)] 22)).alloc (.cells #[.string s] 9)).alloc (.cells #[.func (.func 36) #[] lb] 68) = w3 at *
    clear hw3
    have HC := Lib.hid (HCALL.out (w3.drewN j) (HA3.out.drewN j) (fun b hb => by have := HAL.out b hb; have := HS3.out; show b < w3.heap.size; omega) (by have := HS3.out; show B ≤ w3.heap.size; omega) #[.pointer (some ⟨w.heap.size, 0, none⟩), .pointer (some ⟨w.heap.size + 1, 0, none⟩), .pointer (some ⟨w.heap.size + 1 + 1, 0, none⟩)] (findR S.names s (preS S) R) (fun W A' hAA hAl' hW hu => by
      have hu2 := (HU3.out.drewN j).trans hu
      refine on1_append B W bd (preS S) A' hW s hs lb _ _ _ (hu.cell (p := ⟨w.heap.size, 0, none⟩) HX0.out (by show w.heap.size ≠ bd; omega)) (hu.cell (p := ⟨w.heap.size + 1, 0, none⟩) HX1.out (by show w.heap.size + 1 ≠ bd; omega)) (hu.cell (p := ⟨w.heap.size + 1 + 1, 0, none⟩) HX2.out (by show w.heap.size + 1 + 1 ≠ bd; omega)) R (fun f q hf => HDO.out (W.drewN q) f A' hAA hAl' (hW.drewN q) (hu2.drewN q) hf)))
    clear HX0 HX1 HX2 HNM HDO HCALL
    refine HC.out.mono ?_
    rintro e w4 ⟨z, S2, rfl, hR, hd2, hb2, hk2⟩
    have HK2 := Lib.hid hk2
    have HR := Lib.hid hR
    have HD2 := Lib.hid hd2
    have HB2 := Lib.hid hb2
    clear hR hd2 hb2 hk2 HC
    go_wp2
    go_ret
    exact ⟨z, S2, rfl, HR.out, HD2.out, (HU3.out.drewN j).below.trans HB2.out, ((HU3.out.drewN j).keep.mono fun b _ hb => HNE.out b hb).trans HK2.out⟩
set_option maxRecDepth 100000 in
set_option maxHeartbeats 1000000 in
theorem append_gen (B : Nat) (w : World) (bd : Nat) (S : DSt) (A : Nat → Prop) (h : DiskAv B w bd S A) (hAl : ∀ b, A b → b < w.heap.size) (hok : DOk S) (hcall : CallOk B bd A S) (hB : B ≤ w.heap.size) (hc : S.calls < 100000) (s : ByteArray) (hs : s.size ≤ maxLen) (a : Option Addr) (cap : Nat) (d : List Nat) (hr : Row w a d.length (byteV d)) (hne : d.length = 0 ∨ bOf a ≠ bd) :
    Calls Try.prog 15 #[.pointer (some ⟨bd, 0, none⟩), .string s, .slice a d.length cap] w (DPost B A w bd (onG S s (appR (preS S) d))) := by
  have hbl : bd < w.heap.size := by obtain ⟨ρ, vf, vt, bn, bl, V, hd, _⟩ := h; exact hd.lt
  have B0 := Boxed.new w 22 (.pointer (some ⟨bd, 0, none⟩))
  have B1 := Boxed.new (w.alloc (.cells #[.pointer (some ⟨bd, 0, none⟩)] 22)) 28 (.slice a d.length cap)
  simp only [World.size_alloc] at B1
  have B0' := B0.alloc (.cells #[.slice a d.length cap] 28)
  have hb2 : Below w.heap.size w ((w.alloc (.cells #[.pointer (some ⟨bd, 0, none⟩)] 22)).alloc (.cells #[.slice a d.length cap] 28)) := ((Below.refl _ w).alloc (Nat.le_refl _) _).alloc (by simp) _
  have hsz : ((w.alloc (.cells #[.pointer (some ⟨bd, 0, none⟩)] 22)).alloc (.cells #[.slice a d.length cap] 28)).heap.size = w.heap.size + 2 := by simp
  have HON := Lib.hid (on_append_gen B _ bd S A (h.below hb2) (fun b hb => by have := hAl b hb; rw [hsz]; omega) hcall (by rw [hsz]; omega) s hs #[.pointer (some ⟨w.heap.size + 1, 0, none⟩), .pointer (some ⟨w.heap.size, 0, none⟩)] (appR (preS S) d) (fun W f A' hAA hAl' hW hu hf => by
    have hrow : Row W a d.length (byteV d) := row_kx (hr.kept hb2) hu.keep hne
    exact append1_any B W bd _ A' hW hAl' (preS_ok hok hc) (by have := hu.keep.size; rw [hsz] at this; omega) f (hok.names.file hf) _ _ a cap d (hu.cell (p := ⟨w.heap.size + 1, 0, none⟩) B1.cell (by show w.heap.size + 1 ≠ bd; omega)) (hu.cell (p := ⟨w.heap.size, 0, none⟩) B0'.cell (by show w.heap.size ≠ bd; omega)) hrow))
  have HB2 := Lib.hid hb2
  clear h hAl hok hcall hr hb2 B0 B1 B0' hsz
  go_enter Try.func15, Try.ntmps15
  go_wp2_with fail
  refine HON.out.mono ?_
  rintro e w4 ⟨z, S2, rfl, hR, hd2, hb4, hk4⟩
  have HK4 := Lib.hid hk4
  have HR := Lib.hid hR
  have HD2 := Lib.hid hd2
  have HB4 := Lib.hid hb4
  clear hR hd2 hb4 hk4 HON
  go_wp2
  go_ret
  exact ⟨z, S2, rfl, HR.out, HD2.out, (HB2.out.mono hB).trans HB4.out, (KeepX.of_below HB2.out).trans HK4.out⟩
/-- Stop -/
def stopS (S : DSt) (n : Int) : DSt := { S with stop := max n (-1), dead := S.dead || decide (n = 0) }
set_option maxRecDepth 100000 in
theorem stop_any (B : Nat) (w : World) (bd : Nat) (S : DSt) (A : Nat → Prop) (h : DiskAv B w bd S A) (h1 : S.dead = false) (n : Int) (hn : 0 ≤ n) :
    Calls Try.prog 20 #[.pointer (some ⟨bd, 0, none⟩), .int .i64 n] w fun e w' => e = .returned (.tuple #[]) ∧ DiskAv B w' bd (stopS S n) A ∧ Below B w w' := by
  obtain ⟨ρ, vf, vt, bn, bl, V, hd, hA⟩ := h
  have HAV := Lib.hid hA
  have HD := Lib.hid hd
  have c2 : w.cell? ⟨bd, 2, none⟩ = some (.int .i64 S.stop) := hd.head.cell (i := 2) (by omega)
  have c5 : w.cell? ⟨bd, 5, none⟩ = some (.bool false) := by rw [← h1]; exact hd.head.cell (i := 5) (by omega)
  have f2 : w.frozen? ⟨bd, 2, none⟩ = false := hd.head.frozen 2
  have f5 : w.frozen? ⟨bd, 5, none⟩ = false := hd.head.frozen 5
  have H1 := Lib.hid h1
  have em : max n (-1) = n := by omega
  clear hd hA h1
  go_enter Try.func20, Try.ntmps20
  have HSS : Hid (DiskAv B ((w.setCell ⟨bd, 2, none⟩ (.int .i64 n)).setCell ⟨bd, 5, none⟩ (.bool (decide (n = 0)))) bd (stopS S n) A ∧ Below B w ((w.setCell ⟨bd, 2, none⟩ (.int .i64 n)).setCell ⟨bd, 5, none⟩ (.bool (decide (n = 0))))) := by
    refine ⟨⟨ρ, vf, vt, bn, bl, V, ?_, HAV.out⟩, ?_⟩
    · have hs : stopS S n = { S with stop := n, dead := decide (n = 0) } := by unfold stopS; rw [em, H1.out]; simp
      rw [hs]
      exact (HD.out.setHead 2 (.int .i64 n) { S with stop := n } rfl rfl rfl rfl rfl rfl (ten rfl rfl rfl rfl rfl rfl rfl rfl rfl rfl)).setHead 5 (.bool (decide (n = 0))) { S with stop := n, dead := decide (n = 0) } rfl rfl rfl rfl rfl rfl (ten rfl rfl rfl rfl rfl rfl rfl rfl rfl rfl)
    · exact (((Under.refl B bd w).set HD.out.ge 2 _).set HD.out.ge 5 _).below
  cases e1 : decide (n = 0) with
  | true =>
    have e2 : (n == 0) = true := by simpa using e1
    rw [e1] at HSS
    go_wp2
    go_end0
    exact ⟨rfl, HSS.out⟩
  | false =>
    have e2 : (n == 0) = false := by simpa using e1
    rw [e1] at HSS
    go_wp2
    go_end0
    exact ⟨rfl, HSS.out⟩
/-- Fail -/
def failS (S : DSt) (n e : Int) : DSt := { S with fail := n, failE := e }
set_option maxRecDepth 100000 in
theorem fail_any (B : Nat) (w : World) (bd : Nat) (S : DSt) (A : Nat → Prop) (h : DiskAv B w bd S A) (n : Int) (hn : 0 ≤ n) (z : Int) (hz : z = 15 ∨ z = 51) :
    Calls Try.prog 25 #[.pointer (some ⟨bd, 0, none⟩), .int .i64 n, .int .i64 z] w fun e w' => e = .returned (.tuple #[]) ∧ DiskAv B w' bd (failS S n z) A ∧ Below B w w' := by
  obtain ⟨ρ, vf, vt, bn, bl, V, hd, hA⟩ := h
  have HAV := Lib.hid hA
  have HD := Lib.hid hd
  have c3 : w.cell? ⟨bd, 3, none⟩ = some (.int .i64 S.fail) := hd.head.cell (i := 3) (by omega)
  have c4 : w.cell? ⟨bd, 4, none⟩ = some (.int .i64 S.failE) := hd.head.cell (i := 4) (by omega)
  have f3 : w.frozen? ⟨bd, 3, none⟩ = false := hd.head.frozen 3
  have f4 : w.frozen? ⟨bd, 4, none⟩ = false := hd.head.frozen 4
  have em : max n 0 = n := by omega
  have HSS : Hid (∀ w5, w5 = (w.setCell ⟨bd, 3, none⟩ (.int .i64 n)).setCell ⟨bd, 4, none⟩ (.int .i64 z) → DiskAv B w5 bd (failS S n z) A ∧ Below B w w5) := fun w5 e5 => by
    subst e5
    refine ⟨⟨ρ, vf, vt, bn, bl, V, ?_, HAV.out⟩, ?_⟩
    · exact (HD.out.setHead 3 (.int .i64 n) { S with fail := n } rfl rfl rfl rfl rfl rfl (ten rfl rfl rfl rfl rfl rfl rfl rfl rfl rfl)).setHead 4 (.int .i64 z) { S with fail := n, failE := z } rfl rfl rfl rfl rfl rfl (ten rfl rfl rfl rfl rfl rfl rfl rfl rfl rfl)
    · exact (((Under.refl B bd w).set HD.out.ge 3 _).set HD.out.ge 4 _).below
  clear hd hA
  rcases hz with rfl | rfl
  all_goals
    go_enter Try.func25, Try.ntmps25
    go_wp2_with fail
    go_end0
    exact ⟨rfl, HSS.out _ rfl⟩
end Go.Proofs.Ytelndbjjkhlacaa
namespace Go.Proofs.Ytelndbjjkhlacaa
open Go.RowKit Go.Maps

def gS (S : DSt) (st fa : Int) (dd : Bool) : DSt := { S with stop := st, fail := fa, dead := dd }
theorem DOk.turned {S : DSt} (h : DOk S) (st fa fe : Int) (dd : Bool) (h1 : -1 ≤ st ∧ st ≤ 1000000 ∧ 0 ≤ fa ∧ fa ≤ 1000000) : DOk { S with stop := st, fail := fa, failE := fe, dead := dd } :=
  ⟨h.nodup, h.names, h.last, h.turns, h.long, h.lasts, h.byte, h.tkind, h.tnames, h.few, ⟨h.nums.1, h.nums.2.1, h.nums.2.2.1, h.nums.2.2.2.1, h1⟩⟩
/-- how a call goes, at a disk of any kind -/
def GStep (B : Nat) (A : Nat → Prop) (w : World) (bd : Nat) (z : Int) (S' : DSt) (e : Ending) (w' : World) : Prop :=
  e = .returned (.int .i64 z) ∧ DOk S' ∧ DiskAv B w' bd S' A ∧ Below B w w'
theorem usedS_pre (S : DSt) : usedS (preS S) = usedS S := rfl
section
variable (B : Nat) (w : World) (bd : Nat) (S : DSt) (A : Nat → Prop) (h : DiskAv B w bd S A) (hAl : ∀ b, A b → b < w.heap.size) (hok : DOk S) (hB : B ≤ w.heap.size) (hc : S.calls < 100000) (s : ByteArray)
  (hs : okN s = true) (f : Nat) (hf : fileOf S.names s = some f) (a : Option Addr) (cap : Nat) (d : List Nat) (hr : Row w a d.length (byteV d)) (hne : d.length = 0 ∨ bOf a ≠ bd)
include h hAl hok hB hc hs hr hne
theorem app_dead (h1 : S.dead = true) : Calls Try.prog 15 #[.pointer (some ⟨bd, 0, none⟩), .string s, .slice a d.length cap] w (GStep B A w bd 50 (callS S)) := by
  have hsz := okN_size hs
  refine (append_gen B w bd S A h hAl hok (callok_dead B bd A S hok h1) hB hc s (by simp only [maxLen]; omega) a cap d hr hne).mono ?_
  rintro e w' ⟨z, S', rfl, hR, hd2, hb, _⟩
  unfold onG callR early at hR
  rw [if_pos hs, h1] at hR
  obtain ⟨rfl, rfl⟩ := hR
  have e1 : postS S (preS S) = callS S := by
    unfold postS preS callS
    rw [if_neg (by rw [h1]; simp), if_neg (by rw [h1]; simp), if_neg (by rw [h1]; simp)]
  rw [e1] at hd2
  exact ⟨rfl, hok.call hc, hd2, hb⟩
theorem app_fail1 (h1 : S.dead = false) (h2 : S.stop ≤ 0) (h3 : S.fail = 1) : Calls Try.prog 15 #[.pointer (some ⟨bd, 0, none⟩), .string s, .slice a d.length cap] w (GStep B A w bd S.failE (gS (callS S) S.stop 0 S.dead)) := by
  have hsz := okN_size hs
  refine (append_gen B w bd S A h hAl hok (callok_fail B bd A S hok h1 h2 (by omega)) hB hc s (by simp only [maxLen]; omega) a cap d hr hne).mono ?_
  rintro e w' ⟨z, S', rfl, hR, hd2, hb, _⟩
  unfold onG callR early at hR
  rw [if_pos hs, h1, if_neg (by simp), if_pos (by omega)] at hR
  obtain ⟨rfl, rfl⟩ := hR
  have e1 : postS S (preS S) = gS (callS S) S.stop 0 S.dead := by
    unfold postS preS callS gS
    rw [if_neg (by omega), if_neg (by omega), if_pos ⟨h1, by omega⟩, h3]
    rfl
  rw [e1] at hd2
  have hn := hok.nums
  exact ⟨rfl, (hok.call hc).turned S.stop 0 S.failE S.dead (by omega), hd2, hb⟩
include hf
theorem app_go (h1 : S.dead = false) (hcall : CallOk B bd A S) (he : early S = none) (hd : ∀ c ∈ d, c < 256) (hl : (S.fb f).length + d.length ≤ 200000) (hq : (usedS S : Int) + d.length ≤ S.quota) :
    Calls Try.prog 15 #[.pointer (some ⟨bd, 0, none⟩), .string s, .slice a d.length cap] w (GStep B A w bd 0 (postS S (appendS { S with stop := (preS S).stop, fail := (preS S).fail } f d))) := by
  have hsz := okN_size hs
  refine (append_gen B w bd S A h hAl hok hcall hB hc s (by simp only [maxLen]; omega) a cap d hr hne).mono ?_
  rintro e w' ⟨z, S', rfl, hR, hd2, hb, _⟩
  unfold onG callR at hR
  rw [if_pos hs, he] at hR
  obtain ⟨S2, hR, rfl⟩ := hR
  unfold findR appR at hR
  rw [hf] at hR
  simp only at hR
  rw [usedS_pre] at hR
  have hp1 : (preS S).fb = S.fb := rfl
  have hp2 : (preS S).quota = S.quota := rfl
  rw [hp1, hp2, if_neg (by omega), if_neg (by omega)] at hR
  obtain ⟨rfl, rfl⟩ := hR
  have hlv : Lv { S with stop := 0, fail := 0 } := ⟨hok.turned 0 0 S.failE S.dead (by omega), h1, Int.le_refl 0, Int.le_refl 0⟩
  have hap := (hlv.append hc f d hd hl).ok
  have hpre := (preS_ok hok hc).nums.2.2.2.2
  have hok2 : DOk (appendS { S with stop := (preS S).stop, fail := (preS S).fail } f d) := hap.turned (preS S).stop (preS S).fail S.failE S.dead hpre
  refine ⟨rfl, ?_, hd2, hb⟩
  unfold postS
  split
  · exact hok2.turned (preS S).stop (preS S).fail S.failE (S.dead || decide ((preS S).stop = 0)) hpre
  · exact hok2
theorem app_stop (h1 : S.dead = false) (h2 : 0 < S.stop) (h3 : S.fail ≤ 0) (hd : ∀ c ∈ d, c < 256) (hl : (S.fb f).length + d.length ≤ 200000) (hq : (usedS S : Int) + d.length ≤ S.quota) :
    Calls Try.prog 15 #[.pointer (some ⟨bd, 0, none⟩), .string s, .slice a d.length cap] w (GStep B A w bd 0 (gS (appendS S f d) (S.stop - 1) S.fail (decide (S.stop - 1 = 0)))) := by
  have h4 := app_go B w bd S A h hAl hok hB hc s hs f hf a cap d hr hne h1 (callok_stop B bd A S hok h1 h2 h3) (early_plain S h1 h3) hd hl hq
  have e1 : postS S (appendS { S with stop := (preS S).stop, fail := (preS S).fail } f d) = gS (appendS S f d) (S.stop - 1) S.fail (decide (S.stop - 1 = 0)) := by
    unfold postS preS appendS gS
    simp only
    rw [if_pos ⟨h1, h2⟩, if_pos ⟨h1, h2⟩, if_neg (by omega), h1]
    simp
  rw [e1] at h4
  exact h4
theorem app_fail (h1 : S.dead = false) (h2 : S.stop ≤ 0) (h3 : 1 < S.fail) (hd : ∀ c ∈ d, c < 256) (hl : (S.fb f).length + d.length ≤ 200000) (hq : (usedS S : Int) + d.length ≤ S.quota) :
    Calls Try.prog 15 #[.pointer (some ⟨bd, 0, none⟩), .string s, .slice a d.length cap] w (GStep B A w bd 0 (gS (appendS S f d) S.stop (S.fail - 1) S.dead)) := by
  have he : early S = none := by unfold early; rw [h1, if_neg (by simp), if_neg (by omega)]
  have h4 := app_go B w bd S A h hAl hok hB hc s hs f hf a cap d hr hne h1 (callok_fail B bd A S hok h1 h2 (by omega)) he hd hl hq
  have e1 : postS S (appendS { S with stop := (preS S).stop, fail := (preS S).fail } f d) = gS (appendS S f d) S.stop (S.fail - 1) S.dead := by
    unfold postS preS appendS gS
    simp only
    rw [if_neg (by omega), if_neg (by omega), if_pos ⟨h1, by omega⟩]
  rw [e1] at h4
  exact h4
end
end Go.Proofs.Ytelndbjjkhlacaa
