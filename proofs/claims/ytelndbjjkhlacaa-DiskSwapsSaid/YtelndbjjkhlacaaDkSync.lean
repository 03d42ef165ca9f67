/-
  Sync: a file's bytes last.
-/
import Derived.Test.YtelndbjjkhlacaaDkAppend
namespace Go.Proofs.Ytelndbjjkhlacaa
open Go.RowKit Go.Maps

def syncR (S : DSt) (f : Nat) (z : Int) (S' : DSt) : Prop := z = 0 ∧ S' = { S with fl := updN S.fl f (S.fb f).length }
set_option maxRecDepth 100000 in
set_option maxHeartbeats 1000000 in
theorem sync1_any (B : Nat) (W : World) (bd : Nat) (S : DSt) (A : Nat → Prop) (h : DiskAv B W bd S A) (hAl : ∀ b, A b → b < W.heap.size) (f : Nat) (hf : f ∈ S.files) :
    Calls Try.prog 46 #[ptrB f] W (DPost B A W bd (syncR S f)) := by
  have HAL := Lib.hid hAl
  clear hAl
  obtain ⟨ρ, vf, vt, bn, bl, V, hd, hav⟩ := h
  have HAV := Lib.hid hav
  clear hav
  obtain ⟨af, cf, hV, _⟩ := Row.of_owns (hd.bytes f hf)
  have x0 : W.cell? ⟨f, 0, none⟩ = some (.slice af (S.fb f).length cf) := by rw [← hV]; exact (hd.file f hf).cell (i := 0) (by omega)
  have x1 : W.cell? ⟨f, 1, none⟩ = some (.int .i64 (S.fl f : Int)) := (hd.file f hf).cell (i := 1) (by omega)
  have f1 := (hd.file f hf).frozen 1
  have hks : KeepX (fun b => b ≠ f) W (W.setCell ⟨f, 1, none⟩ (.int .i64 ((S.fb f).length : Int))) := KeepX.setCell W ⟨f, 1, none⟩ _ (fun h => h rfl)
  have hnf : ∀ g, (V f).ownBlock = some g → g ≠ f := fun g hg e => by
    subst e
    have h2 := hd.rbytes g hf g hg
    rw [hd.rfile g hf] at h2
    cases h2
  obtain ⟨ρ', hρ', hou⟩ := hd.turnFile (w' := W.setCell ⟨f, 1, none⟩ (.int .i64 ((S.fb f).length : Int))) hf (hks.mono fun b _ h => h.1) (V f) (S.fb f).length (S.fb f)
    (((hd.file f hf).set 1 _).congr fun j hj => by
      match j, hj with
      | 0, _ => rfl
      | 1, _ => rfl)
    (owns_keepX (hd.bytes f hf) hks hnf) (fun g hg => .inl hg)
  rw [updN_id, updN_id] at hρ'
  have HN := Lib.hid hρ'
  have HOU := Lib.hid hou
  clear hou
  have HB : Hid (Below B W (W.setCell ⟨f, 1, none⟩ (.int .i64 ((S.fb f).length : Int)))) := (Below.refl B W).setCell (p := ⟨f, 1, none⟩) (hd.base f (by rw [hd.rfile f hf]; simp)).1 _
  clear hd hV hks hnf hρ'
  go_enter Try.func46, Try.ntmps46
  go_wp2
  go_ret
  exact ⟨0, _, rfl, ⟨rfl, rfl⟩, ⟨_, _, _, _, _, _, HN.out, fun b hb => HOU.out.role b (HAL.out b hb) (HAV.out b hb)⟩, HB.out, HOU.out.keep.mono fun b _ hb => HAV.out b hb⟩
set_option maxRecDepth 100000 in
set_option maxHeartbeats 1000000 in
theorem sync_any (B : Nat) (w : World) (bd : Nat) (S : DSt) (A : Nat → Prop) (h : DiskAv B w bd S A) (hAl : ∀ b, A b → b < w.heap.size) (hok : DOk S) (h1 : S.dead = false) (h2 : S.stop ≤ 0) (h3 : S.fail ≤ 0) (hB : B ≤ w.heap.size) (s : ByteArray) (hs : s.size ≤ maxLen) :
    Calls Try.prog 23 #[.pointer (some ⟨bd, 0, none⟩), .string s] w (DPost B A w bd (onR S s (syncR { S with calls := S.calls + 1 }))) := by
  have HON := Lib.hid (on_sync B w bd S A h hok h1 h2 h3 hB s hs #[] (syncR { S with calls := S.calls + 1 }) (fun W f hW hu hf => sync1_any B W bd _ A hW (fun b hb => Nat.lt_of_lt_of_le (hAl b hb) hu.keep.size) f (hok.names.file hf)))
  clear h hAl hok h1 h2 h3
  go_enter Try.func23, Try.ntmps23
  go_wp2_with fail
  refine HON.out.mono ?_
  rintro e w4 ⟨z, S2, rfl, hR, hd2, hb4, hk4⟩
  have HK4 := Lib.hid hk4
  have HR := Lib.hid hR
  have HD2 := Lib.hid hd2
  have HB4 := Lib.hid hb4
  clear hR hd2 hb4 hk4 HON
  go_wp2
  go_ret
  exact ⟨z, S2, rfl, HR.out, HD2.out, HB4.out, HK4.out⟩
end Go.Proofs.Ytelndbjjkhlacaa
