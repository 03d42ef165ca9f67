/-
  Strings cut, put together, turned to bytes; names that are told apart; what is read of one file.
-/
import Derived.Test.YtelndbjjkhlacaaDkBytes
import Derived.Test.YtelndbjjkhlacaaDkMoved
namespace Go.Proofs.Ytelndbjjkhlacaa
open Go.RowKit Go.Maps

theorem sB_cut (d : List Nat) (k m : Nat) : (sB d).extract k (k + m) = sB ((d.drop k).take m) := by
  unfold sB
  apply ByteArray.ext
  rw [ByteArray.data_extract]
  apply Array.ext'
  simp [List.map_take, List.map_drop]
theorem sB_take (d : List Nat) (k : Nat) : (sB d).extract 0 k = sB (d.take k) := by
  have := sB_cut d 0 k
  rwa [Nat.zero_add] at this
theorem sB_app (x y : List Nat) : sB x ++ sB y = sB (x ++ y) := by
  unfold sB
  rw [List.map_append]
  apply ByteArray.ext
  rw [ByteArray.data_append]
  simp
theorem sB_nil : sB [] = ⟨#[]⟩ := by unfold sB; rfl
theorem sBf_at (d : List Nat) (hb : ∀ c ∈ d, c < 256) (k : Nat) (hk : k < d.length) : ∃ h : k < (sB d).size, ((sB d)[k]'h).toNat = d.getD k 0 := by
  refine ⟨by rw [sB_size]; exact hk, ?_⟩
  have : d.getD k 0 < 256 := hb _ (getD_mem' hk)
  rw [List.getD_eq_getElem?_getD, List.getElem?_eq_getElem hk] at this ⊢
  unfold sB
  show (((d.map UInt8.ofNat).toArray)[k]'(by simpa using hk)).toNat = _
  simp at this ⊢
  omega
theorem str_bytes (w : World) (P : List Nat) (hb : ∀ c ∈ P, c < 256) : ∃ cap w', (convert 9 28 (.string (sB P))).run Try.prog w = .ok (.slice (some ⟨w.heap.size, 0, none⟩) P.length cap) w' ∧
    P.length ≤ cap ∧ Row w' (some ⟨w.heap.size, 0, none⟩) P.length (byteV P) ∧ Below w.heap.size w w' ∧ w'.heap.size = w.heap.size + 1 := by
  refine ⟨grownCap w (sB P).size 0 5, Lib.bytesWorld w 5 (sB P), ?_, ?_, ⟨.inr rfl, ?_⟩, ⟨rfl, rfl, rfl, ?_, ?_⟩, Lib.bytesWorld_size w 5 (sB P)⟩
  · exact (Lib.run_convert_string_bytes (P := Try.prog) w 9 28 5 (sB P) Try.underlying9 Try.underlying28 Try.underlying5).trans (by rw [sB_size])
  · exact Nat.le_trans (Nat.le_of_eq (sB_size P).symm) (grownCap_ge w _ _ _)
  · intro k hk
    have := Lib.bytesWorld_cell w 5 (sB P) k (by rw [sB_size]; exact hk)
    simp only [bOf, oOf, Option.map_some, Option.getD_some, Nat.zero_add]
    rw [this]
    obtain ⟨h1, h2⟩ := sBf_at P hb k hk
    have h3 : (sB P).data.toList.getD k 0 = (sB P)[k]'h1 := by
      rw [List.getD_eq_getElem?_getD, List.getElem?_eq_getElem (by simpa using h1)]; rfl
    rw [h3, h2]
  · rw [Lib.bytesWorld_size]; omega
  · exact fun b h => Lib.bytesWorld_at_old w _ _ b h
theorem fileOf_nil (s : ByteArray) : fileOf (.map []) s = none := rfl
theorem fileOf_one_no {s t : ByteArray} (h : t ≠ s) (f : Nat) : fileOf (.map [(kl s, enc f)]) t = none := by
  rw [← put_nil, fileOf_put_other h]
  exact fileOf_nil t
theorem askF_yes {S : DSt} {s : ByteArray} (ho : okN s = true) (hd : S.dead = false) {f : Nat} (hf : fileOf S.names s = some f) : askF S s = (some f, 0) := by
  unfold askF
  rw [ho, hd, hf]
  rfl
theorem askF_no {S : DSt} {s : ByteArray} (ho : okN s = true) (hd : S.dead = false) (hf : fileOf S.names s = none) : askF S s = (none, 11) := by
  unfold askF
  rw [ho, hd, hf]
  rfl
theorem readF_yes {S : DSt} {s : ByteArray} (ho : okN s = true) (hd : S.dead = false) {f : Nat} (hf : fileOf S.names s = some f) (k m : Int) : readF S s k m = if k < 0 ∨ m < 0 then ([], 1) else (pieceL (S.fb f) k.toNat m.toNat, 0) := by
  unfold readF
  rw [askF_yes ho hd hf]
theorem readF_no {S : DSt} {s : ByteArray} (ho : okN s = true) (hd : S.dead = false) (hf : fileOf S.names s = none) (k m : Int) : readF S s k m = ([], 11) := by
  unfold readF
  rw [askF_no ho hd hf]
theorem sizeF_yes {S : DSt} {s : ByteArray} (ho : okN s = true) (hd : S.dead = false) {f : Nat} (hf : fileOf S.names s = some f) : sizeF S s = ((S.fb f).length, 0) := by
  unfold sizeF
  rw [askF_yes ho hd hf]
theorem sizeF_no {S : DSt} {s : ByteArray} (ho : okN s = true) (hd : S.dead = false) (hf : fileOf S.names s = none) : sizeF S s = (0, 11) := by
  unfold sizeF
  rw [askF_no ho hd hf]
theorem DiskAv.bd_lt {B : Nat} {w : World} {bd : Nat} {S : DSt} {A : Nat → Prop} (h : DiskAv B w bd S A) : bd < w.heap.size := by
  obtain ⟨ρ, vf, vt, bn, bl, V, hd, _⟩ := h
  exact hd.lt
theorem createS_fb (S : DSt) (s : ByteArray) (fn : Nat) : (createS S s fn).fb fn = [] := updN_same _ _ _
theorem appendS_fb (S : DSt) (f : Nat) (d : List Nat) : (appendS S f d).fb f = S.fb f ++ d := updN_same _ _ _
theorem pieceL_all (d : List Nat) (m : Nat) (h : d.length ≤ m) : pieceL d 0 m = d := by unfold pieceL; rw [List.drop_zero, List.take_of_length_le h]
end Go.Proofs.Ytelndbjjkhlacaa
