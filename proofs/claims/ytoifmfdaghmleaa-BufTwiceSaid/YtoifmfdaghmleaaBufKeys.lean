/-
  What a buffer holds, told by its size, its bytes and its ids; made rows of noughts.
-/
import Derived.Test.YtoifmfdaghmleaaBufAwake
set_option linter.unusedVariables false
namespace Go.Proofs.Ytoifmfdaghmleaa
open Go.RowKit Go.Lib Go.Sort Go.Shelf Go.Proofs.Ytoifmfdaghmleaa.Tx

structure KeyN (L : List BEnt) (m t : Nat) (p : Int → Prop) : Prop where
  len : L.length = m
  tot : totL L = t
  mem : ∀ x, x ∈ ksG L ↔ p x
theorem KeyN.nil : KeyN [] 0 0 (fun _ => False) := ⟨rfl, totL_nil, fun x => by unfold ksG; simp⟩
theorem mem_insAt {α : Type} (l : List α) (r : Nat) (x y : α) : y ∈ insAt l r x ↔ y = x ∨ y ∈ l := by
  constructor
  · exact mem_ins
  · intro h
    unfold insAt
    rcases h with rfl | h
    · simp
    · rw [← List.take_append_drop r l] at h
      rcases List.mem_append.1 h with h | h
      · exact List.mem_append.2 (.inl h)
      · exact List.mem_append.2 (.inr (List.mem_cons.2 (.inr h)))
theorem KeyN.put {L : List BEnt} {m t : Nat} {p : Int → Prop} (h : KeyN L m t p) {id : Int} (z : DocA) (hm : ¬ p id) : KeyN (putE ltI L id z) (m + 1) (t + z.2.1) (fun x => x = id ∨ p x) := by
  have hni : id ∉ ksG L := fun k => hm ((h.mem id).1 k)
  obtain ⟨h1, h2, h3⟩ := putE_out (lt := ltI) z hni
  refine ⟨by rw [h3, h.len], ?_, fun x => ?_⟩
  · have e : putE ltI L id z = insAt L (rk ltI (ksG L) id) (id, z) := if_neg hni
    rw [e, totL_ins, h.tot]
  · rw [h1, mem_insAt, h.mem]
theorem KeyN.congr {L : List BEnt} {m m' t t' : Nat} {p q : Int → Prop} (h : KeyN L m t p) (hm : m = m') (ht : t = t') (hq : ∀ x, p x ↔ q x) : KeyN L m' t' q := by
  subst hm ht
  exact ⟨h.len, h.tot, fun x => (h.mem x).trans (hq x)⟩
theorem KeyN.del {base : Nat} {dd : Int → List Nat} {W : World} {bp mp : Nat} {mv : Value} {L : List BEnt} {m t : Nat} {p : Int → Prop} (h : KeyN L m t p) (hb : BufS base dd W bp mp mv L) {id : Int} (hm : p id) : KeyN (delE ltI L id) (m - 1) (t - (dd id).length) (fun x => p x ∧ x ≠ id) := by
  have hi : id ∈ ksG L := (h.mem id).2 hm
  obtain ⟨h1, h2, h3⟩ := delE_in (lt := ltI) ordI hb.rise hi
  obtain ⟨hlt, hget⟩ := get_mem (none, 0, 0) hb.rise hi
  have hmem : L[rk ltI (ksG L) id] ∈ L := List.getElem_mem hlt
  have hd := (hb.docs _ hmem).1.1
  rw [hget] at hd
  have e : delE ltI L id = delAt L (rk ltI (ksG L) id) := if_pos hi
  have htd := totL_del L _ hlt
  rw [hget] at htd
  have := h.len
  have := h.tot
  refine ⟨by omega, by rw [e]; dsimp only at hd htd; omega, fun x => ?_⟩
  rw [h1]
  have hlk : rk ltI (ksG L) id < (ksG L).length := by rw [ksG_len]; exact hlt
  have hk : (ksG L)[rk ltI (ksG L) id] = id := ((rk_mem ordI hb.rise id).1 hi).2
  have hnd := rise_nodup ordI hb.rise
  have hsplit : ksG L = (ksG L).take (rk ltI (ksG L) id) ++ id :: (ksG L).drop (rk ltI (ksG L) id + 1) := by
    have := List.take_append_drop (rk ltI (ksG L) id) (ksG L)
    rw [List.drop_eq_getElem_cons hlk, hk] at this
    exact this.symm
  have hdm : ∀ y, y ∈ delAt (ksG L) (rk ltI (ksG L) id) ↔ y ∈ (ksG L).take (rk ltI (ksG L) id) ∨ y ∈ (ksG L).drop (rk ltI (ksG L) id + 1) := fun y => by unfold delAt; exact List.mem_append
  rw [hdm, ← h.mem]
  constructor
  · intro hx
    refine ⟨hx.elim List.mem_of_mem_take List.mem_of_mem_drop, fun e => ?_⟩
    subst e
    rw [hsplit] at hnd
    obtain ⟨_, hn2, hn3⟩ := List.nodup_append.1 hnd
    rcases hx with hx | hx
    · exact hn3 x hx x (by simp) rfl
    · exact (List.nodup_cons.1 hn2).1 hx
  · rintro ⟨hx, hne⟩
    rw [hsplit] at hx
    rcases List.mem_append.1 hx with hx | hx
    · exact .inl hx
    · rcases List.mem_cons.1 hx with hx | hx
      · exact absurd hx hne
      · exact .inr hx
theorem BufS.lower {base base' : Nat} {dd : Int → List Nat} {W : World} {bp mp : Nat} {mv : Value} {L : List BEnt} (h : BufS base dd W bp mp mv L) (hb : base' ≤ base) : BufS base' dd W bp mp mv L :=
  ⟨h.box, h.map, h.ne, h.docs, fun e he h0 => ⟨(h.far e he h0).1, Nat.le_trans hb (h.far e he h0).2⟩, ⟨Nat.le_trans hb h.low.1, Nat.le_trans hb h.low.2⟩⟩
theorem two_new {w w1 w2 : World} {da db : Int → List Nat} {ba ma bb mb : Nat} (h1 : BufS w.heap.size da w1 ba ma (.slice none 0 0) []) (hb1 : Below w.heap.size w w1) (h2 : BufS w1.heap.size db w2 bb mb (.slice none 0 0) []) (hb2 : Below w1.heap.size w1 w2) :
    TwoBuf w da db w2 ba ma (.slice none 0 0) [] bb mb (.slice none 0 0) [] :=
  ⟨h1.kept hb2, h2.lower hb1.size, fun x hx hy => by have := h1.lt x hx; have := h2.ge x hy; omega, below_next hb1 hb2 hb1.size⟩
theorem make_u85 (N : Nat) (h : N ≤ 1000000) : ∀ W : World, (Instr.makeSlice 26 (.int .i64 (N : Int)) (.int .i64 (N : Int))).run Try.prog W = .ok (.slice (some ⟨W.heap.size, 0, none⟩) N N) (W.alloc (.cells (madeCells #[.int .u8 0] N) 5)) := by
  intro W
  obtain ⟨i0, hi, hz0, hz1, hz2⟩ := info_parts info_u8
  have := run_make (P := Try.prog) W 26 5 i0 _ Try.underlying26 hi hz0 .i64 .i64 N N (by omega) (by omega) (by rw [hz2]; omega) (by omega)
  rw [hz1] at this
  simpa [Value.cells] using this
theorem row_made (W : World) (N : Nat) : Row (W.alloc (.cells (madeCells #[.int .u8 0] N) 5)) (some ⟨W.heap.size, 0, none⟩) N (byteV (List.replicate N 0)) :=
  ⟨.inr rfl, fun k hk => by
    have := (World.rowIs_made W (.int .u8 0) N 5).cell hk
    simp only [bOf, oOf, Option.map_some, Option.getD_some, Nat.zero_add]
    rw [this]
    simp [byteV, List.getD_eq_getElem?_getD, hk]⟩
end Go.Proofs.Ytoifmfdaghmleaa
