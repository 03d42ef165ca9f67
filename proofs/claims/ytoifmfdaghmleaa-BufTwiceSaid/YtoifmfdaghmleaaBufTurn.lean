/-
  How a buffer stands behind a document put, and behind one taken away.
-/
import Derived.Test.YtoifmfdaghmleaaBufSt
set_option linter.unusedVariables false
namespace Go.Proofs.Ytoifmfdaghmleaa
open Go.RowKit Go.Lib Go.Sort Go.Shelf Go.Proofs.Ytoifmfdaghmleaa.Tx

section
variable {base : Nat} {dd : Int → List Nat} {W W' : World} {bp mp : Nat} {mv : Value} {L : List BEnt}
theorem box_set {W : World} {bp : Nat} {u v v' : Value} {t : TypeId} (h : W.heap[bp]? = some (.cells #[u, v] t (0, 0))) : (W.setCell ⟨bp, 1, none⟩ v').heap[bp]? = some (.cells #[u, v'] t (0, 0)) := by
  simp [World.setCell, Array.getElem?_modify, h]
theorem box_cell {W : World} {bp : Nat} {u v : Value} {t : TypeId} (h : W.heap[bp]? = some (.cells #[u, v] t (0, 0))) : W.cell? ⟨bp, 1, none⟩ = some v ∧ W.frozen? ⟨bp, 1, none⟩ = false := by
  constructor
  · simp [World.cell?, h]
  · simp [World.frozen?, h]
theorem BufS.fr (h : BufS base dd W bp mp mv L) : W.frozen? ⟨bp, 1, none⟩ = false := (box_cell h.box).2
theorem BufTurn.older {w : World} {L' : List BEnt} (hb : Below w.heap.size w W) (h : BufTurn base dd W bp mp mv L L' W') : BufTurn base dd w bp mp mv L L' W' := by
  obtain ⟨v', h1, st, h2⟩ := h
  exact ⟨v', h1, (StepX.of_below hb).trans st, fun b hx => (h2 b hx).imp (fun k => k) (fun k => by have := hb.size; omega)⟩
theorem turn_add {w2 w3 w4 : World} {id : Int} {n : Nat} {ad : Option Addr} {v4 : Value} (h : BufS base dd w2 bp mp mv L) (hb0 : base ≤ w2.heap.size) (hm : id ∉ ksG L) (hr : Row w3 ad n (byteV (dd id))) (hnd : n = (dd id).length) (hb3 : Below w2.heap.size w2 w3) (hl : n = 0 ∨ w2.heap.size ≤ bOf ad)
    (hm4 : MapI w4 mp v4 (mput ltI (ents vS L) id (.slice ad n n))) (st4 : StepX (SetB mp mv) w3 w4) (hv4 : ∀ g, v4.ownBlock = some g → SetB mp mv g ∨ w3.heap.size ≤ g) :
    w4.heap[bp]? = some (.cells #[.pointer (some ⟨mp, 0, none⟩), .int .i64 ((totL L : Nat) : Int)] 80 (0, 0)) ∧ BufTurn base dd w2 bp mp mv L (putE ltI L id (ad, n, n)) (w4.setCell ⟨bp, 1, none⟩ (.int .i64 ((totL L : Int) + (n : Int)))) := by
  have hsz3 := hb3.size
  have hsz4 := st4.size
  have hbp := h.setF_lt bp (.inl rfl)
  have hmp := h.setF_lt mp (.inr (.inl rfl))
  have hnb : ¬ SetB mp mv bp := fun k => k.elim h.ne.1 (fun e => h.ne.2 e)
  have hbx3 : w3.heap[bp]? = some (.cells #[.pointer (some ⟨mp, 0, none⟩), .int .i64 ((totL L : Nat) : Int)] 80 (0, 0)) := (hb3.block bp hbp).trans h.box
  have hbx4 := (st4.block bp (by omega) hnb).trans hbx3
  have hlt : ∀ b, SetF bp mp mv b → b < w2.heap.size := h.setF_lt
  have hv4' : ∀ g, v4.ownBlock = some g → SetB mp mv g ∨ w3.heap.size ≤ g := hv4
  have hne4 : v4.ownBlock ≠ some bp := fun e => (hv4 bp e).elim hnb (fun k => by omega)
  obtain ⟨z, hz⟩ : ∃ z : DocA, z = (ad, n, n) := ⟨_, rfl⟩
  have hput : putE ltI L id z = insAt L (rk ltI (ksG L) id) (id, z) := if_neg hm
  have hmp4 : MapI w4 mp v4 (ents vS (putE ltI L id z)) := by
    rw [← mput_ents ltI vS L id z, hz]; exact hm4
  have htot : totL (putE ltI L id z) = totL L + n := by rw [hput, totL_ins, hz]
  have stc : ∀ v, StepX (fun b => b = bp) w4 (w4.setCell ⟨bp, 1, none⟩ v) := fun v => StepX.setCell w4 ⟨bp, 1, none⟩ v rfl
  have hset : ∀ b, SetF bp mp v4 b → SetF bp mp mv b ∨ w3.heap.size ≤ b := by
    rintro b (k | k | k)
    · exact .inl (.inl k)
    · exact .inl (.inr (.inl k))
    · exact (hv4 b k).imp (fun k => .inr k) (fun k => k)
  have hmem : ∀ e ∈ putE ltI L id z, e = (id, z) ∨ e ∈ L := fun e he => by rw [hput] at he; exact mem_ins he
  have hfar : ∀ e ∈ putE ltI L id z, 0 < e.2.2.1 → ¬ SetF bp mp v4 (bOf e.2.1) ∧ base ≤ bOf e.2.1 := by
    intro e he h0
    rcases hmem e he with rfl | he'
    · have h0' : 0 < n := by rw [hz] at h0; exact h0
      have hlow := hl.resolve_left (by omega)
      have hhi := hr.lt h0'
      rw [hz]
      refine ⟨fun k => ?_, by show base ≤ bOf ad; omega⟩
      rcases hset _ k with k | k
      · have := hlt _ k; change bOf ad < _ at this; omega
      · change _ ≤ bOf ad at k; omega
    · obtain ⟨h1, h2⟩ := h.far e he' h0
      refine ⟨fun k => ?_, h2⟩
      have hhi := h.lt (bOf e.2.1) (.inr ⟨e, he', h0, rfl⟩)
      rcases hset _ k with k | k
      · exact h1 k
      · omega
  rw [← hz]
  refine ⟨hbx4, v4, ⟨?_, hmp4.step (stc _) (fun b hb k => ?_), ⟨h.ne.1, hne4⟩, ?_, hfar, h.low⟩, ?_, ?_⟩
  · rw [htot, show ((totL L + n : Nat) : Int) = (totL L : Int) + (n : Int) by omega]
    exact box_set hbx4
  · subst k
    rcases hb with k | k
    · exact h.ne.1 k
    · exact hne4 k
  · intro e he
    rcases hmem e he with rfl | he'
    · rw [hz]
      refine ⟨⟨hnd, rfl⟩, ?_⟩
      show Row _ ad (dd id).length _
      rw [← hnd]
      rcases Nat.eq_zero_or_pos n with h0 | h0
      · rw [h0] at hr ⊢
        exact row_stepX (row_stepX hr st4 (.inl rfl)) (stc _) (.inl rfl)
      · have hlow := hl.resolve_left (by omega)
        exact row_stepX (row_stepX hr st4 (.inr (fun k => by have := hlt _ (.inr k); omega))) (stc _) (.inr (fun k => by omega))
    · obtain ⟨h1, h2⟩ := h.docs e he'
      refine ⟨h1, ?_⟩
      rcases Nat.eq_zero_or_pos e.2.2.1 with h0 | h0
      · rw [← h1.1, h0] at h2 ⊢
        exact row_stepX (row_stepX (h2.kept hb3) st4 (.inl rfl)) (stc _) (.inl rfl)
      · obtain ⟨h3, -⟩ := h.far e he' h0
        exact row_stepX (row_stepX (h2.kept hb3) st4 (.inr (fun k => h3 (.inr k)))) (stc _) (.inr (fun k => h3 (.inl k)))
  · exact ((StepX.of_below hb3).trans (st4.mono (fun b _ k => .inr k))).trans ((stc _).mono (fun b _ k => .inl k))
  · rintro b (k | ⟨e, he, h0, rfl⟩)
    · exact (hset b k).imp (fun k => .inl k) (fun k => by omega)
    · rcases hmem e he with rfl | he'
      · rw [hz] at h0 ⊢
        exact .inr (hl.resolve_left (by change 0 < n at h0; omega))
      · exact .inl (.inr ⟨e, he', h0, rfl⟩)
theorem turn_del {w1 w3 : World} {id : Int} {v3 : Value} (h : BufS base dd w1 bp mp mv L) {t : Int} (ht : t = (totL (delE ltI L id) : Int))
    (hm3 : MapI w3 mp v3 (mdel ltI (ents vS L) id)) (st3 : StepX (SetB mp mv) (w1.setCell ⟨bp, 1, none⟩ (.int .i64 t)) w3) (hv3 : ∀ g, v3.ownBlock = some g → SetB mp mv g ∨ (w1.setCell ⟨bp, 1, none⟩ (.int .i64 t)).heap.size ≤ g) :
    BufTurn base dd w1 bp mp mv L (delE ltI L id) w3 := by
  have hsz : (w1.setCell ⟨bp, 1, none⟩ (.int .i64 t)).heap.size = w1.heap.size := by simp [World.setCell]
  rw [hsz] at hv3
  have hbp := h.setF_lt bp (.inl rfl)
  have hnb : ¬ SetB mp mv bp := fun k => k.elim h.ne.1 (fun e => h.ne.2 e)
  have hbx2 : (w1.setCell ⟨bp, 1, none⟩ (.int .i64 t)).heap[bp]? = _ := box_set h.box
  have hbx3 := (st3.block bp (by omega) hnb).trans hbx2
  have hne3 : v3.ownBlock ≠ some bp := fun e => (hv3 bp e).elim hnb (fun k => by omega)
  have hmem : ∀ e ∈ delE ltI L id, e ∈ L := fun e he => by
    unfold delE at he
    split at he
    · exact mem_del he
    · exact he
  have hset : ∀ b, SetF bp mp v3 b → SetF bp mp mv b ∨ w1.heap.size ≤ b := by
    rintro b (k | k | k)
    · exact .inl (.inl k)
    · exact .inl (.inr (.inl k))
    · exact (hv3 b k).imp (fun k => .inr k) (fun k => k)
  have stc : StepX (fun b => b = bp) w1 (w1.setCell ⟨bp, 1, none⟩ (.int .i64 t)) := StepX.setCell w1 ⟨bp, 1, none⟩ _ rfl
  refine ⟨v3, ⟨?_, by rw [← mdel_ents]; exact hm3, ⟨h.ne.1, hne3⟩, ?_, ?_, h.low⟩, ?_, ?_⟩
  · rw [← ht]; exact hbx3
  · intro e he
    obtain ⟨h1, h2⟩ := h.docs e (hmem e he)
    refine ⟨h1, ?_⟩
    rcases Nat.eq_zero_or_pos e.2.2.1 with h0 | h0
    · rw [← h1.1, h0] at h2 ⊢
      exact row_stepX (row_stepX h2 stc (.inl rfl)) st3 (.inl rfl)
    · obtain ⟨h3, -⟩ := h.far e (hmem e he) h0
      exact row_stepX (row_stepX h2 stc (.inr (fun k => h3 (.inl k)))) st3 (.inr (fun k => h3 (.inr k)))
  · intro e he h0
    obtain ⟨h1, h2⟩ := h.far e (hmem e he) h0
    refine ⟨fun k => ?_, h2⟩
    have hhi := h.lt (bOf e.2.1) (.inr ⟨e, hmem e he, h0, rfl⟩)
    rcases hset _ k with k | k
    · exact h1 k
    · omega
  · exact (stc.mono (fun b _ k => .inl k)).trans (st3.mono (fun b _ k => .inr k))
  · rintro b (k | ⟨e, he, h0, rfl⟩)
    · exact (hset b k).imp (fun k => .inl k) (fun k => k)
    · exact .inl (.inr ⟨e, hmem e he, h0, rfl⟩)
end
end Go.Proofs.Ytoifmfdaghmleaa
