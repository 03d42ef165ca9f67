/-
  Documents that a call makes itself: a row of its own, of rows that lie in other memory.
-/
import Derived.Test.YtjpoebmjfedecaaGreatBwtStep
import Derived.Test.YtjpoebmjfedecaaGreatBwtOf
namespace Go.Proofs.YtjpoebmjfedecaaGreat
open Go.RowKit

/-- documents in the making -/
structure DocsOwn (w : World) (es : List (List Nat)) (A : Nat → Option Addr) (v : Value) (wr : World) : Prop where
  own : wr.ownsRow w.heap.size 24 1 v es.length ((List.range es.length).map (docV es A (fun j => (es.getD j []).length)))
  each : ∀ j, j < es.length → Row wr (A j) (es.getD j []).length (byteV (es.getD j []))
  apart : ∀ j, j < es.length → (es.getD j []).length = 0 ∨ v.ownBlock ≠ some (bOf (A j))
  bel : Below w.heap.size w wr
theorem DocsOwn.nil (w : World) (A : Nat → Option Addr) : DocsOwn w [] A (.slice none 0 0) w :=
  ⟨World.ownsRow_nil _ _ _ _, fun j hj => by simp at hj, fun j hj => by simp at hj, Below.refl _ _⟩
theorem DocsOwn.kept {w : World} {es : List (List Nat)} {A : Nat → Option Addr} {v : Value} {wr w' : World} (h : DocsOwn w es A v wr) (hb : Below wr.heap.size wr w') : DocsOwn w es A v w' :=
  ⟨owns_below h.own hb, fun j hj => (h.each j hj).kept hb, h.apart, below_next h.bel hb h.bel.size⟩
theorem getD_snoc (es : List (List Nat)) (d : List Nat) (j : Nat) (h : j < es.length) : (es ++ [d]).getD j [] = es.getD j [] := getD_append es [d] j h
theorem getD_snoc_last (es : List (List Nat)) (d : List Nat) : (es ++ [d]).getD es.length [] = d := by simp
/-- a document more, whose memory is newer than all that was there -/
theorem DocsOwn.more {w : World} {es : List (List Nat)} {A : Nat → Option Addr} {v : Value} {w0 wr w1 : World} (h : DocsOwn w es A v w0) (hb : Below w0.heap.size w0 wr) (d : List Nat) (a' : Option Addr)
    (hr : Row wr a' d.length (byteV d)) (hlow : d.length = 0 ∨ w0.heap.size ≤ bOf a') {tmp : Obj} {v' : Value}
    (hown : w1.ownsRow w.heap.size 24 1 v' (es.length + 1) ((List.range es.length).map (docV es A (fun j => (es.getD j []).length)) ++ [.slice a' d.length d.length]))
    (hgrow : (wr.alloc tmp).grownBy w1 v.ownBlock) (hat : v'.ownBlock = v.ownBlock ∨ v'.ownBlock = some (wr.alloc tmp).heap.size) :
    DocsOwn w (es ++ [d]) (upd A es.length a') v' w1 := by
  have hk := h.kept hb
  have hvlt := h.own.lt
  have hsz := hb.size
  have hbs := h.bel.size
  have key : ∀ j, j < es.length + 1 → Row (wr.alloc tmp) (upd A es.length a' j) ((es ++ [d]).getD j []).length (byteV ((es ++ [d]).getD j [])) ∧ (((es ++ [d]).getD j []).length = 0 ∨ (v.ownBlock ≠ some (bOf (upd A es.length a' j)) ∧ bOf (upd A es.length a' j) < wr.heap.size)) := by
    intro j hj
    by_cases e : j = es.length
    · subst e
      rw [upd_self, getD_snoc_last]
      refine ⟨row_alloc hr _, ?_⟩
      rcases hlow with h0 | h0
      · exact .inl h0
      · rcases Nat.eq_zero_or_pos d.length with c | c
        · exact .inl c
        · refine .inr ⟨fun e => ?_, hr.lt c⟩
          have := (hvlt _ e).2
          omega
    · rw [upd_ne _ _ _ e, getD_snoc es d j (by omega)]
      refine ⟨row_alloc (hk.each j (by omega)) _, ?_⟩
      rcases hk.apart j (by omega) with c | c
      · exact .inl c
      · rcases Nat.eq_zero_or_pos (es.getD j []).length with c2 | c2
        · exact .inl c2
        · exact .inr ⟨c, (hk.each j (by omega)).lt c2⟩
  have hlen : (es ++ [d]).length = es.length + 1 := by simp
  refine ⟨?_, fun j hj => ?_, fun j hj => ?_, ?_⟩
  · rw [hlen, List.range_succ, List.map_append]
    have e1 : (List.range es.length).map (docV (es ++ [d]) (upd A es.length a') (fun j => ((es ++ [d]).getD j []).length)) = (List.range es.length).map (docV es A (fun j => (es.getD j []).length)) := by
      refine List.map_congr_left fun j hj => ?_
      have hj := List.mem_range.1 hj
      show Value.slice _ _ ((es ++ [d]).getD j []).length = Value.slice _ _ (es.getD j []).length
      rw [upd_ne _ _ _ (by omega), getD_snoc es d j hj]
    have e2 : [es.length].map (docV (es ++ [d]) (upd A es.length a') (fun j => ((es ++ [d]).getD j []).length)) = [.slice a' d.length d.length] := by
      simp only [List.map_cons, List.map_nil]
      show [Value.slice _ _ ((es ++ [d]).getD es.length []).length] = _
      rw [upd_self, getD_snoc_last]
    rw [e1, e2]
    exact hown
  · rw [hlen] at hj
    obtain ⟨k1, k2⟩ := key j hj
    refine k1.gb hgrow ?_
    rcases k2 with c | ⟨c, _⟩
    · exact .inl c
    · exact .inr (fun e => c e.symm)
  · rw [hlen] at hj
    obtain ⟨_, k2⟩ := key j hj
    rcases k2 with c | ⟨c, c2⟩
    · exact .inl c
    · refine .inr ?_
      rcases hat with h1 | h1
      · rw [h1]; exact c
      · rw [h1, World.size_alloc]
        intro e
        injection e with e
        omega
  · have hal : Below w.heap.size w (wr.alloc tmp) := hk.bel.alloc (by omega) tmp
    exact hal.grown hgrow (by simp; omega) (fun g hg => (hvlt g hg).1)
theorem DocsOwn.docs {w : World} {es : List (List Nat)} {A : Nat → Option Addr} {v : Value} {wr : World} (h : DocsOwn w es A v wr) :
    ∃ a cap, v = .slice a es.length cap ∧ es.length ≤ cap ∧ (a = none → cap = 0) ∧ DocsAt wr a A (fun j => (es.getD j []).length) es := by
  obtain ⟨a, cap, hv, hc, h0, hr, _⟩ := owns_clip h.own
  refine ⟨a, cap, hv, hc, h0, ⟨hr.congr fun k hk => ?_, h.each⟩⟩
  rw [List.getD_eq_getElem?_getD, List.getElem?_map, List.getElem?_range hk]; rfl
end Go.Proofs.YtjpoebmjfedecaaGreat
