/-
  concordanceref23.take: a piece of a line goes into a command, as the document reads it.
-/
import Derived.Test.YtdcobmoeligdkaaGreatDoorCmRParse
import Derived.Test.YtdcobmoeligdkaaGreatDoorCmRNum
import Derived.Test.YtdcobmoeligdkaaGreatDoorCmPut
namespace Go.Proofs.YtdcobmoeligdkaaGreatDoor
open Go.RowKit Go.Shelf

theorem unqR_take : ∀ (n : Nat) (l : List UInt8), l.length = n → ∀ p, unqR l = some p → unqR (l.take p.2) = some p := by
  intro n
  induction n using Nat.strongRecOn with
  | _ n ih =>
    intro l hl p hp
    cases l with
    | nil => rw [unqR_nil] at hp; cases hp
    | cons c r =>
      rw [unqR_cons] at hp
      by_cases h1 : c.toNat = 34
      · rw [if_pos h1] at hp; cases hp
        show unqR (c :: r.take 0) = _
        rw [unqR_cons, if_pos h1]
      rw [if_neg h1] at hp
      by_cases h2 : plainB c = true
      · rw [if_pos h2] at hp
        obtain ⟨q, hq, rfl⟩ := Option.map_eq_some_iff.1 hp
        have := ih r.length (by simp at hl; omega) r rfl q hq
        show unqR (c :: r.take q.2) = _
        rw [unqR_cons, if_neg h1, if_pos h2, this]; rfl
      rw [if_neg h2] at hp
      by_cases h3 : c.toNat ≠ 92
      · rw [if_pos h3] at hp; cases hp
      rw [if_neg h3] at hp
      rcases r with _ | ⟨x, _ | ⟨y, t⟩⟩
      · cases hp
      · cases hp
      rw [unqH] at hp
      by_cases h4 : hexI x < 0 ∨ hexI y < 0 ∨ plainB (hexB x y) = true
      · rw [if_pos h4] at hp; cases hp
      rw [if_neg h4] at hp
      obtain ⟨q, hq, rfl⟩ := Option.map_eq_some_iff.1 hp
      have := ih t.length (by simp at hl; omega) t rfl q hq
      show unqR (c :: x :: y :: t.take q.2) = _
      rw [unqR_cons, if_neg h1, if_neg h2, if_neg h3, unqH, if_neg h4, this]; rfl
theorem unq_take {l : List UInt8} {p : List UInt8 × Nat} (h : unq l = some p) : unq (l.take p.2) = some p := by
  cases l with
  | nil => cases h
  | cons c r =>
    simp only [unq] at h
    split at h
    · rename_i h1
      obtain ⟨q, hq, rfl⟩ := Option.map_eq_some_iff.1 h
      have := unqR_take _ r rfl q hq
      show unq (c :: r.take q.2) = _
      rw [unq, if_pos h1, this]; rfl
    · cases h
/-- what stands for one sign of a form -/
def stepT (c : UInt8) (st : PCmd) (r : List UInt8) : Option (PCmd × Nat) :=
  if c.toNat = 116 then
    match unq r with
    | some (b, n) => if b.length ≤ mostT st.kind then some ({ st with text := b }, n) else none
    | none => none
  else if c.toNat = 113 then (qpS r).map fun q => ({ st with q := q }, r.length)
  else if lead 10 r = 0 ∨ 9 < lead 10 r ∨ (lead 10 r ≠ 1 ∧ r.head? = some 48) then none else some (putN st (valD (r.take (lead 10 r))), lead 10 r)
theorem numOk_iff (r : List UInt8) : numOk r ↔ ¬ (lead 10 r = 0 ∨ 9 < lead 10 r ∨ (lead 10 r ≠ 1 ∧ r.head? = some 48)) := by
  unfold numOk
  constructor
  · rintro ⟨h1, h2, h3⟩ (h | h | ⟨h4, h5⟩)
    · omega
    · omega
    · exact (h3.resolve_left h4) h5
  · intro h
    refine ⟨?_, ?_, ?_⟩
    · rcases Nat.eq_zero_or_pos (lead 10 r) with e | e
      · exact absurd (.inl e) h
      · exact e
    · rcases Nat.lt_or_ge 9 (lead 10 r) with e | e
      · exact absurd (.inr (.inl e)) h
      · exact e
    · by_cases e : lead 10 r = 1
      · exact .inl e
      · exact .inr (fun e2 => h (.inr (.inr ⟨e, e2⟩)))
theorem step_eq (c : UInt8) (cs : List UInt8) (st : PCmd) (r : List UInt8) (hc : c = 116 ∨ c = 110 ∨ c = 113) : runS (c :: cs) (32 :: r) st = (stepT c st r).bind fun p => runS cs (r.drop p.2) p.1 := by
  rcases hc with rfl | rfl | rfl
  · rw [run_piece, piece_t, putS_t]
    unfold stepT
    rw [if_pos (show (116 : UInt8).toNat = 116 from by decide)]
    rcases h : unq r with _ | ⟨b, n⟩
    · simp only [Option.map_none, Option.getD_none, List.take_zero]
      rfl
    · simp only [Option.map_some, Option.getD_some]
      have ht := unq_take h
      simp only at ht
      rw [ht]
      simp only
      split <;> rfl
  · unfold stepT
    rw [if_neg (show ¬ (110 : UInt8).toNat = 116 from by decide), if_neg (show ¬ (110 : UInt8).toNat = 113 from by decide)]
    by_cases h : numOk r
    · rw [step_num cs r st h, if_neg ((numOk_iff r).1 h)]; rfl
    · rw [step_nonum cs r st h, if_pos (Classical.not_not.1 (fun h' => h ((numOk_iff r).2 h')))]; rfl
  · rw [run_q]
    unfold stepT
    rw [if_neg (show ¬ (113 : UInt8).toNat = 116 from by decide), if_pos (show (113 : UInt8).toNat = 113 from by decide)]
    cases qpS r with
    | none => rfl
    | some q => show runS cs [] _ = runS cs (r.drop r.length) _; rw [List.drop_length]
/-- a text: its bytes in a row from a block on -/
def TxtOk (base : Nat) (W : World) (v : Value) (l : List UInt8) : Prop := ∃ a c, v = .slice a l.length c ∧ Row W a l.length (bV l) ∧ (l.length = 0 ∨ base ≤ bOf a)
theorem TxtOk.setCell {base : Nat} {W : World} {v : Value} {l : List UInt8} (h : TxtOk base W v l) (p : Addr) (hp : p.block < base) (u : Value) : TxtOk base (W.setCell p u) v l := by
  obtain ⟨a, c, h1, h2, h3⟩ := h
  refine ⟨a, c, h1, ⟨h2.at_, fun k hk => ?_⟩, h3⟩
  have hne : bOf a ≠ p.block := by rcases h3 with h3 | h3 <;> omega
  exact (World.cell?_of_block (a := ⟨bOf a, oOf a + k, none⟩) (Below.heap_setCell W p u _ hne)).trans (h2.cell k hk)
def TakeP (w : World) (cB : Nat) (c : UInt8) (st : PCmd) (r : List UInt8) (v q1 q2 q3 : Value) (e : Ending) (w' : World) : Prop :=
  ∃ (x : Int) (ok : Bool), e = .returned (.tuple #[.int .i64 x, .bool ok]) ∧ StepX (fun b => b = cB) w w' ∧ (ok = false → stepT c st r = none) ∧ (0 ≤ x ∧ x ≤ (r.length : Int)) ∧
    (ok = true → ∃ st' n v' q1' q2' q3', stepT c st r = some (st', n) ∧ x = (n : Int) ∧ CmdAt w' cB st' v' q1' q2' q3' ∧ ((v' = v ∧ st'.text = st.text) ∨ TxtOk w.heap.size w' v' st'.text) ∧ ((q1' = q1 ∧ q2' = q2 ∧ q3' = q3 ∧ st'.q = st.q) ∨ QAt w' (fun b => w.heap.size ≤ b) st'.q q1' q2' q3'))
set_option maxRecDepth 100000 in
set_option maxHeartbeats 2000000 in
theorem take_t (w : World) (cB : Nat) (st : PCmd) (v q1 q2 q3 : Value) (hc : CmdAt w cB st v q1 q2 q3) (r : List UInt8) (hs : r.length ≤ 100000) (at_ : Int) :
    Calls Tryz.prog 40 #[.pointer (some ⟨cB, 0, none⟩), .int .u8 84, .int .i64 at_, .string (uS r)] w (TakeP w cB 116 st r v q1 q2 q3) := by
  have hp : stepT 116 st r = match unq r with
    | some (b, n) => if b.length ≤ mostT st.kind then some ({ st with text := b }, n) else none
    | none => none := by
    unfold stepT
    rw [if_pos (show (116 : UInt8).toNat = 116 from by decide)]
  have HU := Lib.hid (runquote_any w r hs)
  have HC := Lib.hid hc
  have HP := Lib.hid hp
  clear hp hc
  go_enter Tryz.func40, Tryz.ntmps40
  go_wp2_with fail
  refine HU.out.mono ?_
  rintro e w1 ⟨hb1, hcase⟩
  have hform : ∃ (b : List UInt8) (x : Nat) (okb : Bool), e = .returned (.tuple #[.string (uS b), .int .i64 (x : Int), .bool okb]) ∧ b.length ≤ 100000 ∧ x ≤ r.length ∧ (okb = false → unq r = none) ∧ (okb = true → unq r = some (b, x)) := by
    rcases hcase with ⟨h1, he⟩ | ⟨b, n, h1, he⟩
    · exact ⟨[], 0, false, he, by simp, by omega, fun _ => h1, fun h => Bool.noConfusion h⟩
    · have h2 := unq_len h1
      simp only at h2
      exact ⟨b, n, true, he, by omega, by omega, fun h => Bool.noConfusion h, fun _ => h1⟩
  obtain ⟨b, x, okb, rfl, hbl, hxl, hno, hyes⟩ := hform
  obtain ⟨cv, w2, hcv, hrow, hb2, hs2⟩ := strB w1 b
  have hc2 : CmdAt w2 cB st v q1 q2 q3 := (HC.out.kept hb1).kept hb2
  have hcl : cB < w.heap.size := HC.out.lt
  have y0 : w2.cell? ⟨cB, 1, none⟩ = some v := hc2.cell 1
  have y1 := hc2.frozen 1
  have hc3 : CmdAt (w2.setCell ⟨cB, 1, none⟩ (.slice (some ⟨w1.heap.size, 0, none⟩) b.length cv)) cB { st with text := b } (.slice (some ⟨w1.heap.size, 0, none⟩) b.length cv) q1 q2 q3 := hc2.text _ _
  have HX : Hid (StepX (fun b => b = cB) w (w2.setCell ⟨cB, 1, none⟩ (.slice (some ⟨w1.heap.size, 0, none⟩) b.length cv))) := (StepX.of_below (below_next hb1 hb2 hb1.size)).trans (StepX.setCell _ _ _ rfl)
  have HT : Hid (TxtOk w.heap.size (w2.setCell ⟨cB, 1, none⟩ (.slice (some ⟨w1.heap.size, 0, none⟩) b.length cv)) (.slice (some ⟨w1.heap.size, 0, none⟩) b.length cv) b) :=
    TxtOk.setCell ⟨some ⟨w1.heap.size, 0, none⟩, cv, rfl, hrow, .inr hb1.size⟩ ⟨cB, 1, none⟩ hcl _
  have z0 : (w2.setCell ⟨cB, 1, none⟩ (.slice (some ⟨w1.heap.size, 0, none⟩) b.length cv)).cell? ⟨cB, 0, none⟩ = some (.int .i64 (st.kind : Int)) := hc3.cell 0
  have HC3 := Lib.hid hc3
  have hsb := uS_size b
  have HY : Hid (∀ ok : Bool, (ok = true ↔ (okb = true ∧ b.length ≤ mostT st.kind)) → TakeP w cB 116 st r v q1 q2 q3 (.returned (.tuple #[.int .i64 (x : Int), .bool ok])) (w2.setCell ⟨cB, 1, none⟩ (.slice (some ⟨w1.heap.size, 0, none⟩) b.length cv))) := fun ok hok => by
    refine ⟨x, ok, rfl, HX.out, fun h => ?_, ⟨by omega, by omega⟩, fun h => ?_⟩
    · cases okb with
      | false => rw [HP.out, hno rfl]
      | true =>
        rw [HP.out, hyes rfl]
        simp only
        rw [if_neg]
        intro hle
        rw [h] at hok
        exact Bool.noConfusion (hok.2 ⟨rfl, hle⟩)
    · obtain ⟨h1, h2⟩ := hok.1 h
      refine ⟨{ st with text := b }, x, _, q1, q2, q3, ?_, rfl, HC3.out, .inr HT.out, .inl ⟨rfl, rfl, rfl, rfl⟩⟩
      rw [HP.out, hyes h1]
      simp only
      rw [if_pos h2]
  clear hcase hno hyes hb1 hb2 hc2 hc3 hrow
  cases okb with
  | false =>
    have HY2 := Lib.hid (HY.out false ⟨fun h => Bool.noConfusion h, fun h => Bool.noConfusion h.1⟩)
    clear HY
    go_wp2
    go_ret2
    exact HY2.out
  | true =>
    by_cases h2000 : b.length ≤ 2000
    · by_cases hk : st.kind = 1
      · have hm : mostT st.kind = 2000 := if_pos hk
        rw [hm] at HY
        have hkb : ((st.kind : Int) == 1) = true := by rw [hk]; rfl
        have HY2 := Lib.hid (HY.out true ⟨fun _ => ⟨rfl, h2000⟩, fun _ => rfl⟩)
        clear HY hk hm
        go_wp2
        go_ret2
        exact HY2.out
      · have hm : mostT st.kind = 200 := if_neg hk
        rw [hm] at HY
        have hkb : ((st.kind : Int) == 1) = false := by rw [beq_eq_false_iff_ne]; omega
        by_cases h200 : b.length ≤ 200
        · have HY2 := Lib.hid (HY.out true ⟨fun _ => ⟨rfl, h200⟩, fun _ => rfl⟩)
          have hdd : decide (((b.length : Nat) : Int) ≤ 200) = true := decide_eq_true (by omega)
          clear HY hk hm
          go_wp2
          go_ret2
          first | exact HY2.out | (rw [hdd]; exact HY2.out)
        · have HY2 := Lib.hid (HY.out false ⟨fun h => Bool.noConfusion h, fun h => absurd h.2 h200⟩)
          have hdd : decide (((b.length : Nat) : Int) ≤ 200) = false := decide_eq_false (by omega)
          clear HY hk hm
          go_wp2
          go_ret2
          first | exact HY2.out | (rw [hdd]; exact HY2.out)
    · have hm : ¬ b.length ≤ mostT st.kind := by
        intro h
        have : mostT st.kind ≤ 2000 := by unfold mostT; split <;> omega
        omega
      have HY2 := Lib.hid (HY.out false ⟨fun h => Bool.noConfusion h, fun h => absurd h.2 hm⟩)
      clear HY hm
      go_wp2
      go_ret2
      exact HY2.out
set_option maxRecDepth 100000 in
set_option maxHeartbeats 2000000 in
theorem take_n0 (w : World) (cB : Nat) (st : PCmd) (v q1 q2 q3 : Value) (hc : CmdAt w cB st v q1 q2 q3) (r : List UInt8) (hs : r.length ≤ 100000) (hk : st.cnt = 0) :
    Calls Tryz.prog 40 #[.pointer (some ⟨cB, 0, none⟩), .int .u8 110, .int .i64 (st.cnt : Int), .string (uS r)] w (TakeP w cB 110 st r v q1 q2 q3) := by
  have hp : stepT 110 st r = if lead 10 r = 0 ∨ 9 < lead 10 r ∨ (lead 10 r ≠ 1 ∧ r.head? = some 48) then none else some (putN st (valD (r.take (lead 10 r))), lead 10 r) := by
    unfold stepT
    rw [if_neg (show ¬ (110 : UInt8).toNat = 116 from by decide), if_neg (show ¬ (110 : UInt8).toNat = 113 from by decide)]
  have HNU := Lib.hid (rnumber_any w r hs)
  have HC := Lib.hid hc
  have HP := Lib.hid hp
  have HLE := Lib.hid (lead_le 10 r)
  have HOK := Lib.hid (numOk_iff r)
  have ekk : ((st.cnt : Nat) : Int) = 0 := by rw [hk]; rfl
  rw [ekk]
  clear hp hc ekk
  go_enter Tryz.func40, Tryz.ntmps40
  go_wp2_with fail
  refine HNU.out.mono ?_
  rintro e w1 ⟨⟨bn, rfl, hbn⟩, hb1⟩
  have hc1 : CmdAt w1 cB st v q1 q2 q3 := HC.out.kept hb1
  have y0 := hc1.cell 2
  have y1 := hc1.frozen 2
  have HY : Hid (TakeP w cB 110 st r v q1 q2 q3 (.returned (.tuple #[.int .i64 (lead 10 r : Nat), .bool bn])) (w1.setCell ⟨cB, 2, none⟩ (.int .i64 (valD (r.take (lead 10 r)) : Nat)))) := by
    refine ⟨_, bn, rfl, (StepX.of_below hb1).trans (StepX.setCell _ _ _ rfl), fun h => ?_, ⟨by omega, by have := HLE.out; omega⟩, fun h => ?_⟩
    · rw [HP.out, if_pos]
      refine Classical.not_not.1 (fun h' => ?_)
      rw [h] at hbn
      exact Bool.noConfusion (hbn.2 (HOK.out.2 h'))
    · have hn := HOK.out.1 (hbn.1 h)
      exact ⟨_, _, v, q1, q2, q3, by rw [HP.out, if_neg hn], rfl, hc1.num0 _ hk, .inl ⟨rfl, rfl⟩, .inl ⟨rfl, rfl, rfl, rfl⟩⟩
  clear hbn hb1
  generalize valD (r.take (lead 10 r)) = vv at *
  generalize lead 10 r = ll at *
  go_wp2
  go_ret2
  exact HY.out
set_option maxRecDepth 100000 in
set_option maxHeartbeats 2000000 in
theorem take_n1 (w : World) (cB : Nat) (st : PCmd) (v q1 q2 q3 : Value) (hc : CmdAt w cB st v q1 q2 q3) (r : List UInt8) (hs : r.length ≤ 100000) (hk : st.cnt = 1) :
    Calls Tryz.prog 40 #[.pointer (some ⟨cB, 0, none⟩), .int .u8 110, .int .i64 (st.cnt : Int), .string (uS r)] w (TakeP w cB 110 st r v q1 q2 q3) := by
  have hp : stepT 110 st r = if lead 10 r = 0 ∨ 9 < lead 10 r ∨ (lead 10 r ≠ 1 ∧ r.head? = some 48) then none else some (putN st (valD (r.take (lead 10 r))), lead 10 r) := by
    unfold stepT
    rw [if_neg (show ¬ (110 : UInt8).toNat = 116 from by decide), if_neg (show ¬ (110 : UInt8).toNat = 113 from by decide)]
  have HNU := Lib.hid (rnumber_any w r hs)
  have HC := Lib.hid hc
  have HP := Lib.hid hp
  have HLE := Lib.hid (lead_le 10 r)
  have HOK := Lib.hid (numOk_iff r)
  have ekk : ((st.cnt : Nat) : Int) = 1 := by rw [hk]; rfl
  rw [ekk]
  clear hp hc ekk
  go_enter Tryz.func40, Tryz.ntmps40
  go_wp2_with fail
  refine HNU.out.mono ?_
  rintro e w1 ⟨⟨bn, rfl, hbn⟩, hb1⟩
  have hc1 : CmdAt w1 cB st v q1 q2 q3 := HC.out.kept hb1
  have y0 := hc1.cell 3
  have y1 := hc1.frozen 3
  have HY : Hid (TakeP w cB 110 st r v q1 q2 q3 (.returned (.tuple #[.int .i64 (lead 10 r : Nat), .bool bn])) (w1.setCell ⟨cB, 3, none⟩ (.int .i64 (valD (r.take (lead 10 r)) : Nat)))) := by
    refine ⟨_, bn, rfl, (StepX.of_below hb1).trans (StepX.setCell _ _ _ rfl), fun h => ?_, ⟨by omega, by have := HLE.out; omega⟩, fun h => ?_⟩
    · rw [HP.out, if_pos]
      refine Classical.not_not.1 (fun h' => ?_)
      rw [h] at hbn
      exact Bool.noConfusion (hbn.2 (HOK.out.2 h'))
    · have hn := HOK.out.1 (hbn.1 h)
      exact ⟨_, _, v, q1, q2, q3, by rw [HP.out, if_neg hn], rfl, hc1.num1 _ hk, .inl ⟨rfl, rfl⟩, .inl ⟨rfl, rfl, rfl, rfl⟩⟩
  clear hbn hb1
  generalize valD (r.take (lead 10 r)) = vv at *
  generalize lead 10 r = ll at *
  go_wp2
  go_ret2
  exact HY.out
set_option maxRecDepth 100000 in
set_option maxHeartbeats 2000000 in
theorem take_n2 (w : World) (cB : Nat) (st : PCmd) (v q1 q2 q3 : Value) (hc : CmdAt w cB st v q1 q2 q3) (r : List UInt8) (hs : r.length ≤ 100000) (hk : st.cnt = 2) :
    Calls Tryz.prog 40 #[.pointer (some ⟨cB, 0, none⟩), .int .u8 110, .int .i64 (st.cnt : Int), .string (uS r)] w (TakeP w cB 110 st r v q1 q2 q3) := by
  have hp : stepT 110 st r = if lead 10 r = 0 ∨ 9 < lead 10 r ∨ (lead 10 r ≠ 1 ∧ r.head? = some 48) then none else some (putN st (valD (r.take (lead 10 r))), lead 10 r) := by
    unfold stepT
    rw [if_neg (show ¬ (110 : UInt8).toNat = 116 from by decide), if_neg (show ¬ (110 : UInt8).toNat = 113 from by decide)]
  have HNU := Lib.hid (rnumber_any w r hs)
  have HC := Lib.hid hc
  have HP := Lib.hid hp
  have HLE := Lib.hid (lead_le 10 r)
  have HOK := Lib.hid (numOk_iff r)
  have ekk : ((st.cnt : Nat) : Int) = 2 := by rw [hk]; rfl
  rw [ekk]
  clear hp hc ekk
  go_enter Tryz.func40, Tryz.ntmps40
  go_wp2_with fail
  refine HNU.out.mono ?_
  rintro e w1 ⟨⟨bn, rfl, hbn⟩, hb1⟩
  have hc1 : CmdAt w1 cB st v q1 q2 q3 := HC.out.kept hb1
  have y0 := hc1.cell 4
  have y1 := hc1.frozen 4
  have HY : Hid (TakeP w cB 110 st r v q1 q2 q3 (.returned (.tuple #[.int .i64 (lead 10 r : Nat), .bool bn])) (w1.setCell ⟨cB, 4, none⟩ (.int .i64 (valD (r.take (lead 10 r)) : Nat)))) := by
    refine ⟨_, bn, rfl, (StepX.of_below hb1).trans (StepX.setCell _ _ _ rfl), fun h => ?_, ⟨by omega, by have := HLE.out; omega⟩, fun h => ?_⟩
    · rw [HP.out, if_pos]
      refine Classical.not_not.1 (fun h' => ?_)
      rw [h] at hbn
      exact Bool.noConfusion (hbn.2 (HOK.out.2 h'))
    · have hn := HOK.out.1 (hbn.1 h)
      exact ⟨_, _, v, q1, q2, q3, by rw [HP.out, if_neg hn], rfl, hc1.num2 _ hk, .inl ⟨rfl, rfl⟩, .inl ⟨rfl, rfl, rfl, rfl⟩⟩
  clear hbn hb1
  generalize valD (r.take (lead 10 r)) = vv at *
  generalize lead 10 r = ll at *
  go_wp2
  go_ret2
  exact HY.out
set_option maxRecDepth 100000 in
set_option maxHeartbeats 2000000 in
theorem take_q (w : World) (cB : Nat) (st : PCmd) (v q1 q2 q3 : Value) (hc : CmdAt w cB st v q1 q2 q3) (r : List UInt8) (hs : r.length ≤ 100000) (at_ : Int) :
    Calls Tryz.prog 40 #[.pointer (some ⟨cB, 0, none⟩), .int .u8 81, .int .i64 at_, .string (uS r)] w (TakeP w cB 113 st r v q1 q2 q3) := by
  have hp : stepT 113 st r = (qpS r).map fun q => ({ st with q := q }, r.length) := by
    unfold stepT
    rw [if_neg (show ¬ (113 : UInt8).toNat = 116 from by decide), if_pos (show (113 : UInt8).toNat = 113 from by decide)]
  have HU := Lib.hid (rqparse_any w r hs)
  have HC := Lib.hid hc
  have HP := Lib.hid hp
  have hsz := uS_size r
  clear hp hc
  go_enter Tryz.func40, Tryz.ntmps40
  go_wp2_with fail
  refine HU.out.mono ?_
  rintro e w1 ⟨hb1, hcase⟩
  have hcl : cB < w.heap.size := HC.out.lt
  have hform : ∃ (k : Int) (a : Option Addr) (n c : Nat) (a' : Option Addr) (n' c' : Nat) (E : Int), e = .returned (.tuple #[.agg #[.int .i64 k, .slice a n c, .slice a' n' c'], .int .i64 E]) ∧ ((E == 0) = false → qpS r = none) ∧ ((E == 0) = true → ∃ q, qpS r = some q ∧ QAt w1 (fun b => w.heap.size ≤ b) q (.int .i64 k) (.slice a n c) (.slice a' n' c')) := by
    rcases hcase with ⟨h1, he⟩ | ⟨q, v0, v1, v2, h1, he, hq⟩
    · refine ⟨_, _, _, _, _, _, _, _, he, fun _ => h1, fun h => ?_⟩
      split at h <;> exact absurd h (by decide)
    · obtain ⟨a, n, c, b, m, d, rfl, rfl, rfl⟩ := hq.form
      exact ⟨_, a, n, c, b, m, d, 0, he, fun h => absurd h (by decide), fun _ => ⟨q, h1, hq⟩⟩
  obtain ⟨k, a, n, c, a', n', c', E, rfl, hno, hyes⟩ := hform
  have hb2 : Below w1.heap.size w1 (w1.alloc (.cells #[.int .i64 k, .slice a n c, .slice a' n' c'] 25)) := (Below.refl _ _).alloc (Nat.le_refl _) _
  have hc1 : CmdAt (w1.alloc (.cells #[.int .i64 k, .slice a n c, .slice a' n' c'] 25)) cB st v q1 q2 q3 := (HC.out.kept hb1).kept hb2
  have y5 : (w1.alloc (.cells #[.int .i64 k, .slice a n c, .slice a' n' c'] 25)).cell? ⟨cB, 5, none⟩ = some q1 := hc1.cell 5
  have y6 : (w1.alloc (.cells #[.int .i64 k, .slice a n c, .slice a' n' c'] 25)).cell? ⟨cB, 6, none⟩ = some q2 := hc1.cell 6
  have y7 : (w1.alloc (.cells #[.int .i64 k, .slice a n c, .slice a' n' c'] 25)).cell? ⟨cB, 7, none⟩ = some q3 := hc1.cell 7
  have f5 := hc1.frozen 5
  have f6 := hc1.frozen 6
  have f7 := hc1.frozen 7
  have HY : Hid (∀ B : Bool, B = (E == 0) → TakeP w cB 113 st r v q1 q2 q3 (.returned (.tuple #[.int .i64 ((r.length : Nat) : Int), .bool B])) ((((w1.alloc (.cells #[.int .i64 k, .slice a n c, .slice a' n' c'] 25)).setCell ⟨cB, 5, none⟩ (.int .i64 k)).setCell ⟨cB, 6, none⟩ (.slice a n c)).setCell ⟨cB, 7, none⟩ (.slice a' n' c'))) := fun B hB => by
    refine ⟨_, B, rfl, (((StepX.of_below (X := fun b => b = cB) (below_next hb1 hb2 hb1.size)).trans (StepX.setCell _ ⟨cB, 5, none⟩ _ rfl)).trans (StepX.setCell _ ⟨cB, 6, none⟩ _ rfl)).trans (StepX.setCell _ ⟨cB, 7, none⟩ _ rfl), fun h => ?_, ⟨by omega, by omega⟩, fun h => ?_⟩
    · rw [HP.out, hno (by rw [← hB, h])]; rfl
    · obtain ⟨q, h1, hq⟩ := hyes (by rw [← hB, h])
      refine ⟨_, _, v, .int .i64 k, .slice a n c, .slice a' n' c', by rw [HP.out, h1]; rfl, rfl, hc1.query _ _ _ q, .inl ⟨rfl, rfl⟩, .inr ?_⟩
      exact ((((hq.kept hb2).setCell ⟨cB, 5, none⟩ (by show ¬ w.heap.size ≤ cB; omega) _).setCell ⟨cB, 6, none⟩ (by show ¬ w.heap.size ≤ cB; omega) _).setCell ⟨cB, 7, none⟩ (by show ¬ w.heap.size ≤ cB; omega) _)
  have hnew := World.alloc_heap_new w1 (.cells #[.int .i64 k, .slice a n c, .slice a' n' c'] 25)
  have d0 := cell_of_row _ _ 0 _ _ _ hnew
  have d1 := cell_of_row _ _ 1 _ _ _ hnew
  have d2 := cell_of_row _ _ 2 _ _ _ hnew
  simp only [List.getElem?_toArray, List.getElem?_cons_succ, List.getElem?_cons_zero] at d0 d1 d2
  clear hcase hno hyes hb1 hb2 hc1 hnew
  go_upto_region 8 with fail
  generalize (w1.alloc (.cells #[.int .i64 k, .slice a n c, .slice a' n' c'] 25)) = w3 at *
  go_wp2
  go_ret2
  exact HY.out _ rfl
/-- the signs -/
theorem take_any (w : World) (cB : Nat) (st : PCmd) (v q1 q2 q3 : Value) (hc : CmdAt w cB st v q1 q2 q3) (r : List UInt8) (hs : r.length ≤ 100000) (c : UInt8) (h : c = 116 ∨ c = 110 ∨ c = 113) (hk : c = 110 → st.cnt ≤ 2) :
    Calls Tryz.prog 40 #[.pointer (some ⟨cB, 0, none⟩), .int .u8 ((upC c).toNat : Int), .int .i64 (st.cnt : Int), .string (uS r)] w (TakeP w cB c st r v q1 q2 q3) := by
  rcases h with rfl | rfl | rfl
  · exact take_t w cB st v q1 q2 q3 hc r hs _
  · have := hk rfl
    rcases Nat.lt_or_ge st.cnt 1 with h | h
    · exact take_n0 w cB st v q1 q2 q3 hc r hs (by omega)
    · rcases Nat.lt_or_ge st.cnt 2 with h' | h'
      · exact take_n1 w cB st v q1 q2 q3 hc r hs (by omega)
      · exact take_n2 w cB st v q1 q2 q3 hc r hs (by omega)
  · exact take_q w cB st v q1 q2 q3 hc r hs _
end Go.Proofs.YtdcobmoeligdkaaGreatDoor
