/-
  cmd.put: a piece goes into a command.
-/
import Derived.Test.YtdcobmoeligdkaaGreatDoorCmWords
import Derived.Test.YtdcobmoeligdkaaGreatDoorCmSpecP
namespace Go.Proofs.YtdcobmoeligdkaaGreatDoor
open Go.RowKit Go.Shelf

/-- a command in a block of its own -/
def cmdA (st : PCmd) (v q1 q2 q3 : Value) : Array Value := #[.int .i64 (st.kind : Int), v, .int .i64 (st.n : Int), .int .i64 (st.m : Int), .int .i64 (st.k : Int), q1, q2, q3]
def CmdAt (W : World) (cB : Nat) (st : PCmd) (v q1 q2 q3 : Value) : Prop := W.heap[cB]? = some (.cells (cmdA st v q1 q2 q3) 27 (0, 0))
/-- a text: its bytes in a row from a block on -/
def TextOk (base : Nat) (W : World) (v : Value) (l : List UInt8) : Prop := ∃ a, v = .slice a l.length l.length ∧ Row W a l.length (bV l) ∧ (l.length = 0 ∨ base ≤ bOf a)
theorem CmdAt.lt {W : World} {cB : Nat} {st : PCmd} {v q1 q2 q3 : Value} (h : CmdAt W cB st v q1 q2 q3) : cB < W.heap.size := (Array.getElem?_eq_some_iff.1 h).1
theorem CmdAt.kept {W W' : World} {cB : Nat} {st : PCmd} {v q1 q2 q3 : Value} (h : CmdAt W cB st v q1 q2 q3) (hb : Below W.heap.size W W') : CmdAt W' cB st v q1 q2 q3 := (hb.block cB h.lt).trans h
theorem CmdAt.cell {W : World} {cB : Nat} {st : PCmd} {v q1 q2 q3 : Value} (h : CmdAt W cB st v q1 q2 q3) (i : Nat) : W.cell? ⟨cB, i, none⟩ = (cmdA st v q1 q2 q3)[i]? := cell_of_row W cB i _ _ _ h
theorem CmdAt.frozen {W : World} {cB : Nat} {st : PCmd} {v q1 q2 q3 : Value} (h : CmdAt W cB st v q1 q2 q3) (i : Nat) : W.frozen? ⟨cB, i, none⟩ = false := by
  unfold CmdAt at h
  simp [World.frozen?, h]
theorem CmdAt.text {W : World} {cB : Nat} {st : PCmd} {v q1 q2 q3 : Value} (h : CmdAt W cB st v q1 q2 q3) (v' : Value) (b : List UInt8) : CmdAt (W.setCell ⟨cB, 1, none⟩ v') cB { st with text := b } v' q1 q2 q3 := heap_setCell_same W cB 1 _ _ v' h
theorem CmdAt.num0 {W : World} {cB : Nat} {st : PCmd} {v q1 q2 q3 : Value} (h : CmdAt W cB st v q1 q2 q3) (n : Nat) (hc : st.cnt = 0) : CmdAt (W.setCell ⟨cB, 2, none⟩ (.int .i64 (n : Int))) cB (putN st n) v q1 q2 q3 := by
  have := heap_setCell_same W cB 2 _ _ (.int .i64 (n : Int)) h
  unfold CmdAt putN cmdA
  rw [hc]
  exact this
theorem CmdAt.num1 {W : World} {cB : Nat} {st : PCmd} {v q1 q2 q3 : Value} (h : CmdAt W cB st v q1 q2 q3) (n : Nat) (hc : st.cnt = 1) : CmdAt (W.setCell ⟨cB, 3, none⟩ (.int .i64 (n : Int))) cB (putN st n) v q1 q2 q3 := by
  have := heap_setCell_same W cB 3 _ _ (.int .i64 (n : Int)) h
  unfold CmdAt putN cmdA
  rw [hc]
  exact this
theorem CmdAt.num2 {W : World} {cB : Nat} {st : PCmd} {v q1 q2 q3 : Value} (h : CmdAt W cB st v q1 q2 q3) (n : Nat) (hc : st.cnt = 2) : CmdAt (W.setCell ⟨cB, 4, none⟩ (.int .i64 (n : Int))) cB (putN st n) v q1 q2 q3 := by
  have := heap_setCell_same W cB 4 _ _ (.int .i64 (n : Int)) h
  unfold CmdAt putN cmdA
  rw [hc]
  exact this
theorem TextOk.kept {base : Nat} {W W' : World} {v : Value} {l : List UInt8} (h : TextOk base W v l) (hb : Below W.heap.size W W') : TextOk base W' v l := by
  obtain ⟨a, h1, h2, h3⟩ := h
  exact ⟨a, h1, h2.kept hb, h3⟩
theorem TextOk.setCell {base : Nat} {W : World} {v : Value} {l : List UInt8} (h : TextOk base W v l) (p : Addr) (hp : p.block < base) (u : Value) : TextOk base (W.setCell p u) v l := by
  obtain ⟨a, h1, h2, h3⟩ := h
  refine ⟨a, h1, ⟨h2.at_, fun k hk => ?_⟩, h3⟩
  have hne : bOf a ≠ p.block := by rcases h3 with h3 | h3 <;> omega
  exact (World.cell?_of_block (a := ⟨bOf a, oOf a + k, none⟩) (Below.heap_setCell W p u _ hne)).trans (h2.cell k hk)
def PutPost (w : World) (cB : Nat) (st : PCmd) (x : UInt8 × List UInt8) (v q1 q2 q3 : Value) (e : Ending) (w' : World) : Prop :=
  e = .returned (.bool (putS st x).isSome) ∧ StepX (fun b => b = cB) w w' ∧
    ∀ st', putS st x = some st' → ∃ v' q1' q2' q3', CmdAt w' cB st' v' q1' q2' q3' ∧ ((v' = v ∧ st'.text = st.text) ∨ TextOk w.heap.size w' v' st'.text) ∧ ((q1' = q1 ∧ q2' = q2 ∧ q3' = q3 ∧ st'.q = st.q) ∨ QAt w' (fun b => w.heap.size ≤ b) st'.q q1' q2' q3')
set_option maxRecDepth 100000 in
set_option maxHeartbeats 1000000 in
theorem put_e (w : World) (cB : Nat) (st : PCmd) (v q1 q2 q3 : Value) (hc : CmdAt w cB st v q1 q2 q3) (x : UInt8) (s : List UInt8) (h1 : x.toNat ≠ 116) (h2 : x.toNat ≠ 110) (h3 : x.toNat ≠ 113) :
    Calls Tryz.prog 23 #[.pointer (some ⟨cB, 0, none⟩), .int .u8 (x.toNat : Int), .string (uS s), .int .i64 (st.cnt : Int)] w (PutPost w cB st (x, s) v q1 q2 q3) := by
  have hp : putS st (x, s) = if x.toNat ≠ 33 ∧ s = [] then some st else none := by
    unfold putS
    rw [if_neg h1, if_neg h2, if_neg h3]
  have b1 : ((x.toNat : Int) == 116) = false := by rw [beq_eq_false_iff_ne]; omega
  have b2 : ((x.toNat : Int) == 110) = false := by rw [beq_eq_false_iff_ne]; omega
  have b3 : ((x.toNat : Int) == 113) = false := by rw [beq_eq_false_iff_ne]; omega
  have hq := uS_eq s []
  have e0 : (uS ([] : List UInt8)).toList = [] := uS_toList []
  rw [e0] at hq
  have HY : Hid (∀ b : Bool, b = (decide (x.toNat ≠ 33) && decide (s = [])) → PutPost w cB st (x, s) v q1 q2 q3 (.returned (.bool b)) w) := fun b hb => by
    unfold PutPost
    rw [hp]
    by_cases e1 : x.toNat ≠ 33
    · by_cases e2 : s = []
      · rw [if_pos ⟨e1, e2⟩]
        refine ⟨by rw [hb]; simp [e1, e2], StepX.refl _ _, fun st' hs => ?_⟩
        obtain rfl := Option.some.inj hs
        exact ⟨v, q1, q2, q3, hc, .inl ⟨rfl, rfl⟩, .inl ⟨rfl, rfl, rfl, rfl⟩⟩
      · rw [if_neg (fun h => e2 h.2)]
        exact ⟨by rw [hb]; simp [e2], StepX.refl _ _, fun st' hs => by cases hs⟩
    · rw [if_neg (fun h => e1 h.1)]
      exact ⟨by rw [hb]; simp [e1], StepX.refl _ _, fun st' hs => by cases hs⟩
  clear hp hc
  by_cases e1 : x.toNat = 33
  · have b4 : ((x.toNat : Int) != 33) = false := by rw [e1]; rfl
    have HY2 := Lib.hid (HY.out false (by rw [e1]; rfl))
    clear HY e1 h1 h2 h3
    generalize x.toNat = xn at *
    go_enter Tryz.func23, Tryz.ntmps23
    go_wp2
    go_ret
    exact HY2.out
  · have b4 : ((x.toNat : Int) != 33) = true := by rw [bne_iff_ne]; omega
    have HY2 : Hid (PutPost w cB st (x, s) v q1 q2 q3 (.returned (.bool (decide (s = [])))) w) := HY.out _ (by simp [e1])
    clear HY e1 h1 h2 h3
    generalize decide (s = []) = bb at *
    generalize x.toNat = xn at *
    go_enter Tryz.func23, Tryz.ntmps23
    go_wp2
    go_ret
    exact HY2.out
set_option maxRecDepth 100000 in
set_option maxHeartbeats 1000000 in
theorem put_t (w : World) (cB : Nat) (st : PCmd) (v q1 q2 q3 : Value) (hc : CmdAt w cB st v q1 q2 q3) (x : UInt8) (s : List UInt8) (hs : s.length ≤ 100000) (h1 : x.toNat = 116) :
    Calls Tryz.prog 23 #[.pointer (some ⟨cB, 0, none⟩), .int .u8 (x.toNat : Int), .string (uS s), .int .i64 (st.cnt : Int)] w (PutPost w cB st (x, s) v q1 q2 q3) := by
  have hp : putS st (x, s) = match unq s with
    | some (b, _) => if b.length ≤ mostT st.kind then some { st with text := b } else none
    | none => none := by
    unfold putS
    rw [if_pos h1]
    rfl
  rw [h1]
  have e116 : ((116 : Nat) : Int) = 116 := rfl
  rw [e116]
  have HU := Lib.hid (unquote_any w s hs)
  have HC := Lib.hid hc
  have HP := Lib.hid hp
  clear hp hc e116
  go_enter Tryz.func23, Tryz.ntmps23
  go_wp2_with fail
  refine HU.out.mono ?_
  rintro e w1 ⟨hb1, hcase⟩
  have hc1 : CmdAt w1 cB st v q1 q2 q3 := HC.out.kept hb1
  have y0 : w1.cell? ⟨cB, 1, none⟩ = some v := hc1.cell 1
  have y1 := hc1.frozen 1
  have hcl : cB < w.heap.size := HC.out.lt
  rcases hcase with ⟨hu, rfl⟩ | ⟨b, m, a, hu, rfl, hrow, hlow⟩
  · have hc2 : CmdAt (w1.setCell ⟨cB, 1, none⟩ (.slice none 0 0)) cB { st with text := [] } (.slice none 0 0) q1 q2 q3 := hc1.text _ _
    have HX : Hid (StepX (fun b => b = cB) w (w1.setCell ⟨cB, 1, none⟩ (.slice none 0 0))) := (StepX.of_below hb1).trans (StepX.setCell _ _ _ rfl)
    have z0 : (w1.setCell ⟨cB, 1, none⟩ (.slice none 0 0)).cell? ⟨cB, 0, none⟩ = some (.int .i64 (st.kind : Int)) := hc2.cell 0
    have HN : Hid (putS st (x, s) = none) := by show _ = _; rw [HP.out, hu]
    have HY : Hid (PutPost w cB st (x, s) v q1 q2 q3 (.returned (.bool false)) (w1.setCell ⟨cB, 1, none⟩ (.slice none 0 0))) := ⟨by rw [HN.out]; rfl, HX.out, fun st' hs => by rw [HN.out] at hs; cases hs⟩
    clear hc1 hc2 hu hb1
    by_cases hk : (st.kind : Int) = 1
    · have hkb : ((st.kind : Int) == 1) = true := by rw [hk]; rfl
      rw [hk] at z0
      clear hk hkb
      go_wp2
      go_ret
      exact HY.out
    · have hkb : ((st.kind : Int) == 1) = false := by rw [beq_eq_false_iff_ne]; exact hk
      go_wp2
      go_ret
      exact HY.out
  · have hbl : b.length ≤ 100000 := by have h9 := unq_len hu; have h8 : b.length + 2 ≤ m := h9.2.2; have h7 : m ≤ s.length := h9.2.1; omega
    have hc2 : CmdAt (w1.setCell ⟨cB, 1, none⟩ (.slice a b.length b.length)) cB { st with text := b } (.slice a b.length b.length) q1 q2 q3 := hc1.text _ _
    have HX : Hid (StepX (fun b => b = cB) w (w1.setCell ⟨cB, 1, none⟩ (.slice a b.length b.length))) := (StepX.of_below hb1).trans (StepX.setCell _ _ _ rfl)
    have HT : Hid (TextOk w.heap.size (w1.setCell ⟨cB, 1, none⟩ (.slice a b.length b.length)) (.slice a b.length b.length) b) :=
      TextOk.setCell ⟨a, rfl, hrow, hlow⟩ ⟨cB, 1, none⟩ hcl _
    have z0 : (w1.setCell ⟨cB, 1, none⟩ (.slice a b.length b.length)).cell? ⟨cB, 0, none⟩ = some (.int .i64 (st.kind : Int)) := hc2.cell 0
    have z1 : (w1.setCell ⟨cB, 1, none⟩ (.slice a b.length b.length)).cell? ⟨cB, 1, none⟩ = some (.slice a b.length b.length) := hc2.cell 1
    have HN : Hid (putS st (x, s) = if b.length ≤ mostT st.kind then some { st with text := b } else none) := by show _ = _; rw [HP.out, hu]
    have HC2 := Lib.hid hc2
    have HY : Hid (∀ B : Bool, B = decide (b.length ≤ mostT st.kind) → PutPost w cB st (x, s) v q1 q2 q3 (.returned (.bool B)) (w1.setCell ⟨cB, 1, none⟩ (.slice a b.length b.length))) := fun B hB => by
      unfold PutPost
      rw [HN.out]
      by_cases hle : b.length ≤ mostT st.kind
      · rw [if_pos hle]
        refine ⟨by rw [hB]; simp [hle], HX.out, fun st' hs => ?_⟩
        obtain rfl := Option.some.inj hs
        exact ⟨_, q1, q2, q3, HC2.out, .inr HT.out, .inl ⟨rfl, rfl, rfl, rfl⟩⟩
      · rw [if_neg hle]
        exact ⟨by rw [hB]; simp [hle], HX.out, fun st' hs => by cases hs⟩
    clear hc1 hc2 hu hb1 hrow hlow
    by_cases hk : st.kind = 1
    · have hm : mostT st.kind = 2000 := if_pos hk
      rw [hm] at HY
      have z0' : (w1.setCell ⟨cB, 1, none⟩ (.slice a b.length b.length)).cell? ⟨cB, 0, none⟩ = some (.int .i64 1) := by rw [z0, hk]; rfl
      clear z0 hk hm
      go_wp2
      go_ret
      exact HY.out _ (by rw [decide_eq_decide]; omega)
    · have hm : mostT st.kind = 200 := if_neg hk
      rw [hm] at HY
      have hkb : ((st.kind : Int) == 1) = false := by rw [beq_eq_false_iff_ne]; omega
      clear hk hm
      go_wp2
      go_ret
      exact HY.out _ (by rw [decide_eq_decide]; omega)
set_option maxRecDepth 100000 in
set_option maxHeartbeats 2000000 in
theorem put_n0 (w : World) (he : Env w) (cB : Nat) (st : PCmd) (v q1 q2 q3 : Value) (hc : CmdAt w cB st v q1 q2 q3) (x : UInt8) (s : List UInt8) (hs : s.length ≤ 100000) (h1 : x.toNat = 110) (hk : st.cnt = 0) :
    Calls Tryz.prog 23 #[.pointer (some ⟨cB, 0, none⟩), .int .u8 (x.toNat : Int), .string (uS s), .int .i64 (st.cnt : Int)] w (PutPost w cB st (x, s) v q1 q2 q3) := by
  have hp : putS st (x, s) = (numR s).map (putN st) := by
    unfold putS
    rw [if_neg (by show ¬ x.toNat = 116; omega), if_pos h1]
  rw [h1, hk]
  have e110 : ((110 : Nat) : Int) = 110 := rfl
  have ekk : ((0 : Nat) : Int) = 0 := rfl
  rw [e110, ekk]
  have HC := Lib.hid hc
  have HP := Lib.hid hp
  have HE := Lib.hid he
  have hcl := hc.lt
  clear hp hc e110 ekk he
  go_enter Tryz.func23, Tryz.ntmps23
  go_wp2_with fail
  go_region
  have HNU := Lib.hid (fun (W : World) (hb : Below w.heap.size w W) => number_any W (HE.out.kept hb) s hs)
  have hb2 : Below w.heap.size w ((w.alloc (Obj.cells #[.pointer (some ⟨cB, 2, none⟩), .pointer (some ⟨cB, 3, none⟩), .pointer (some ⟨cB, 4, none⟩)] 89)).drew) := ((Below.refl _ _).alloc (Nat.le_refl _) _).drew
  have d0 : ((w.alloc (Obj.cells #[.pointer (some ⟨cB, 2, none⟩), .pointer (some ⟨cB, 3, none⟩), .pointer (some ⟨cB, 4, none⟩)] 89)).drew).cell? ⟨w.heap.size, 0, none⟩ = some (.pointer (some ⟨cB, 2, none⟩)) :=
    (show (w.alloc (Obj.cells #[.pointer (some ⟨cB, 2, none⟩), .pointer (some ⟨cB, 3, none⟩), .pointer (some ⟨cB, 4, none⟩)] 89)).cell? ⟨w.heap.size, 0, none⟩ = _ from cell_of_row _ _ 0 _ _ _ (World.alloc_heap_new _ _))
  have hsz : w.heap.size < ((w.alloc (Obj.cells #[.pointer (some ⟨cB, 2, none⟩), .pointer (some ⟨cB, 3, none⟩), .pointer (some ⟨cB, 4, none⟩)] 89)).drew).heap.size := by
    show w.heap.size < (w.alloc _).heap.size
    rw [World.size_alloc]; omega
  generalize ((w.alloc (Obj.cells #[.pointer (some ⟨cB, 2, none⟩), .pointer (some ⟨cB, 3, none⟩), .pointer (some ⟨cB, 4, none⟩)] 89)).drew) = w2 at *
  have HB2 : Hid (Below w.heap.size w w2.drew) := hb2.drew
  have HC2 : Hid (CmdAt w2.drew cB st v q1 q2 q3) := (hb2.block cB hcl).trans HC.out
  have hc2 : CmdAt w2 cB st v q1 q2 q3 := HC2.out
  have HD0 := Lib.hid d0
  clear hb2
  go_wp2_with fail
  go_region_with (go_at_call 46; refine (HNU.out _ HB2.out).mono ?_; rintro e w3 ⟨nv, rfl, hnv, hb3⟩; have HB3 := Lib.hid hb3; have HNV := Lib.hid hnv; have d1 : w3.cell? ⟨w.heap.size, 0, none⟩ = some (.pointer (some ⟨cB, 2, none⟩)) := (HB3.out.cell (p := ⟨w.heap.size, 0, none⟩) hsz).trans HD0.out; have HC3 := Lib.hid (HC2.out.kept HB3.out); have y0 := HC3.out.cell 2; have y1 := HC3.out.frozen 2; clear hb3 hnv)
  all_goals
    have HX : Hid (StepX (fun b => b = cB) w (w3.setCell ⟨cB, 2, none⟩ (.int .i64 nv))) := (StepX.of_below (below_next HB2.out HB3.out HB2.out.size)).trans (StepX.setCell _ _ _ rfl)
    have HY : Hid (PutPost w cB st (x, s) v q1 q2 q3 (.returned (.bool (numR s).isSome)) (w3.setCell ⟨cB, 2, none⟩ (.int .i64 nv))) := by
      refine ⟨by rw [HP.out, Option.isSome_map], HX.out, fun st' hs' => ?_⟩
      rw [HP.out] at hs'
      obtain ⟨n, hn, rfl⟩ := Option.map_eq_some_iff.1 hs'
      obtain rfl := HNV.out n hn
      exact ⟨v, q1, q2, q3, HC3.out.num0 n hk, .inl ⟨rfl, rfl⟩, .inl ⟨rfl, rfl, rfl, rfl⟩⟩
    clear d0 d1 y0 y1 HNV
    generalize (numR s).isSome = bb at *
    go_wp2
    go_ret
    exact HY.out
set_option maxRecDepth 100000 in
set_option maxHeartbeats 2000000 in
theorem put_n1 (w : World) (he : Env w) (cB : Nat) (st : PCmd) (v q1 q2 q3 : Value) (hc : CmdAt w cB st v q1 q2 q3) (x : UInt8) (s : List UInt8) (hs : s.length ≤ 100000) (h1 : x.toNat = 110) (hk : st.cnt = 1) :
    Calls Tryz.prog 23 #[.pointer (some ⟨cB, 0, none⟩), .int .u8 (x.toNat : Int), .string (uS s), .int .i64 (st.cnt : Int)] w (PutPost w cB st (x, s) v q1 q2 q3) := by
  have hp : putS st (x, s) = (numR s).map (putN st) := by
    unfold putS
    rw [if_neg (by show ¬ x.toNat = 116; omega), if_pos h1]
  rw [h1, hk]
  have e110 : ((110 : Nat) : Int) = 110 := rfl
  have ekk : ((1 : Nat) : Int) = 1 := rfl
  rw [e110, ekk]
  have HC := Lib.hid hc
  have HP := Lib.hid hp
  have HE := Lib.hid he
  have hcl := hc.lt
  clear hp hc e110 ekk he
  go_enter Tryz.func23, Tryz.ntmps23
  go_wp2_with fail
  go_region
  have HNU := Lib.hid (fun (W : World) (hb : Below w.heap.size w W) => number_any W (HE.out.kept hb) s hs)
  have hb2 : Below w.heap.size w ((w.alloc (Obj.cells #[.pointer (some ⟨cB, 2, none⟩), .pointer (some ⟨cB, 3, none⟩), .pointer (some ⟨cB, 4, none⟩)] 89)).drew) := ((Below.refl _ _).alloc (Nat.le_refl _) _).drew
  have d0 : ((w.alloc (Obj.cells #[.pointer (some ⟨cB, 2, none⟩), .pointer (some ⟨cB, 3, none⟩), .pointer (some ⟨cB, 4, none⟩)] 89)).drew).cell? ⟨w.heap.size, 1, none⟩ = some (.pointer (some ⟨cB, 3, none⟩)) :=
    (show (w.alloc (Obj.cells #[.pointer (some ⟨cB, 2, none⟩), .pointer (some ⟨cB, 3, none⟩), .pointer (some ⟨cB, 4, none⟩)] 89)).cell? ⟨w.heap.size, 1, none⟩ = _ from cell_of_row _ _ 1 _ _ _ (World.alloc_heap_new _ _))
  have hsz : w.heap.size < ((w.alloc (Obj.cells #[.pointer (some ⟨cB, 2, none⟩), .pointer (some ⟨cB, 3, none⟩), .pointer (some ⟨cB, 4, none⟩)] 89)).drew).heap.size := by
    show w.heap.size < (w.alloc _).heap.size
    rw [World.size_alloc]; omega
  generalize ((w.alloc (Obj.cells #[.pointer (some ⟨cB, 2, none⟩), .pointer (some ⟨cB, 3, none⟩), .pointer (some ⟨cB, 4, none⟩)] 89)).drew) = w2 at *
  have HB2 : Hid (Below w.heap.size w w2.drew) := hb2.drew
  have HC2 : Hid (CmdAt w2.drew cB st v q1 q2 q3) := (hb2.block cB hcl).trans HC.out
  have hc2 : CmdAt w2 cB st v q1 q2 q3 := HC2.out
  have HD0 := Lib.hid d0
  clear hb2
  go_wp2_with fail
  go_region_with (go_at_call 46; refine (HNU.out _ HB2.out).mono ?_; rintro e w3 ⟨nv, rfl, hnv, hb3⟩; have HB3 := Lib.hid hb3; have HNV := Lib.hid hnv; have d1 : w3.cell? ⟨w.heap.size, 1, none⟩ = some (.pointer (some ⟨cB, 3, none⟩)) := (HB3.out.cell (p := ⟨w.heap.size, 1, none⟩) hsz).trans HD0.out; have HC3 := Lib.hid (HC2.out.kept HB3.out); have y0 := HC3.out.cell 3; have y1 := HC3.out.frozen 3; clear hb3 hnv)
  all_goals
    have HX : Hid (StepX (fun b => b = cB) w (w3.setCell ⟨cB, 3, none⟩ (.int .i64 nv))) := (StepX.of_below (below_next HB2.out HB3.out HB2.out.size)).trans (StepX.setCell _ _ _ rfl)
    have HY : Hid (PutPost w cB st (x, s) v q1 q2 q3 (.returned (.bool (numR s).isSome)) (w3.setCell ⟨cB, 3, none⟩ (.int .i64 nv))) := by
      refine ⟨by rw [HP.out, Option.isSome_map], HX.out, fun st' hs' => ?_⟩
      rw [HP.out] at hs'
      obtain ⟨n, hn, rfl⟩ := Option.map_eq_some_iff.1 hs'
      obtain rfl := HNV.out n hn
      exact ⟨v, q1, q2, q3, HC3.out.num1 n hk, .inl ⟨rfl, rfl⟩, .inl ⟨rfl, rfl, rfl, rfl⟩⟩
    clear d0 d1 y0 y1 HNV
    generalize (numR s).isSome = bb at *
    go_wp2
    go_ret
    exact HY.out
set_option maxRecDepth 100000 in
set_option maxHeartbeats 2000000 in
theorem put_n2 (w : World) (he : Env w) (cB : Nat) (st : PCmd) (v q1 q2 q3 : Value) (hc : CmdAt w cB st v q1 q2 q3) (x : UInt8) (s : List UInt8) (hs : s.length ≤ 100000) (h1 : x.toNat = 110) (hk : st.cnt = 2) :
    Calls Tryz.prog 23 #[.pointer (some ⟨cB, 0, none⟩), .int .u8 (x.toNat : Int), .string (uS s), .int .i64 (st.cnt : Int)] w (PutPost w cB st (x, s) v q1 q2 q3) := by
  have hp : putS st (x, s) = (numR s).map (putN st) := by
    unfold putS
    rw [if_neg (by show ¬ x.toNat = 116; omega), if_pos h1]
  rw [h1, hk]
  have e110 : ((110 : Nat) : Int) = 110 := rfl
  have ekk : ((2 : Nat) : Int) = 2 := rfl
  rw [e110, ekk]
  have HC := Lib.hid hc
  have HP := Lib.hid hp
  have HE := Lib.hid he
  have hcl := hc.lt
  clear hp hc e110 ekk he
  go_enter Tryz.func23, Tryz.ntmps23
  go_wp2_with fail
  go_region
  have HNU := Lib.hid (fun (W : World) (hb : Below w.heap.size w W) => number_any W (HE.out.kept hb) s hs)
  have hb2 : Below w.heap.size w ((w.alloc (Obj.cells #[.pointer (some ⟨cB, 2, none⟩), .pointer (some ⟨cB, 3, none⟩), .pointer (some ⟨cB, 4, none⟩)] 89)).drew) := ((Below.refl _ _).alloc (Nat.le_refl _) _).drew
  have d0 : ((w.alloc (Obj.cells #[.pointer (some ⟨cB, 2, none⟩), .pointer (some ⟨cB, 3, none⟩), .pointer (some ⟨cB, 4, none⟩)] 89)).drew).cell? ⟨w.heap.size, 2, none⟩ = some (.pointer (some ⟨cB, 4, none⟩)) :=
    (show (w.alloc (Obj.cells #[.pointer (some ⟨cB, 2, none⟩), .pointer (some ⟨cB, 3, none⟩), .pointer (some ⟨cB, 4, none⟩)] 89)).cell? ⟨w.heap.size, 2, none⟩ = _ from cell_of_row _ _ 2 _ _ _ (World.alloc_heap_new _ _))
  have hsz : w.heap.size < ((w.alloc (Obj.cells #[.pointer (some ⟨cB, 2, none⟩), .pointer (some ⟨cB, 3, none⟩), .pointer (some ⟨cB, 4, none⟩)] 89)).drew).heap.size := by
    show w.heap.size < (w.alloc _).heap.size
    rw [World.size_alloc]; omega
  generalize ((w.alloc (Obj.cells #[.pointer (some ⟨cB, 2, none⟩), .pointer (some ⟨cB, 3, none⟩), .pointer (some ⟨cB, 4, none⟩)] 89)).drew) = w2 at *
  have HB2 : Hid (Below w.heap.size w w2.drew) := hb2.drew
  have HC2 : Hid (CmdAt w2.drew cB st v q1 q2 q3) := (hb2.block cB hcl).trans HC.out
  have hc2 : CmdAt w2 cB st v q1 q2 q3 := HC2.out
  have HD0 := Lib.hid d0
  clear hb2
  go_wp2_with fail
  go_region_with (go_at_call 46; refine (HNU.out _ HB2.out).mono ?_; rintro e w3 ⟨nv, rfl, hnv, hb3⟩; have HB3 := Lib.hid hb3; have HNV := Lib.hid hnv; have d1 : w3.cell? ⟨w.heap.size, 2, none⟩ = some (.pointer (some ⟨cB, 4, none⟩)) := (HB3.out.cell (p := ⟨w.heap.size, 2, none⟩) hsz).trans HD0.out; have HC3 := Lib.hid (HC2.out.kept HB3.out); have y0 := HC3.out.cell 4; have y1 := HC3.out.frozen 4; clear hb3 hnv)
  all_goals
    have HX : Hid (StepX (fun b => b = cB) w (w3.setCell ⟨cB, 4, none⟩ (.int .i64 nv))) := (StepX.of_below (below_next HB2.out HB3.out HB2.out.size)).trans (StepX.setCell _ _ _ rfl)
    have HY : Hid (PutPost w cB st (x, s) v q1 q2 q3 (.returned (.bool (numR s).isSome)) (w3.setCell ⟨cB, 4, none⟩ (.int .i64 nv))) := by
      refine ⟨by rw [HP.out, Option.isSome_map], HX.out, fun st' hs' => ?_⟩
      rw [HP.out] at hs'
      obtain ⟨n, hn, rfl⟩ := Option.map_eq_some_iff.1 hs'
      obtain rfl := HNV.out n hn
      exact ⟨v, q1, q2, q3, HC3.out.num2 n hk, .inl ⟨rfl, rfl⟩, .inl ⟨rfl, rfl, rfl, rfl⟩⟩
    clear d0 d1 y0 y1 HNV
    generalize (numR s).isSome = bb at *
    go_wp2
    go_ret
    exact HY.out
theorem CmdAt.query {W : World} {cB : Nat} {st : PCmd} {v q1 q2 q3 : Value} (h : CmdAt W cB st v q1 q2 q3) (u1 u2 u3 : Value) (q : QT) : CmdAt (((W.setCell ⟨cB, 5, none⟩ u1).setCell ⟨cB, 6, none⟩ u2).setCell ⟨cB, 7, none⟩ u3) cB { st with q := q } v u1 u2 u3 :=
  heap_setCell_same _ cB 7 _ _ u3 (heap_setCell_same _ cB 6 _ _ u2 (heap_setCell_same W cB 5 _ _ u1 h))
set_option maxRecDepth 100000 in
set_option maxHeartbeats 2000000 in
theorem put_q (w : World) (cB : Nat) (st : PCmd) (v q1 q2 q3 : Value) (hc : CmdAt w cB st v q1 q2 q3) (x : UInt8) (s : List UInt8) (hs : s.length ≤ 100000) (h1 : x.toNat = 113) :
    Calls Tryz.prog 23 #[.pointer (some ⟨cB, 0, none⟩), .int .u8 (x.toNat : Int), .string (uS s), .int .i64 (st.cnt : Int)] w (PutPost w cB st (x, s) v q1 q2 q3) := by
  have hp : putS st (x, s) = (qpS s).map (fun q => { st with q := q }) := by
    unfold putS
    rw [if_neg (by show ¬ x.toNat = 116; omega), if_neg (by show ¬ x.toNat = 110; omega), if_pos h1]
  rw [h1]
  have e113 : ((113 : Nat) : Int) = 113 := rfl
  rw [e113]
  have HU := Lib.hid (qparse_any w s hs)
  have HC := Lib.hid hc
  have HP := Lib.hid hp
  clear hp hc e113
  go_enter Tryz.func23, Tryz.ntmps23
  go_wp2_with fail
  refine HU.out.mono ?_
  rintro e w1 ⟨hb1, hcase⟩
  have hc1 : CmdAt w1 cB st v q1 q2 q3 := HC.out.kept hb1
  have y5 : w1.cell? ⟨cB, 5, none⟩ = some q1 := hc1.cell 5
  have y6 : w1.cell? ⟨cB, 6, none⟩ = some q2 := hc1.cell 6
  have y7 : w1.cell? ⟨cB, 7, none⟩ = some q3 := hc1.cell 7
  have f5 := hc1.frozen 5
  have f6 := hc1.frozen 6
  have f7 := hc1.frozen 7
  have hcl : cB < w.heap.size := HC.out.lt
  have HC1 := Lib.hid hc1
  have HX : Hid (∀ u1 u2 u3, StepX (fun b => b = cB) w (((w1.setCell ⟨cB, 5, none⟩ u1).setCell ⟨cB, 6, none⟩ u2).setCell ⟨cB, 7, none⟩ u3)) := fun u1 u2 u3 =>
    (((StepX.of_below (X := fun b => b = cB) hb1).trans (StepX.setCell w1 ⟨cB, 5, none⟩ u1 rfl)).trans (StepX.setCell _ ⟨cB, 6, none⟩ u2 rfl)).trans (StepX.setCell _ ⟨cB, 7, none⟩ u3 rfl)
  clear hc1 hb1
  rcases hcase with ⟨hn, rfl⟩ | ⟨q, u0, u1, u2, hy, rfl, hq⟩
  · have HN : Hid (putS st (x, s) = none) := by show _ = _; rw [HP.out, hn]; rfl
    have HY : Hid (PutPost w cB st (x, s) v q1 q2 q3 (.returned (.bool false)) (((w1.setCell ⟨cB, 5, none⟩ (.int .i64 0)).setCell ⟨cB, 6, none⟩ (.slice none 0 0)).setCell ⟨cB, 7, none⟩ (.slice none 0 0))) := ⟨by rw [HN.out]; rfl, HX.out _ _ _, fun st' hs => by rw [HN.out] at hs; cases hs⟩
    obtain ⟨E, hE, hE0⟩ : ∃ E : Int, (if 2000 < s.length then (2 : Int) else 3) = E ∧ (E == 0) = false := by
      by_cases h : 2000 < s.length
      · exact ⟨2, if_pos h, rfl⟩
      · exact ⟨3, if_neg h, rfl⟩
    rw [hE]
    clear hn hE
    go_wp2
    go_ret
    exact HY.out
  · obtain ⟨p1, n1, c1, p2, n2, c2, rfl, rfl, rfl⟩ := hq.form
    have HQ : Hid (QAt (((w1.setCell ⟨cB, 5, none⟩ (.int .i64 q.k)).setCell ⟨cB, 6, none⟩ (.slice p1 n1 c1)).setCell ⟨cB, 7, none⟩ (.slice p2 n2 c2)) (fun b => w.heap.size ≤ b) q (.int .i64 q.k) (.slice p1 n1 c1) (.slice p2 n2 c2)) :=
      (((hq.setCell ⟨cB, 5, none⟩ (by show ¬ w.heap.size ≤ cB; omega) _).setCell ⟨cB, 6, none⟩ (by show ¬ w.heap.size ≤ cB; omega) _).setCell ⟨cB, 7, none⟩ (by show ¬ w.heap.size ≤ cB; omega) _)
    have HN : Hid (putS st (x, s) = some { st with q := q }) := by show _ = _; rw [HP.out, hy]; rfl
    have HY : Hid (PutPost w cB st (x, s) v q1 q2 q3 (.returned (.bool true)) (((w1.setCell ⟨cB, 5, none⟩ (.int .i64 q.k)).setCell ⟨cB, 6, none⟩ (.slice p1 n1 c1)).setCell ⟨cB, 7, none⟩ (.slice p2 n2 c2))) :=
      ⟨by rw [HN.out]; rfl, HX.out _ _ _, fun st' hs => by
        rw [HN.out] at hs
        obtain rfl := Option.some.inj hs
        exact ⟨v, _, _, _, HC1.out.query _ _ _ q, .inl ⟨rfl, rfl⟩, .inr HQ.out⟩⟩
    clear hy hq
    generalize q.k = qk at *
    go_wp2
    go_ret
    exact HY.out
end Go.Proofs.YtdcobmoeligdkaaGreatDoor
