/-
  concordanceref23.Line: at any good query.
-/
import Derived.Test.YtdcobmoeligdkaaGreatDoorCmTokP
import Derived.Test.YtdcobmoeligdkaaGreatDoorCmQTold
namespace Go.Proofs.YtdcobmoeligdkaaGreatDoor
open Go.RowKit Go.Shelf

theorem join_snoc (xs : List (List UInt8)) (y sep : List UInt8) (h : xs ≠ []) : Lib.join (xs ++ [y]) sep = Lib.join xs sep ++ sep ++ y := by
  cases xs with
  | nil => exact absurd rfl h
  | cons a r =>
    rw [List.cons_append, Lib.join_cons, Lib.join_cons]
    show a ++ (((r ++ [y]).map (sep ++ ·)).flatten) = a ++ ((r.map (sep ++ ·)).flatten) ++ sep ++ y
    simp
theorem join_one (y sep : List UInt8) : Lib.join [y] sep = y := by
  rw [Lib.join_cons]
  show y ++ ((([] : List (List UInt8)).map (sep ++ ·)).flatten) = y
  simp
def QRLine (f : Nat) : Prop := ∀ (W : World) (G : Nat → Prop) (q : QT) (v0 v1 v2 : Value), QAt W G q v0 v1 v2 → 0 < cntF f q →
  Calls Tryz.prog 38 #[.agg #[v0, v1, v2]] W fun e w' => e = .returned (.string (uS (toldF f q))) ∧ Below W.heap.size W w'
set_option maxRecDepth 100000 in
set_option maxHeartbeats 2000000 in
theorem rline_text (f : Nat) (w : World) (t : List UInt8) (l : List QT) (a1 : Option Addr) (c1 : Nat) (a2 : Option Addr) (c2 : Nat) (h1 : Row w a1 t.length (bV t)) (ht : t.length ≤ 100) :
    Calls Tryz.prog 38 #[.agg #[.int .i64 1, .slice a1 t.length c1, .slice a2 l.length c2]] w fun e w' => e = .returned (.string (uS (toldF (f + 1) (.node 1 t l)))) ∧ Below w.heap.size w w' := by
  have hr : toldF (f + 1) (.node 1 t l) = quoteL t := by rw [toldF, if_pos rfl]
  rw [hr]
  have hb0 : ∀ o, Below w.heap.size w (w.alloc o) := fun o => (Below.refl _ _).alloc (Nat.le_refl _) _
  have hcv : ∀ o, (convert 22 9 (.slice a1 t.length c1)).run Tryz.prog (w.alloc o) = .ok (.string (uS t)) (w.alloc o) := fun o => convA _ a1 t c1 (h1.kept (hb0 o))
  have HQ : Hid (∀ W, Calls Tryz.prog 36 #[.string (uS t)] W fun e w' => e = .returned (.string (uS (quoteL t))) ∧ Below W.heap.size W w') := fun W => rquote_any W t (by omega)
  have HB0 := Lib.hid hb0
  have hz : ∀ ob, w.heap.size ≤ (w.alloc ob).heap.size := fun ob => by rw [World.size_alloc]; omega
  clear h1 hr hb0
  generalize quoteL t = R at *
  generalize t.length = n at *
  generalize l.length = m at *
  go_enter Tryz.func38, Tryz.ntmps38
  go_wp2_with (go_at_call 36; refine (HQ.out _).mono ?_; rintro e w4 ⟨rfl, hb4⟩)
  go_ret
  exact ⟨rfl, below_next (HB0.out _) hb4 (hz _)⟩
set_option maxRecDepth 100000 in
set_option maxHeartbeats 2000000 in
theorem rline_not (f : Nat) (ih : QRLine f) (w : World) (G : Nat → Prop) (x : QT) (a1 : Option Addr) (c1 : Nat) (a2 : Option Addr) (c2 : Nat) (V : Nat → Value) (h2 : Row w a2 3 V) (hx : QAt w G x (V 0) (V 1) (V 2)) (hc : 0 < cntF f x) :
    Calls Tryz.prog 38 #[.agg #[.int .i64 4, .slice a1 0 c1, .slice a2 1 c2]] w fun e w' => e = .returned (.string (uS (toldF (f + 1) (.node 4 [] [x])))) ∧ Below w.heap.size w w' := by
  have hr : toldF (f + 1) (.node 4 [] [x]) = 33 :: toldF f x := by rw [toldF, if_neg (by decide), if_pos rfl]; rfl
  rw [hr]
  have hlen : (toldF f x).length ≤ 320 * 60 := by have := told_len f x hc; have := cntF_le f x; omega
  have HIX := Lib.hid (run_ixQ (P := Tryz.prog) 23 3 (by kernel_rfl) (fun w => by kernel_rfl) a2 1 c2 (h2.at_.imp (fun e => by omega) id))
  have hix : ∀ W : World, (Instr.indexAt 23 (.slice a2 1 c2) (.int .i64 0)).run Tryz.prog W = .ok (.pointer (some ⟨bOf a2, oOf a2, none⟩)) W := fun W => by simpa using HIX.out W 0 (by omega)
  have HADD := add_uS [33] (toldF f x) (by simp; omega)
  have hadd : ∀ W : World, (Op.stringOp .add ⟨#[33]⟩ (uS (toldF f x))).run Tryz.prog W = .ok (.string (uS (33 :: toldF f x))) W := HADD
  have HT : Hid (∀ W, Below w.heap.size w W → Calls Tryz.prog 38 #[.agg #[V 0, V 1, V 2]] W fun e w' => e = .returned (.string (uS (toldF f x))) ∧ Below W.heap.size W w') := fun W hW => ih W G x _ _ _ (hx.kept hW) hc
  have HB0 : Hid (∀ ob, Below w.heap.size w (w.alloc ob)) := fun ob => (Below.refl _ _).alloc (Nat.le_refl _) _
  have hz : ∀ ob, w.heap.size ≤ (w.alloc ob).heap.size := fun ob => by rw [World.size_alloc]; omega
  have hd : ∀ ob j, j < 3 → (w.alloc ob).cell? ⟨bOf a2, oOf a2 + j, none⟩ = some (V j) := fun ob j hj => (h2.kept (HB0.out ob)).cell j hj
  have d0 := fun ob => hd ob 0 (by omega)
  have d1 := fun ob => hd ob 1 (by omega)
  have d2 := fun ob => hd ob 2 (by omega)
  rw [Nat.add_zero] at d0
  clear hd HADD HIX hr hx h2 ih hc hlen
  generalize V 0 = u0 at *
  generalize V 1 = u1 at *
  generalize V 2 = u2 at *
  generalize toldF f x = R at *
  go_enter Tryz.func38, Tryz.ntmps38
  go_wp2_with (go_at_call 38; refine (HT.out _ (HB0.out _)).mono ?_; rintro e w4 ⟨rfl, hb4⟩)
  go_ret
  exact ⟨rfl, below_next (HB0.out _) hb4 (hz _)⟩
set_option maxRecDepth 100000 in
set_option maxHeartbeats 4000000 in
theorem rline_and (f : Nat) (ih : QRLine f) (w : World) (G : Nat → Prop) (l : List QT) (a1 : Option Addr) (c1 : Nat) (a2 : Option Addr) (c2 : Nat) (V : Nat → Value) (h2 : Row w a2 (l.length * 3) V) (hs : ∀ i (h : i < l.length), QAt w G l[i] (V (i * 3)) (V (i * 3 + 1)) (V (i * 3 + 2))) (hc : ∀ x ∈ l, 0 < cntF f x) (hll : 2 ≤ l.length ∧ l.length ≤ 8) :
    Calls Tryz.prog 38 #[.agg #[.int .i64 2, .slice a1 0 c1, .slice a2 l.length c2]] w fun e w' => e = .returned (.string (uS (toldF (f + 1) (.node 2 [] l)))) ∧ Below w.heap.size w w' := by
  have hr : toldF (f + 1) (.node 2 [] l) = 40 :: (Lib.join (l.map (toldF f)) [38] ++ [41]) := by rw [toldF, if_neg (by decide), if_neg (by decide)]; rfl
  rw [hr]
  have hlen1 : ∀ x ∈ l, (toldF f x).length ≤ 320 * 60 := fun x hx => by have := told_len f x (hc x hx); have := cntF_le f x; omega
  have HJL : Hid (∀ i, i ≤ l.length → (Lib.join ((l.take i).map (toldF f)) [38]).length ≤ 8 * (320 * 60) + 8) := fun i hi => by
    have h1 := join_le ((l.take i).map (toldF f)) [38] (320 * 60) (by
      intro x hx
      obtain ⟨y, hy, rfl⟩ := List.mem_map.1 hx
      exact hlen1 y (List.mem_of_mem_take hy))
    simp only [List.length_map, List.length_cons, List.length_nil, List.length_take] at h1
    have h4 : min i l.length ≤ 8 := by omega
    have h3 : min i l.length * (320 * 60 + 1) ≤ 8 * (320 * 60 + 1) := Nat.mul_le_mul_right _ h4
    omega
  have HIX := Lib.hid (run_ixQ (P := Tryz.prog) 23 3 (by kernel_rfl) (fun w => by kernel_rfl) a2 l.length c2 (h2.at_.imp (fun e => by omega) id))
  have HT : Hid (∀ i (hi : i < l.length) W, Below w.heap.size w W → Calls Tryz.prog 38 #[.agg #[V (i * 3), V (i * 3 + 1), V (i * 3 + 2)]] W fun e w' => e = .returned (.string (uS (toldF f l[i]))) ∧ Below W.heap.size W w') := fun i hi W hW => ih W G l[i] _ _ _ ((hs i hi).kept hW) (hc _ (List.getElem_mem hi))
  have HL1 : Hid (∀ i (hi : i < l.length), (toldF f l[i]).length ≤ 320 * 60) := fun i hi => hlen1 _ (List.getElem_mem hi)
  have HR := Lib.hid h2
  clear hr hlen1 ih hs h2 hc
  go_enter Tryz.func38, Tryz.ntmps38
  go_wp2
  have hb0 : Below w.heap.size w (w.alloc (.cells #[.int .i64 2, .slice a1 0 c1, .slice a2 l.length c2] 25)) := (Below.refl _ _).alloc (Nat.le_refl _) _
  have hx0 : (w.alloc (.cells #[.int .i64 2, .slice a1 0 c1, .slice a2 l.length c2] 25)).heap[w.heap.size]? = some (.cells #[.int .i64 2, .slice a1 0 c1, .slice a2 l.length c2] 25 (0, 0)) := World.alloc_heap_new w _
  have HX0 := Lib.hid hx0
  have HB2 := Lib.hid hb0
  have e40 : (⟨#[40]⟩ : ByteArray) = uS (40 :: Lib.join ((l.take 0).map (toldF f)) [38]) := rfl
  clear hx0 hb0
  generalize (w.alloc (.cells #[.int .i64 2, .slice a1 0 c1, .slice a2 l.length c2] 25)) = w2 at *
  go_loopw [3, 4] (fun v3 v4 wr => ∃ (i : Nat), i ≤ l.length ∧ v3 = .string (uS (40 :: Lib.join ((l.take i).map (toldF f)) [38])) ∧ v4 = .int .i64 (i : Int) ∧ Below w2.heap.size w2 wr) (fun _ v4 _ => l.length - (intOf v4).toNat)
  case atStart => exact ⟨0, Nat.zero_le _, by rw [e40], rfl, Below.refl _ _⟩
  case round =>
    obtain ⟨i, hi, rfl, rfl, hb⟩ := hrel
    have HB := Lib.hid hb
    clear hb e40
    have hxx := (HB.out.block _ (Array.getElem?_eq_some_iff.1 HX0.out).1).trans HX0.out
    have q0 := cell_of_row wr _ 0 _ _ _ hxx
    have q2 := cell_of_row wr _ 2 _ _ _ hxx
    simp only [List.getElem?_toArray, List.getElem?_cons_succ, List.getElem?_cons_zero] at q0 q2
    have HBW : Hid (Below w.heap.size w wr) := below_next HB2.out HB.out HB2.out.size
    have hjl := HJL.out i hi
    clear hxx
    by_cases hlt : i < l.length
    · have hr2 := HR.out.kept HBW.out
      have e0 : oOf a2 + i * 3 + 1 = oOf a2 + (i * 3 + 1) := by omega
      have e1 : oOf a2 + i * 3 + 2 = oOf a2 + (i * 3 + 2) := by omega
      have p0 : wr.cell? ⟨bOf a2, oOf a2 + i * 3, none⟩ = some (V (i * 3)) := hr2.cell (i * 3) (by omega)
      have p1 : wr.cell? ⟨bOf a2, oOf a2 + i * 3 + 1, none⟩ = some (V (i * 3 + 1)) := by rw [e0]; exact hr2.cell _ (by omega)
      have p2 : wr.cell? ⟨bOf a2, oOf a2 + i * 3 + 2, none⟩ = some (V (i * 3 + 2)) := by rw [e1]; exact hr2.cell _ (by omega)
      have HK := Lib.hid (HT.out i hlt wr HBW.out)
      have hx := fun W => HIX.out W i hlt
      have hl1 := HL1.out i hlt
      have HTK : Hid ((l.take (i + 1)).map (toldF f) = (l.take i).map (toldF f) ++ [toldF f l[i]]) := by
        show _ = _
        rw [List.take_succ_eq_append_getElem hlt, List.map_append]; rfl
      have hne0 : 0 < i → (l.take i).map (toldF f) ≠ [] := fun h e => by
        have := congrArg List.length e
        rw [List.length_map, List.length_take, List.length_nil] at this
        omega
      have HTZ : Hid (i = 0 → (l.take i).map (toldF f) = []) := fun h => by subst h; rfl
      clear e0 e1 hr2
      generalize toldF f l[i] = R at *
      generalize V (i * 3) = u0 at *
      generalize V (i * 3 + 1) = u1 at *
      generalize V (i * 3 + 2) = u2 at *
      generalize (l.take i).map (toldF f) = XS at *
      by_cases hi0 : i = 0
      · have HNX : Hid (40 :: Lib.join (XS ++ [R]) [38] = (40 :: Lib.join XS [38]) ++ R) := by
          show _ = _
          rw [HTZ.out hi0, List.nil_append, join_one]; rfl
        have hgt : decide ((0 : Int) < (i : Int)) = false := decide_eq_false (by omega)
        have hgt2 : ¬ (0 : Int) < (i : Int) := by omega
        have ha := add_uS (40 :: Lib.join XS [38]) R (by simp only [List.length_cons]; omega)
        clear hi0 hne0 HTZ
        generalize (40 :: Lib.join XS [38]) ++ R = s2 at *
        go_wp2_with (go_at_call 38; refine HK.out.mono ?_; rintro e w4 ⟨rfl, hb4⟩; have HB4 := Lib.hid hb4; clear hb4)
        go_roundw
        case rel => exact ⟨i + 1, by omega, by rw [HTK.out, HNX.out], by go_num, below_next HB.out HB4.out HB.out.size⟩
        case measure => simp only [intOf]; omega
      · have HNX : Hid (40 :: Lib.join (XS ++ [R]) [38] = ((40 :: Lib.join XS [38]) ++ [38]) ++ R) := by
          show _ = _
          rw [join_snoc XS R [38] (hne0 (by omega))]; simp
        have hgt : decide ((0 : Int) < (i : Int)) = true := decide_eq_true (by omega)
        have hgt2 : (0 : Int) < (i : Int) := by omega
        have hlA : ((40 :: Lib.join XS [38]) ++ [38]).length ≤ 200000 := by simp only [List.length_append, List.length_cons, List.length_nil]; omega
        have ha1 : ∀ W : World, (Op.stringOp .add (uS (40 :: Lib.join XS [38])) ⟨#[38]⟩).run Tryz.prog W = .ok (.string (uS ((40 :: Lib.join XS [38]) ++ [38]))) W := add_uS (40 :: Lib.join XS [38]) [38] (by simp only [List.length_cons, List.length_nil]; omega)
        generalize (40 :: Lib.join XS [38]) ++ [38] = s1 at *
        have ha2 := add_uS s1 R (by omega)
        clear hi0 hne0 HTZ hlA
        generalize s1 ++ R = s2 at *
        go_wp2_with (go_at_call 38; refine HK.out.mono ?_; rintro e w4 ⟨rfl, hb4⟩; have HB4 := Lib.hid hb4; clear hb4)
        go_roundw
        case rel => exact ⟨i + 1, by omega, by rw [HTK.out, HNX.out], by go_num, below_next HB.out HB4.out HB.out.size⟩
        case measure => simp only [intOf]; omega
    · obtain rfl : i = l.length := by omega
      have hd : decide ((l.length : Int) < (l.length : Int)) = false := by simp
      have ha := add_uS (40 :: Lib.join ((l.take l.length).map (toldF f)) [38]) [41] (by simp only [List.length_cons, List.length_nil]; omega)
      have HE : Hid ((40 :: Lib.join ((l.take l.length).map (toldF f)) [38]) ++ [41] = 40 :: (Lib.join (l.map (toldF f)) [38] ++ [41])) := by show _ = _; rw [List.take_length]; rfl
      rw [HE.out] at ha
      have ha' : ∀ W : World, (Op.stringOp .add (uS (40 :: Lib.join ((l.take l.length).map (toldF f)) [38])) ⟨#[41]⟩).run Tryz.prog W = .ok (.string (uS (40 :: (Lib.join (l.map (toldF f)) [38] ++ [41])))) W := ha
      clear ha hjl
      generalize hRE : 40 :: (Lib.join (l.map (toldF f)) [38] ++ [41]) = R at *
      have HRE := Lib.hid hRE
      clear hRE
      generalize (40 :: Lib.join ((l.take l.length).map (toldF f)) [38]) = s1 at *
      go_wp2
      go_ret
      exact ⟨by rw [HRE.out]; rfl, HBW.out⟩
set_option maxRecDepth 100000 in
set_option maxHeartbeats 4000000 in
theorem rline_or (f : Nat) (ih : QRLine f) (w : World) (G : Nat → Prop) (l : List QT) (a1 : Option Addr) (c1 : Nat) (a2 : Option Addr) (c2 : Nat) (V : Nat → Value) (h2 : Row w a2 (l.length * 3) V) (hs : ∀ i (h : i < l.length), QAt w G l[i] (V (i * 3)) (V (i * 3 + 1)) (V (i * 3 + 2))) (hc : ∀ x ∈ l, 0 < cntF f x) (hll : 2 ≤ l.length ∧ l.length ≤ 8) :
    Calls Tryz.prog 38 #[.agg #[.int .i64 3, .slice a1 0 c1, .slice a2 l.length c2]] w fun e w' => e = .returned (.string (uS (toldF (f + 1) (.node 3 [] l)))) ∧ Below w.heap.size w w' := by
  have hr : toldF (f + 1) (.node 3 [] l) = 40 :: (Lib.join (l.map (toldF f)) [124] ++ [41]) := by rw [toldF, if_neg (by decide), if_neg (by decide)]; rfl
  rw [hr]
  have hlen1 : ∀ x ∈ l, (toldF f x).length ≤ 320 * 60 := fun x hx => by have := told_len f x (hc x hx); have := cntF_le f x; omega
  have HJL : Hid (∀ i, i ≤ l.length → (Lib.join ((l.take i).map (toldF f)) [124]).length ≤ 8 * (320 * 60) + 8) := fun i hi => by
    have h1 := join_le ((l.take i).map (toldF f)) [124] (320 * 60) (by
      intro x hx
      obtain ⟨y, hy, rfl⟩ := List.mem_map.1 hx
      exact hlen1 y (List.mem_of_mem_take hy))
    simp only [List.length_map, List.length_cons, List.length_nil, List.length_take] at h1
    have h4 : min i l.length ≤ 8 := by omega
    have h3 : min i l.length * (320 * 60 + 1) ≤ 8 * (320 * 60 + 1) := Nat.mul_le_mul_right _ h4
    omega
  have HIX := Lib.hid (run_ixQ (P := Tryz.prog) 23 3 (by kernel_rfl) (fun w => by kernel_rfl) a2 l.length c2 (h2.at_.imp (fun e => by omega) id))
  have HT : Hid (∀ i (hi : i < l.length) W, Below w.heap.size w W → Calls Tryz.prog 38 #[.agg #[V (i * 3), V (i * 3 + 1), V (i * 3 + 2)]] W fun e w' => e = .returned (.string (uS (toldF f l[i]))) ∧ Below W.heap.size W w') := fun i hi W hW => ih W G l[i] _ _ _ ((hs i hi).kept hW) (hc _ (List.getElem_mem hi))
  have HL1 : Hid (∀ i (hi : i < l.length), (toldF f l[i]).length ≤ 320 * 60) := fun i hi => hlen1 _ (List.getElem_mem hi)
  have HR := Lib.hid h2
  clear hr hlen1 ih hs h2 hc
  go_enter Tryz.func38, Tryz.ntmps38
  go_wp2
  have hb0 : Below w.heap.size w (w.alloc (.cells #[.int .i64 3, .slice a1 0 c1, .slice a2 l.length c2] 25)) := (Below.refl _ _).alloc (Nat.le_refl _) _
  have hx0 : (w.alloc (.cells #[.int .i64 3, .slice a1 0 c1, .slice a2 l.length c2] 25)).heap[w.heap.size]? = some (.cells #[.int .i64 3, .slice a1 0 c1, .slice a2 l.length c2] 25 (0, 0)) := World.alloc_heap_new w _
  have HX0 := Lib.hid hx0
  have HB2 := Lib.hid hb0
  have e40 : (⟨#[40]⟩ : ByteArray) = uS (40 :: Lib.join ((l.take 0).map (toldF f)) [124]) := rfl
  clear hx0 hb0
  generalize (w.alloc (.cells #[.int .i64 3, .slice a1 0 c1, .slice a2 l.length c2] 25)) = w2 at *
  go_loopw [3, 4] (fun v3 v4 wr => ∃ (i : Nat), i ≤ l.length ∧ v3 = .string (uS (40 :: Lib.join ((l.take i).map (toldF f)) [124])) ∧ v4 = .int .i64 (i : Int) ∧ Below w2.heap.size w2 wr) (fun _ v4 _ => l.length - (intOf v4).toNat)
  case atStart => exact ⟨0, Nat.zero_le _, by rw [e40], rfl, Below.refl _ _⟩
  case round =>
    obtain ⟨i, hi, rfl, rfl, hb⟩ := hrel
    have HB := Lib.hid hb
    clear hb e40
    have hxx := (HB.out.block _ (Array.getElem?_eq_some_iff.1 HX0.out).1).trans HX0.out
    have q0 := cell_of_row wr _ 0 _ _ _ hxx
    have q2 := cell_of_row wr _ 2 _ _ _ hxx
    simp only [List.getElem?_toArray, List.getElem?_cons_succ, List.getElem?_cons_zero] at q0 q2
    have HBW : Hid (Below w.heap.size w wr) := below_next HB2.out HB.out HB2.out.size
    have hjl := HJL.out i hi
    clear hxx
    by_cases hlt : i < l.length
    · have hr2 := HR.out.kept HBW.out
      have e0 : oOf a2 + i * 3 + 1 = oOf a2 + (i * 3 + 1) := by omega
      have e1 : oOf a2 + i * 3 + 2 = oOf a2 + (i * 3 + 2) := by omega
      have p0 : wr.cell? ⟨bOf a2, oOf a2 + i * 3, none⟩ = some (V (i * 3)) := hr2.cell (i * 3) (by omega)
      have p1 : wr.cell? ⟨bOf a2, oOf a2 + i * 3 + 1, none⟩ = some (V (i * 3 + 1)) := by rw [e0]; exact hr2.cell _ (by omega)
      have p2 : wr.cell? ⟨bOf a2, oOf a2 + i * 3 + 2, none⟩ = some (V (i * 3 + 2)) := by rw [e1]; exact hr2.cell _ (by omega)
      have HK := Lib.hid (HT.out i hlt wr HBW.out)
      have hx := fun W => HIX.out W i hlt
      have hl1 := HL1.out i hlt
      have HTK : Hid ((l.take (i + 1)).map (toldF f) = (l.take i).map (toldF f) ++ [toldF f l[i]]) := by
        show _ = _
        rw [List.take_succ_eq_append_getElem hlt, List.map_append]; rfl
      have hne0 : 0 < i → (l.take i).map (toldF f) ≠ [] := fun h e => by
        have := congrArg List.length e
        rw [List.length_map, List.length_take, List.length_nil] at this
        omega
      have HTZ : Hid (i = 0 → (l.take i).map (toldF f) = []) := fun h => by subst h; rfl
      clear e0 e1 hr2
      generalize toldF f l[i] = R at *
      generalize V (i * 3) = u0 at *
      generalize V (i * 3 + 1) = u1 at *
      generalize V (i * 3 + 2) = u2 at *
      generalize (l.take i).map (toldF f) = XS at *
      by_cases hi0 : i = 0
      · have HNX : Hid (40 :: Lib.join (XS ++ [R]) [124] = (40 :: Lib.join XS [124]) ++ R) := by
          show _ = _
          rw [HTZ.out hi0, List.nil_append, join_one]; rfl
        have hgt : decide ((0 : Int) < (i : Int)) = false := decide_eq_false (by omega)
        have hgt2 : ¬ (0 : Int) < (i : Int) := by omega
        have ha := add_uS (40 :: Lib.join XS [124]) R (by simp only [List.length_cons]; omega)
        clear hi0 hne0 HTZ
        generalize (40 :: Lib.join XS [124]) ++ R = s2 at *
        go_wp2_with (go_at_call 38; refine HK.out.mono ?_; rintro e w4 ⟨rfl, hb4⟩; have HB4 := Lib.hid hb4; clear hb4)
        go_roundw
        case rel => exact ⟨i + 1, by omega, by rw [HTK.out, HNX.out], by go_num, below_next HB.out HB4.out HB.out.size⟩
        case measure => simp only [intOf]; omega
      · have HNX : Hid (40 :: Lib.join (XS ++ [R]) [124] = ((40 :: Lib.join XS [124]) ++ [124]) ++ R) := by
          show _ = _
          rw [join_snoc XS R [124] (hne0 (by omega))]; simp
        have hgt : decide ((0 : Int) < (i : Int)) = true := decide_eq_true (by omega)
        have hgt2 : (0 : Int) < (i : Int) := by omega
        have hlA : ((40 :: Lib.join XS [124]) ++ [124]).length ≤ 200000 := by simp only [List.length_append, List.length_cons, List.length_nil]; omega
        have ha1 : ∀ W : World, (Op.stringOp .add (uS (40 :: Lib.join XS [124])) ⟨#[124]⟩).run Tryz.prog W = .ok (.string (uS ((40 :: Lib.join XS [124]) ++ [124]))) W := add_uS (40 :: Lib.join XS [124]) [124] (by simp only [List.length_cons, List.length_nil]; omega)
        generalize (40 :: Lib.join XS [124]) ++ [124] = s1 at *
        have ha2 := add_uS s1 R (by omega)
        clear hi0 hne0 HTZ hlA
        generalize s1 ++ R = s2 at *
        go_wp2_with (go_at_call 38; refine HK.out.mono ?_; rintro e w4 ⟨rfl, hb4⟩; have HB4 := Lib.hid hb4; clear hb4)
        go_roundw
        case rel => exact ⟨i + 1, by omega, by rw [HTK.out, HNX.out], by go_num, below_next HB.out HB4.out HB.out.size⟩
        case measure => simp only [intOf]; omega
    · obtain rfl : i = l.length := by omega
      have hd : decide ((l.length : Int) < (l.length : Int)) = false := by simp
      have ha := add_uS (40 :: Lib.join ((l.take l.length).map (toldF f)) [124]) [41] (by simp only [List.length_cons, List.length_nil]; omega)
      have HE : Hid ((40 :: Lib.join ((l.take l.length).map (toldF f)) [124]) ++ [41] = 40 :: (Lib.join (l.map (toldF f)) [124] ++ [41])) := by show _ = _; rw [List.take_length]; rfl
      rw [HE.out] at ha
      have ha' : ∀ W : World, (Op.stringOp .add (uS (40 :: Lib.join ((l.take l.length).map (toldF f)) [124])) ⟨#[41]⟩).run Tryz.prog W = .ok (.string (uS (40 :: (Lib.join (l.map (toldF f)) [124] ++ [41])))) W := ha
      clear ha hjl
      generalize hRE : 40 :: (Lib.join (l.map (toldF f)) [124] ++ [41]) = R at *
      have HRE := Lib.hid hRE
      clear hRE
      generalize (40 :: Lib.join ((l.take l.length).map (toldF f)) [124]) = s1 at *
      go_wp2
      go_ret
      exact ⟨by rw [HRE.out]; rfl, HBW.out⟩
theorem rline_step (f : Nat) (ih : QRLine f) : QRLine (f + 1) := by
  intro W G q v0 v1 v2 h hc
  cases h with
  | mk k t l a1 c1 a2 c2 V h1 g1 m1 h2 g2 m2 hs =>
    obtain ⟨ho, _, hsub⟩ := cntF_pos hc
    rcases (okH_iff _ _ _).1 ho with ⟨rfl, e1, e2, e3⟩ | ⟨rfl, e1, e2⟩ | ⟨hk, e1, e2, e3⟩
    · exact rline_text f W t l a1 c1 a2 c2 h1 e2
    · obtain rfl : t = [] := List.eq_nil_of_length_eq_zero e1
      obtain ⟨x, rfl⟩ := List.length_eq_one_iff.1 e2
      exact rline_not f ih W G x a1 c1 a2 c2 V h2 (hs 0 (by simp)) (hsub x (by simp))
    · obtain rfl : t = [] := List.eq_nil_of_length_eq_zero e1
      rcases hk with rfl | rfl
      · exact rline_and f ih W G l a1 c1 a2 c2 V h2 hs hsub ⟨e2, e3⟩
      · exact rline_or f ih W G l a1 c1 a2 c2 V h2 hs hsub ⟨e2, e3⟩
theorem rline_any : ∀ f, QRLine f
  | 0 => fun W G q v0 v1 v2 h hc => by rw [cntF] at hc; omega
  | f + 1 => rline_step f (rline_any f)
end Go.Proofs.YtdcobmoeligdkaaGreatDoor
