/-
  query.told, query.Text: at any query.
-/
import Derived.Test.YtdcobmoeligdkaaGreatDoorCmQParse
import Derived.Lib.VarintMem
import Derived.Laws.RangeAny
namespace Go.Proofs.YtdcobmoeligdkaaGreatDoor
open Go.RowKit Go.Shelf

/-- a query's text -/
def toldF : Nat → QT → List UInt8
  | 0, _ => []
  | f + 1, .node k t l =>
    if k = 1 then quoteL t
    else if k = 4 then 33 :: toldF f (l.headD q0)
    else 40 :: (Lib.join (l.map (toldF f)) [if k = 3 then 124 else 38] ++ [41])
theorem cntL_sub {c : QT → Int} (hc : ∀ x, c x = -1 ∨ 1 ≤ c x) : ∀ (l : List QT) (n : Int), 1 ≤ n → 0 < cntL c n l → (∀ x ∈ l, 0 < c x) ∧ ∀ x ∈ l, c x + n ≤ cntL c n l
  | [], n, _, _ => ⟨by simp, by simp⟩
  | y :: r, n, hn, h => by
    rw [cntL] at h ⊢
    split at h
    · omega
    · rename_i h1
      have hy := hc y
      rw [if_neg h1]
      have ih := cntL_sub hc r (n + c y) (by omega) h
      refine ⟨fun x hx => ?_, fun x hx => ?_⟩
      · rcases List.mem_cons.1 hx with rfl | hx
        · omega
        · exact ih.1 x hx
      · rcases List.mem_cons.1 hx with rfl | hx
        · have : n + c x ≤ cntL c (n + c x) r := cntL_ge hc r _ (by omega) h
          omega
        · have := ih.2 x hx; omega
where cntL_ge {c : QT → Int} (hc : ∀ x, c x = -1 ∨ 1 ≤ c x) : ∀ (l : List QT) (n : Int), 1 ≤ n → 0 < cntL c n l → n ≤ cntL c n l
  | [], n, _, _ => Int.le_refl _
  | y :: r, n, hn, h => by
    rw [cntL] at h ⊢
    split at h
    · omega
    · rename_i h1
      have hy := hc y
      rw [if_neg h1]
      have := cntL_ge hc r (n + c y) (by omega) h
      omega
theorem cntL_cases {c : QT → Int} (hc : ∀ x, c x = -1 ∨ 1 ≤ c x) : ∀ (l : List QT) (n : Int), 1 ≤ n → cntL c n l = -1 ∨ 1 ≤ cntL c n l
  | [], n, h => .inr h
  | y :: r, n, h => by
    rw [cntL]
    split
    · exact .inl rfl
    · have hy := hc y
      exact cntL_cases hc r _ (by omega)
theorem cntF_cases : ∀ (f : Nat) (q : QT), cntF f q = -1 ∨ 1 ≤ cntF f q
  | 0, q => .inl (by rw [cntF])
  | f + 1, .node k t l => by
    rw [cntF]
    split
    · exact cntL_cases (cntF_cases f) l 1 (by omega)
    · exact .inl rfl
theorem cntF_pos {f : Nat} {k : Int} {t : List UInt8} {l : List QT} (h : 0 < cntF (f + 1) (.node k t l)) : okH k t l.length = true ∧ 0 < cntL (cntF f) 1 l ∧ ∀ x ∈ l, 0 < cntF f x := by
  rw [cntF] at h
  split at h
  · rename_i ho
    exact ⟨ho, h, (cntL_sub (cntF_cases f) l 1 (by omega) h).1⟩
  · omega
/-- the lengths of texts, together -/
theorem lens_cnt {c : QT → Int} {g : QT → List UInt8} (hc : ∀ x, c x = -1 ∨ 1 ≤ c x) (hg : ∀ x, 0 < c x → ((g x).length : Int) ≤ 320 * c x) : ∀ (l : List QT) (n : Int), 1 ≤ n → 0 < cntL c n l → (Lib.lens (l.map g) : Int) ≤ 320 * (cntL c n l - n)
  | [], n, _, _ => by simp [Lib.lens, cntL]
  | y :: r, n, hn, h => by
    rw [cntL] at h ⊢
    split at h
    · omega
    · rename_i h1
      have hy := hc y
      rw [if_neg h1]
      have ih := lens_cnt hc hg r (n + c y) (by omega) h
      have h2 := hg y (by omega)
      have : Lib.lens ((y :: r).map g) = (g y).length + Lib.lens (r.map g) := rfl
      rw [this]
      omega
theorem told_len : ∀ (f : Nat) (q : QT), 0 < cntF f q → ((toldF f q).length : Int) ≤ 320 * cntF f q
  | 0, q, h => by rw [cntF] at h; omega
  | f + 1, .node k t l, h => by
    obtain ⟨ho, hl, hs⟩ := cntF_pos h
    have ho2 := (okH_iff _ _ _).1 ho
    have hc : cntF (f + 1) (.node k t l) = cntL (cntF f) 1 l := by rw [cntF, if_pos ho]
    rw [hc, toldF]
    have hlen := lens_cnt (g := toldF f) (cntF_cases f) (told_len f) l 1 (by omega) hl
    by_cases h1 : k = 1
    · rw [if_pos h1]
      have := quoteL_len t
      omega
    · rw [if_neg h1]
      by_cases h4 : k = 4
      · rw [if_pos h4]
        cases l with
        | nil => simp at ho2; omega
        | cons x r =>
          have : Lib.lens ((x :: r).map (toldF f)) = (toldF f x).length + Lib.lens (r.map (toldF f)) := rfl
          rw [this] at hlen
          simp only [List.headD_cons, List.length_cons]
          omega
      · rw [if_neg h4]
        simp only [List.length_cons, List.length_append, List.length_nil]
        cases l with
        | nil => have h0 : ([] : List QT).length = 0 := rfl; omega
        | cons x r =>
          rw [List.map_cons] at hlen ⊢
          rw [Lib.join_length]
          simp only [List.length_map, List.length_cons, List.length_nil] at ho2 ⊢
          omega

theorem join_sep (w : World) (sep : List UInt8) (a : Option Addr) (cap : Nat) (xs : List (List UInt8)) (h1 : 1 ≤ xs.length) (ha : a = some ⟨bOf a, 0, none⟩) (hcap : xs.length ≤ cap) (hr : Row w a xs.length (fun k => (xs.map fun x => (.string (uS x) : Value)).getD k undef)) (hl : (Lib.join xs sep).length ≤ 200000) (hm : xs.length ≤ 1000) :
    Calls Tryz.prog 15 #[.slice a xs.length cap, .string (uS sep)] w fun e w' => e = .returned (.string (uS (Lib.join xs sep))) ∧ Below w.heap.size w w' := by
  have hx : (xs.map uS).map (fun b : ByteArray => b.data.toList) = xs := by rw [List.map_map]; exact List.map_id _
  have hlen : (xs.map uS).length = xs.length := List.length_map ..
  have h := Tryz.strings_Join (bOf a) 0 cap (xs.map uS) (uS sep) w (fun j x hj => ?_) (hr.lt (by omega)) (by rw [hlen]; omega) (by rw [hlen]; exact hcap) (by rw [hx]; exact Nat.le_trans hl (by decide))
  · rw [hlen, hx, ← ha] at h
    exact h
  · have hjl : j < xs.length := by have := (List.getElem?_eq_some_iff.1 hj).1; rwa [hlen] at this
    have hc := hr.cell j hjl
    have ho : oOf a = 0 := by rw [ha]; rfl
    rw [ho] at hc
    rw [hc]
    rw [List.getElem?_map] at hj
    rw [List.getD_eq_getElem?_getD, List.getElem?_map]
    cases hq : xs[j]? with
    | none => rw [hq] at hj; cases hj
    | some y => rw [hq] at hj; cases hj; rfl
theorem own_form {w : World} {base : Nat} {e : TypeId} {v : Value} {n size : Nat} {xs : List Value} (h : w.ownsRow base e size v n xs) : ∃ a c, v = .slice a n c ∧ n ≤ c ∧ (a = none → c = 0) := by
  rcases h.2 with ⟨rfl, h0⟩ | ⟨g, cap, cur, rfl, _, _, h1, _⟩
  · rw [h0]; exact ⟨none, 0, rfl, Nat.le_refl _, fun _ => rfl⟩
  · exact ⟨_, cap, rfl, h1, fun h => by cases h⟩
theorem lens_le : ∀ (xs : List (List UInt8)) (m : Nat), (∀ x ∈ xs, x.length ≤ m) → Lib.lens xs ≤ xs.length * m
  | [], m, _ => by simp [Lib.lens]
  | x :: r, m, h => by
    have h1 := h x (by simp)
    have h2 := lens_le r m (fun y hy => h y (by simp [hy]))
    have : Lib.lens (x :: r) = x.length + Lib.lens r := rfl
    rw [this, List.length_cons, Nat.add_mul, Nat.one_mul]
    omega
theorem join_le (xs : List (List UInt8)) (sep : List UInt8) (m : Nat) (h : ∀ x ∈ xs, x.length ≤ m) : (Lib.join xs sep).length ≤ xs.length * (m + sep.length) := by
  cases xs with
  | nil => simp [Lib.join_nil]
  | cons x r =>
    have h1 := lens_le (x :: r) m h
    rw [Lib.join_length]
    rw [List.length_cons] at h1 ⊢
    rw [Nat.mul_add]
    have : sep.length * r.length ≤ (r.length + 1) * sep.length := by rw [Nat.mul_comm]; exact Nat.mul_le_mul_right _ (by omega)
    omega
def QTold (f : Nat) : Prop := ∀ (W : World) (G : Nat → Prop) (q : QT) (v0 v1 v2 : Value), QAt W G q v0 v1 v2 → 0 < cntF f q →
  Calls Tryz.prog 31 #[.agg #[v0, v1, v2]] W fun e w' => e = .returned (.string (uS (toldF f q))) ∧ Below W.heap.size W w'
set_option maxRecDepth 100000 in
set_option maxHeartbeats 2000000 in
theorem told_text (f : Nat) (w : World) (t : List UInt8) (l : List QT) (a1 : Option Addr) (c1 : Nat) (a2 : Option Addr) (c2 : Nat) (h1 : Row w a1 t.length (bV t)) (ht : t.length ≤ 100) :
    Calls Tryz.prog 31 #[.agg #[.int .i64 1, .slice a1 t.length c1, .slice a2 l.length c2]] w fun e w' => e = .returned (.string (uS (toldF (f + 1) (.node 1 t l)))) ∧ Below w.heap.size w w' := by
  have hr : toldF (f + 1) (.node 1 t l) = quoteL t := by rw [toldF, if_pos rfl]
  rw [hr]
  have HQ : Hid (∀ W, Below w.heap.size w W → Calls Tryz.prog 12 #[.slice a1 t.length c1] W fun e w' => e = .returned (.string (uS (quoteL t))) ∧ Below W.heap.size W w') := fun W hW => quote_any W a1 c1 t (by omega) (h1.kept hW)
  have HB0 : Hid (∀ ob, Below w.heap.size w (w.alloc ob)) := fun ob => (Below.refl _ _).alloc (Nat.le_refl _) _
  have hz : ∀ ob, w.heap.size ≤ (w.alloc ob).heap.size := fun ob => by rw [World.size_alloc]; omega
  clear h1 hr
  generalize quoteL t = R at *
  generalize t.length = n at *
  generalize l.length = m at *
  go_enter Tryz.func31, Tryz.ntmps31
  go_wp2_with (go_at_call 12; refine (HQ.out _ (HB0.out _)).mono ?_; rintro e w4 ⟨rfl, hb4⟩)
  go_ret
  exact ⟨rfl, below_next (HB0.out _) hb4 (hz _)⟩
set_option maxRecDepth 100000 in
set_option maxHeartbeats 2000000 in
theorem told_not (f : Nat) (ih : QTold f) (w : World) (G : Nat → Prop) (x : QT) (a1 : Option Addr) (c1 : Nat) (a2 : Option Addr) (c2 : Nat) (V : Nat → Value) (h2 : Row w a2 3 V) (hx : QAt w G x (V 0) (V 1) (V 2)) (hc : 0 < cntF f x) :
    Calls Tryz.prog 31 #[.agg #[.int .i64 4, .slice a1 0 c1, .slice a2 1 c2]] w fun e w' => e = .returned (.string (uS (toldF (f + 1) (.node 4 [] [x])))) ∧ Below w.heap.size w w' := by
  have hr : toldF (f + 1) (.node 4 [] [x]) = 33 :: toldF f x := by rw [toldF, if_neg (by decide), if_pos rfl]; rfl
  rw [hr]
  have hlen : (toldF f x).length ≤ 320 * 60 := by have := told_len f x hc; have := cntF_le f x; omega
  have HIX := Lib.hid (run_ixQ (P := Tryz.prog) 23 3 (by kernel_rfl) (fun w => by kernel_rfl) a2 1 c2 (h2.at_.imp (fun e => by omega) id))
  have hix : ∀ W : World, (Instr.indexAt 23 (.slice a2 1 c2) (.int .i64 0)).run Tryz.prog W = .ok (.pointer (some ⟨bOf a2, oOf a2, none⟩)) W := fun W => by simpa using HIX.out W 0 (by omega)
  have HADD := add_uS [33] (toldF f x) (by simp; omega)
  have hadd : ∀ W : World, (Op.stringOp .add ⟨#[33]⟩ (uS (toldF f x))).run Tryz.prog W = .ok (.string (uS (33 :: toldF f x))) W := HADD
  have HT : Hid (∀ W, Below w.heap.size w W → Calls Tryz.prog 31 #[.agg #[V 0, V 1, V 2]] W fun e w' => e = .returned (.string (uS (toldF f x))) ∧ Below W.heap.size W w') := fun W hW => ih W G x _ _ _ (hx.kept hW) hc
  obtain ⟨p1, n1, k1, p2, n2, k2, y0, y1, y2⟩ := hx.form
  have HB0 : Hid (∀ ob, Below w.heap.size w (w.alloc ob)) := fun ob => (Below.refl _ _).alloc (Nat.le_refl _) _
  have hz : ∀ ob, w.heap.size ≤ (w.alloc ob).heap.size := fun ob => by rw [World.size_alloc]; omega
  have hd : ∀ ob j, j < 3 → (w.alloc ob).cell? ⟨bOf a2, oOf a2 + j, none⟩ = some (V j) := fun ob j hj => (h2.kept (HB0.out ob)).cell j hj
  have d0 := fun ob => hd ob 0 (by omega)
  have d1 := fun ob => hd ob 1 (by omega)
  have d2 := fun ob => hd ob 2 (by omega)
  rw [y0] at d0
  rw [y1] at d1
  rw [y2] at d2
  rw [y0, y1, y2] at HT
  rw [Nat.add_zero] at d0
  clear hd HADD HIX hr hx h2 ih hc hlen y0 y1 y2
  generalize x.k = xk at *
  generalize toldF f x = R at *
  generalize V = V' at *
  go_enter Tryz.func31, Tryz.ntmps31
  go_wp2_with (go_at_call 31; refine (HT.out _ (HB0.out _)).mono ?_; rintro e w4 ⟨rfl, hb4⟩)
  go_ret
  exact ⟨rfl, below_next (HB0.out _) hb4 (hz _)⟩

theorem info_strq : (Tryz.prog.info? 9).map (fun i => (i.zero, i.size, i.bytes)) = some (some (.string ByteArray.empty), 1, 16) := by kernel_rfl
def sQ (l : List (List UInt8)) : List Value := l.map fun x => (.string (uS x) : Value)
theorem sQ_snoc (l : List (List UInt8)) (x : List UInt8) : sQ (l ++ [x]) = sQ l ++ [.string (uS x)] := by simp [sQ]
set_option maxRecDepth 100000 in
set_option maxHeartbeats 4000000 in
theorem told_and (f : Nat) (ih : QTold f) (w : World) (G : Nat → Prop) (l : List QT) (a1 : Option Addr) (c1 : Nat) (a2 : Option Addr) (c2 : Nat) (V : Nat → Value) (h2 : Row w a2 (l.length * 3) V) (hs : ∀ i (h : i < l.length), QAt w G l[i] (V (i * 3)) (V (i * 3 + 1)) (V (i * 3 + 2))) (hc : ∀ x ∈ l, 0 < cntF f x) (hll : 2 ≤ l.length ∧ l.length ≤ 8) :
    Calls Tryz.prog 31 #[.agg #[.int .i64 2, .slice a1 0 c1, .slice a2 l.length c2]] w fun e w' => e = .returned (.string (uS (toldF (f + 1) (.node 2 [] l)))) ∧ Below w.heap.size w w' := by
  obtain ⟨is, his, hxs0, hxs1, hxs2⟩ := info_parts info_strq
  have hr : toldF (f + 1) (.node 2 [] l) = 40 :: (Lib.join (l.map (toldF f)) [38] ++ [41]) := by rw [toldF, if_neg (by decide), if_neg (by decide)]; rfl
  rw [hr]
  have hlen1 : ∀ x ∈ l, (toldF f x).length ≤ 320 * 60 := fun x hx => by have := told_len f x (hc x hx); have := cntF_le f x; omega
  have hjl : (Lib.join (l.map (toldF f)) [38]).length ≤ 8 * (320 * 60) + 8 := by
    have h1 := join_le (l.map (toldF f)) [38] (320 * 60) (by simpa using hlen1)
    simp only [List.length_map, List.length_cons, List.length_nil] at h1
    have h3 : l.length * (320 * 60 + 1) ≤ 8 * (320 * 60 + 1) := Nat.mul_le_mul_right _ hll.2
    omega
  have hadd1 : ∀ W : World, (Op.stringOp .add ⟨#[40]⟩ (uS (Lib.join (l.map (toldF f)) [38]))).run Tryz.prog W = .ok (.string (uS (40 :: Lib.join (l.map (toldF f)) [38]))) W := add_uS [40] (Lib.join (l.map (toldF f)) [38]) (by simp; omega)
  have hadd2 : ∀ W : World, (Op.stringOp .add (uS (40 :: Lib.join (l.map (toldF f)) [38])) ⟨#[41]⟩).run Tryz.prog W = .ok (.string (uS (40 :: (Lib.join (l.map (toldF f)) [38] ++ [41])))) W := add_uS (40 :: Lib.join (l.map (toldF f)) [38]) [41] (by simp; omega)
  have HIX := Lib.hid (run_ixQ (P := Tryz.prog) 23 3 (by kernel_rfl) (fun w => by kernel_rfl) a2 l.length c2 (h2.at_.imp (fun e => by omega) id))
  have HT : Hid (∀ i (hi : i < l.length) W, Below w.heap.size w W → Calls Tryz.prog 31 #[.agg #[V (i * 3), V (i * 3 + 1), V (i * 3 + 2)]] W fun e w' => e = .returned (.string (uS (toldF f l[i]))) ∧ Below W.heap.size W w') := fun i hi W hW => ih W G l[i] _ _ _ ((hs i hi).kept hW) (hc _ (List.getElem_mem hi))
  have HS := Lib.hid hs
  have HR := Lib.hid h2
  have HJ : Hid (∀ (W : World) v, W.ownsRow (w.heap.size + 1) 9 1 v l.length (sQ (l.map (toldF f))) → Calls Tryz.prog 15 #[v, .string ⟨#[38]⟩] W fun e w' => e = .returned (.string (uS (Lib.join (l.map (toldF f)) [38]))) ∧ Below W.heap.size W w') := fun W v ho => by
    obtain ⟨a, cap, rfl, hcap, hrow, hlow, hat⟩ := Row.of_owns ho
    have hlm : (l.map (toldF f)).length = l.length := List.length_map ..
    rw [← hlm] at hrow hcap ⊢
    exact join_sep W [38] a cap (l.map (toldF f)) (by omega) (hat (by omega)) hcap hrow (by omega) (by omega)
  clear hr hlen1 hjl ih hs h2 hc
  go_enter Tryz.func31, Tryz.ntmps31
  go_wp2
  have HB0 : Hid (Below w.heap.size w (w.alloc (.cells #[.int .i64 2, .slice a1 0 c1, .slice a2 l.length c2] 25))) := (Below.refl _ _).alloc (Nat.le_refl _) _
  have hs0 : (w.alloc (.cells #[.int .i64 2, .slice a1 0 c1, .slice a2 l.length c2] 25)).heap.size = w.heap.size + 1 := by rw [World.size_alloc]
  generalize (w.alloc (.cells #[.int .i64 2, .slice a1 0 c1, .slice a2 l.length c2] 25)) = w0 at *
  go_loopw [4, 28] (fun v4 v28 wr => ∃ (i : Nat), i ≤ l.length ∧ v28 = .int .i64 (i : Int) ∧ Below w.heap.size w wr ∧ w.heap.size + 1 ≤ wr.heap.size ∧ wr.ownsRow (w.heap.size + 1) 9 1 v4 i (sQ ((l.take i).map (toldF f)))) (fun _ v28 _ => l.length - (intOf v28).toNat)
  case atStart => exact ⟨0, Nat.zero_le _, rfl, HB0.out, by omega, World.ownsRow_nil _ _ _ _⟩
  case round =>
    obtain ⟨i, hi, rfl, hb, hsr, ho⟩ := hrel
    have HB := Lib.hid hb
    have HO := Lib.hid ho
    clear hb
    by_cases hlt : i < l.length
    · have hq := HS.out i hlt
      have hr2 := HR.out.kept HB.out
      have e0 : oOf a2 + i * 3 + 1 = oOf a2 + (i * 3 + 1) := by omega
      have e1 : oOf a2 + i * 3 + 2 = oOf a2 + (i * 3 + 2) := by omega
      have d0 : wr.cell? ⟨bOf a2, oOf a2 + i * 3, none⟩ = some (V (i * 3)) := hr2.cell (i * 3) (by omega)
      have d1 : wr.cell? ⟨bOf a2, oOf a2 + i * 3 + 1, none⟩ = some (V (i * 3 + 1)) := by rw [e0]; exact hr2.cell _ (by omega)
      have d2 : wr.cell? ⟨bOf a2, oOf a2 + i * 3 + 2, none⟩ = some (V (i * 3 + 2)) := by rw [e1]; exact hr2.cell _ (by omega)
      have HK : Hid (∀ W, Below wr.heap.size wr W → Calls Tryz.prog 31 #[.agg #[V (i * 3), V (i * 3 + 1), V (i * 3 + 2)]] W fun e w' => e = .returned (.string (uS (toldF f l[i]))) ∧ Below W.heap.size W w') := fun W hW => HT.out i hlt W (below_next HB.out hW HB.out.size)
      have HTK : Hid (sQ ((l.take (i + 1)).map (toldF f)) = sQ ((l.take i).map (toldF f)) ++ [.string (uS (toldF f l[i]))]) := by
        show _ = _
        rw [List.take_succ_eq_append_getElem hlt, List.map_append]
        exact sQ_snoc _ _
      obtain ⟨p1, n1, k1, p2, n2, k2, y0, y1, y2⟩ := hq.form
      rw [y0, y1, y2] at HK
      rw [y0] at d0
      rw [y1] at d1
      rw [y2] at d2
      have hx := fun W => HIX.out W i hlt
      obtain ⟨a4, cc4, hv4, hcap4, hnn4⟩ := own_form ho
      clear e0 e1 hq hr2 y0 y1 y2 ho
      subst hv4
      have hll2 := hll.2
      generalize l[i].k = xk at *
      generalize toldF f l[i] = R at *
      generalize hXS : sQ ((l.take i).map (toldF f)) = XS at *
      go_wp2_with (first
        | (go_at_call 31; refine (HK.out _ ((Below.refl _ _).alloc (Nat.le_refl _) _)).mono ?_; rintro e w4 ⟨rfl, hb4⟩; have HBW : Hid (Below wr.heap.size wr w4) := below_next ((Below.refl wr.heap.size wr).alloc (Nat.le_refl _) _) hb4 (by simp); have HO4 : Hid (w4.ownsRow (w.heap.size + 1) 9 1 (.slice a4 i cc4) i XS) := ownsRow_stepX HO.out (StepX.of_below (X := fun _ => False) HBW.out) (fun _ _ => id); have hs4 := HBW.out.size; clear hb4)
        | (at_builtin; refine wpList_append_lies _ rfl _ _ _ rfl (w.heap.size + 1) 9 is _ 1 16 Tryz.underlying44 his hxs0 hxs1 hxs2 rfl (by omega) (.slice a4 i cc4) i XS rfl (HO4.out.alloc _) ⟨w4.heap.size, 0, none⟩ 1 1 [.string (uS R)] rfl rfl (cell_one_new _ _ _) (by simp [Value.oneCell']) (by omega) (by simp only [maxLen]; omega) (by omega) (by rw [World.size_alloc]; omega) (w4.heap.size + 1) (by simp) ?_; intro gg cv' wq hown' hgrow hat hlt'; have HOW := Lib.hid hown'; have HBQ : Hid (Below w.heap.size w wq) := ((below_next HB.out HBW.out HB.out.size).alloc (by omega) _).grown hgrow (by rw [World.size_alloc]; omega) (fun g hg => by have := (HO4.out.lt g hg).1; omega); have hsq : w.heap.size + 1 ≤ wq.heap.size := (by have := hgrow.size; rw [World.size_alloc] at this; omega); clear hown' hgrow hat hlt'))
      go_roundw
      case rel => exact ⟨i + 1, by omega, by go_num, HBQ.out, hsq, by rw [HTK.out]; exact HOW.out⟩
      case measure => simp [intOf]; omega
    · obtain rfl : i = l.length := by omega
      have hd : decide ((l.length : Int) < (l.length : Int)) = false := by simp
      rw [List.take_length] at HO ho
      obtain ⟨a4, cc4, hv4, hcap4, hnn4⟩ := own_form ho
      subst hv4
      clear ho
      go_wp2_with (go_at_call 15; refine (HJ.out _ _ HO.out).mono ?_; rintro e w4 ⟨rfl, hb4⟩)
      go_ret
      exact ⟨rfl, below_next HB.out hb4 HB.out.size⟩
set_option maxRecDepth 100000 in
set_option maxHeartbeats 4000000 in
theorem told_or (f : Nat) (ih : QTold f) (w : World) (G : Nat → Prop) (l : List QT) (a1 : Option Addr) (c1 : Nat) (a2 : Option Addr) (c2 : Nat) (V : Nat → Value) (h2 : Row w a2 (l.length * 3) V) (hs : ∀ i (h : i < l.length), QAt w G l[i] (V (i * 3)) (V (i * 3 + 1)) (V (i * 3 + 2))) (hc : ∀ x ∈ l, 0 < cntF f x) (hll : 2 ≤ l.length ∧ l.length ≤ 8) :
    Calls Tryz.prog 31 #[.agg #[.int .i64 3, .slice a1 0 c1, .slice a2 l.length c2]] w fun e w' => e = .returned (.string (uS (toldF (f + 1) (.node 3 [] l)))) ∧ Below w.heap.size w w' := by
  obtain ⟨is, his, hxs0, hxs1, hxs2⟩ := info_parts info_strq
  have hr : toldF (f + 1) (.node 3 [] l) = 40 :: (Lib.join (l.map (toldF f)) [124] ++ [41]) := by rw [toldF, if_neg (by decide), if_neg (by decide)]; rfl
  rw [hr]
  have hlen1 : ∀ x ∈ l, (toldF f x).length ≤ 320 * 60 := fun x hx => by have := told_len f x (hc x hx); have := cntF_le f x; omega
  have hjl : (Lib.join (l.map (toldF f)) [124]).length ≤ 8 * (320 * 60) + 8 := by
    have h1 := join_le (l.map (toldF f)) [124] (320 * 60) (by simpa using hlen1)
    simp only [List.length_map, List.length_cons, List.length_nil] at h1
    have h3 : l.length * (320 * 60 + 1) ≤ 8 * (320 * 60 + 1) := Nat.mul_le_mul_right _ hll.2
    omega
  have hadd1 : ∀ W : World, (Op.stringOp .add ⟨#[40]⟩ (uS (Lib.join (l.map (toldF f)) [124]))).run Tryz.prog W = .ok (.string (uS (40 :: Lib.join (l.map (toldF f)) [124]))) W := add_uS [40] (Lib.join (l.map (toldF f)) [124]) (by simp; omega)
  have hadd2 : ∀ W : World, (Op.stringOp .add (uS (40 :: Lib.join (l.map (toldF f)) [124])) ⟨#[41]⟩).run Tryz.prog W = .ok (.string (uS (40 :: (Lib.join (l.map (toldF f)) [124] ++ [41])))) W := add_uS (40 :: Lib.join (l.map (toldF f)) [124]) [41] (by simp; omega)
  have HIX := Lib.hid (run_ixQ (P := Tryz.prog) 23 3 (by kernel_rfl) (fun w => by kernel_rfl) a2 l.length c2 (h2.at_.imp (fun e => by omega) id))
  have HT : Hid (∀ i (hi : i < l.length) W, Below w.heap.size w W → Calls Tryz.prog 31 #[.agg #[V (i * 3), V (i * 3 + 1), V (i * 3 + 2)]] W fun e w' => e = .returned (.string (uS (toldF f l[i]))) ∧ Below W.heap.size W w') := fun i hi W hW => ih W G l[i] _ _ _ ((hs i hi).kept hW) (hc _ (List.getElem_mem hi))
  have HS := Lib.hid hs
  have HR := Lib.hid h2
  have HJ : Hid (∀ (W : World) v, W.ownsRow (w.heap.size + 1) 9 1 v l.length (sQ (l.map (toldF f))) → Calls Tryz.prog 15 #[v, .string ⟨#[124]⟩] W fun e w' => e = .returned (.string (uS (Lib.join (l.map (toldF f)) [124]))) ∧ Below W.heap.size W w') := fun W v ho => by
    obtain ⟨a, cap, rfl, hcap, hrow, hlow, hat⟩ := Row.of_owns ho
    have hlm : (l.map (toldF f)).length = l.length := List.length_map ..
    rw [← hlm] at hrow hcap ⊢
    exact join_sep W [124] a cap (l.map (toldF f)) (by omega) (hat (by omega)) hcap hrow (by omega) (by omega)
  clear hr hlen1 hjl ih hs h2 hc
  go_enter Tryz.func31, Tryz.ntmps31
  go_wp2
  have HB0 : Hid (Below w.heap.size w (w.alloc (.cells #[.int .i64 3, .slice a1 0 c1, .slice a2 l.length c2] 25))) := (Below.refl _ _).alloc (Nat.le_refl _) _
  have hs0 : (w.alloc (.cells #[.int .i64 3, .slice a1 0 c1, .slice a2 l.length c2] 25)).heap.size = w.heap.size + 1 := by rw [World.size_alloc]
  generalize (w.alloc (.cells #[.int .i64 3, .slice a1 0 c1, .slice a2 l.length c2] 25)) = w0 at *
  go_loopw [4, 28] (fun v4 v28 wr => ∃ (i : Nat), i ≤ l.length ∧ v28 = .int .i64 (i : Int) ∧ Below w.heap.size w wr ∧ w.heap.size + 1 ≤ wr.heap.size ∧ wr.ownsRow (w.heap.size + 1) 9 1 v4 i (sQ ((l.take i).map (toldF f)))) (fun _ v28 _ => l.length - (intOf v28).toNat)
  case atStart => exact ⟨0, Nat.zero_le _, rfl, HB0.out, by omega, World.ownsRow_nil _ _ _ _⟩
  case round =>
    obtain ⟨i, hi, rfl, hb, hsr, ho⟩ := hrel
    have HB := Lib.hid hb
    have HO := Lib.hid ho
    clear hb
    by_cases hlt : i < l.length
    · have hq := HS.out i hlt
      have hr2 := HR.out.kept HB.out
      have e0 : oOf a2 + i * 3 + 1 = oOf a2 + (i * 3 + 1) := by omega
      have e1 : oOf a2 + i * 3 + 2 = oOf a2 + (i * 3 + 2) := by omega
      have d0 : wr.cell? ⟨bOf a2, oOf a2 + i * 3, none⟩ = some (V (i * 3)) := hr2.cell (i * 3) (by omega)
      have d1 : wr.cell? ⟨bOf a2, oOf a2 + i * 3 + 1, none⟩ = some (V (i * 3 + 1)) := by rw [e0]; exact hr2.cell _ (by omega)
      have d2 : wr.cell? ⟨bOf a2, oOf a2 + i * 3 + 2, none⟩ = some (V (i * 3 + 2)) := by rw [e1]; exact hr2.cell _ (by omega)
      have HK : Hid (∀ W, Below wr.heap.size wr W → Calls Tryz.prog 31 #[.agg #[V (i * 3), V (i * 3 + 1), V (i * 3 + 2)]] W fun e w' => e = .returned (.string (uS (toldF f l[i]))) ∧ Below W.heap.size W w') := fun W hW => HT.out i hlt W (below_next HB.out hW HB.out.size)
      have HTK : Hid (sQ ((l.take (i + 1)).map (toldF f)) = sQ ((l.take i).map (toldF f)) ++ [.string (uS (toldF f l[i]))]) := by
        show _ = _
        rw [List.take_succ_eq_append_getElem hlt, List.map_append]
        exact sQ_snoc _ _
      obtain ⟨p1, n1, k1, p2, n2, k2, y0, y1, y2⟩ := hq.form
      rw [y0, y1, y2] at HK
      rw [y0] at d0
      rw [y1] at d1
      rw [y2] at d2
      have hx := fun W => HIX.out W i hlt
      obtain ⟨a4, cc4, hv4, hcap4, hnn4⟩ := own_form ho
      clear e0 e1 hq hr2 y0 y1 y2 ho
      subst hv4
      have hll2 := hll.2
      generalize l[i].k = xk at *
      generalize toldF f l[i] = R at *
      generalize hXS : sQ ((l.take i).map (toldF f)) = XS at *
      go_wp2_with (first
        | (go_at_call 31; refine (HK.out _ ((Below.refl _ _).alloc (Nat.le_refl _) _)).mono ?_; rintro e w4 ⟨rfl, hb4⟩; have HBW : Hid (Below wr.heap.size wr w4) := below_next ((Below.refl wr.heap.size wr).alloc (Nat.le_refl _) _) hb4 (by simp); have HO4 : Hid (w4.ownsRow (w.heap.size + 1) 9 1 (.slice a4 i cc4) i XS) := ownsRow_stepX HO.out (StepX.of_below (X := fun _ => False) HBW.out) (fun _ _ => id); have hs4 := HBW.out.size; clear hb4)
        | (at_builtin; refine wpList_append_lies _ rfl _ _ _ rfl (w.heap.size + 1) 9 is _ 1 16 Tryz.underlying44 his hxs0 hxs1 hxs2 rfl (by omega) (.slice a4 i cc4) i XS rfl (HO4.out.alloc _) ⟨w4.heap.size, 0, none⟩ 1 1 [.string (uS R)] rfl rfl (cell_one_new _ _ _) (by simp [Value.oneCell']) (by omega) (by simp only [maxLen]; omega) (by omega) (by rw [World.size_alloc]; omega) (w4.heap.size + 1) (by simp) ?_; intro gg cv' wq hown' hgrow hat hlt'; have HOW := Lib.hid hown'; have HBQ : Hid (Below w.heap.size w wq) := ((below_next HB.out HBW.out HB.out.size).alloc (by omega) _).grown hgrow (by rw [World.size_alloc]; omega) (fun g hg => by have := (HO4.out.lt g hg).1; omega); have hsq : w.heap.size + 1 ≤ wq.heap.size := (by have := hgrow.size; rw [World.size_alloc] at this; omega); clear hown' hgrow hat hlt'))
      go_roundw
      case rel => exact ⟨i + 1, by omega, by go_num, HBQ.out, hsq, by rw [HTK.out]; exact HOW.out⟩
      case measure => simp [intOf]; omega
    · obtain rfl : i = l.length := by omega
      have hd : decide ((l.length : Int) < (l.length : Int)) = false := by simp
      rw [List.take_length] at HO ho
      obtain ⟨a4, cc4, hv4, hcap4, hnn4⟩ := own_form ho
      subst hv4
      clear ho
      go_wp2_with (go_at_call 15; refine (HJ.out _ _ HO.out).mono ?_; rintro e w4 ⟨rfl, hb4⟩)
      go_ret
      exact ⟨rfl, below_next HB.out hb4 HB.out.size⟩
theorem told_step (f : Nat) (ih : QTold f) : QTold (f + 1) := by
  intro W G q v0 v1 v2 h hc
  cases h with
  | mk k t l a1 c1 a2 c2 V h1 g1 m1 h2 g2 m2 hs =>
    obtain ⟨ho, _, hsub⟩ := cntF_pos hc
    rcases (okH_iff _ _ _).1 ho with ⟨rfl, e1, e2, e3⟩ | ⟨rfl, e1, e2⟩ | ⟨hk, e1, e2, e3⟩
    · exact told_text f W t l a1 c1 a2 c2 h1 e2
    · obtain rfl : t = [] := List.eq_nil_of_length_eq_zero e1
      obtain ⟨x, rfl⟩ := List.length_eq_one_iff.1 e2
      exact told_not f ih W G x a1 c1 a2 c2 V h2 (hs 0 (by simp)) (hsub x (by simp))
    · obtain rfl : t = [] := List.eq_nil_of_length_eq_zero e1
      rcases hk with rfl | rfl
      · exact told_and f ih W G l a1 c1 a2 c2 V h2 hs hsub ⟨e2, e3⟩
      · exact told_or f ih W G l a1 c1 a2 c2 V h2 hs hsub ⟨e2, e3⟩
theorem told_any : ∀ f, QTold f
  | 0 => fun W G q v0 v1 v2 h hc => by rw [cntF] at hc; omega
  | f + 1 => told_step f (told_any f)
/-- a query's text, or none -/
def qtextL (q : QT) : List UInt8 := if okQ q then toldF 8 q else []
theorem qtextL_len (q : QT) : (qtextL q).length ≤ 19200 := by
  unfold qtextL okQ
  split
  · rename_i h
    have h2 : 0 < cntF 8 q := of_decide_eq_true h
    have := told_len 8 q h2
    have := cntF_le 8 q
    omega
  · simp
set_option maxRecDepth 100000 in
set_option maxHeartbeats 2000000 in
theorem qtext_any (w : World) (G : Nat → Prop) (q : QT) (v0 v1 v2 : Value) (h : QAt w G q v0 v1 v2) : Calls Tryz.prog 14 #[.agg #[v0, v1, v2]] w fun e w' => e = .returned (.tuple #[.string (uS (qtextL q)), .int .i64 (if okQ q then 0 else 1)]) ∧ Below w.heap.size w w' := by
  have HOK : Hid (∀ W, Below w.heap.size w W → Calls Tryz.prog 30 #[.agg #[v0, v1, v2]] W fun e w' => e = .returned (.bool (okQ q)) ∧ Below W.heap.size W w') := fun W hW => ok_any W G q v0 v1 v2 (h.kept hW)
  have HB0 : Hid (∀ ob, Below w.heap.size w (w.alloc ob)) := fun ob => (Below.refl _ _).alloc (Nat.le_refl _) _
  have hz : ∀ ob, w.heap.size ≤ (w.alloc ob).heap.size := fun ob => by rw [World.size_alloc]; omega
  have HT : Hid (0 < cntF 8 q → ∀ W, Below w.heap.size w W → Calls Tryz.prog 31 #[.agg #[v0, v1, v2]] W fun e w' => e = .returned (.string (uS (toldF 8 q))) ∧ Below W.heap.size W w') := fun hc W hW => told_any 8 W G q v0 v1 v2 (h.kept hW) hc
  obtain ⟨p1, n1, k1, p2, n2, k2, rfl, rfl, rfl⟩ := h.form
  clear h
  have hnew := World.alloc_heap_new w (.cells #[.int .i64 q.k, .slice p1 n1 k1, .slice p2 n2 k2] 25)
  have hszn := World.size_alloc w (.cells #[.int .i64 q.k, .slice p1 n1 k1, .slice p2 n2 k2] 25)
  have HNEW := Lib.hid hnew
  have HSZN := Lib.hid hszn
  clear hnew hszn
  unfold qtextL
  generalize q.k = xk at *
  cases hok : okQ q with
  | false =>
    rw [hok] at HOK
    clear HT hok
    go_enter Tryz.func14, Tryz.ntmps14
    go_wp2_with (go_at_call 30; refine (HOK.out _ (HB0.out _)).mono ?_; rintro e w4 ⟨rfl, hb4⟩)
    go_ret2
    exact ⟨rfl, below_next (HB0.out _) hb4 (hz _)⟩
  | true =>
    have HT2 := Lib.hid (HT.out (of_decide_eq_true hok))
    rw [hok] at HOK
    clear HT hok
    generalize toldF 8 q = R at *
    go_enter Tryz.func14, Tryz.ntmps14
    go_wp2_with (first
      | (go_at_call 30; refine (HOK.out _ (HB0.out _)).mono ?_; rintro e w4 ⟨rfl, hb4⟩; have HB4 := Lib.hid (below_next (HB0.out _) hb4 (hz _)); have g4 := (hb4.block w.heap.size (by have := HSZN.out; omega)).trans HNEW.out; have d0 := cell_of_row w4 _ 0 _ _ _ g4; have d1 := cell_of_row w4 _ 1 _ _ _ g4; have d2 := cell_of_row w4 _ 2 _ _ _ g4; simp only [List.getElem?_toArray, List.getElem?_cons_succ, List.getElem?_cons_zero] at d0 d1 d2; clear hb4 g4)
      | (go_at_call 31; refine (HT2.out _ HB4.out).mono ?_; rintro e w5 ⟨rfl, hb5⟩))
    go_ret2
    exact ⟨rfl, below_next HB4.out hb5 HB4.out.size⟩
end Go.Proofs.YtdcobmoeligdkaaGreatDoor
