/-
  query.read, query.list, query.Parse: at any text.
-/
import Derived.Test.YtdcobmoeligdkaaGreatDoorCmQPlain
import Derived.Test.YtdcobmoeligdkaaGreatDoorCmQCount
import Derived.Test.YtdcobmoeligdkaaGreatDoorCmQuote
namespace Go.Proofs.YtdcobmoeligdkaaGreatDoor
open Go.RowKit Go.Shelf

theorem results_q {fn : Func} {p u v : Tmp} {ty : TypeId} (h : fn.results = #[.cell p ty, .tmp u, .tmp v]) (tmps : Array Value) (P : Program) (w : World) :
    (results fn tmps).run P w =
      ((asAddr (tmps.getD p undef)).run P w).andThen fun a w₁ => ((loadVar ty a).run P w₁).andThen fun x w₂ => .ok (.tuple #[x, tmps.getD u undef, tmps.getD v undef]) w₂ := by
  simp only [results, h]
  simp [Sem.run_bind, Result.andThen]
theorem results_read {tmps : Array Value} {W : World} {rB : Nat} {cs : Array Value} (hr : W.heap[rB]? = some (.cells cs 25 (0, 0))) (hsz : cs.size = 3)
    (hp : tmps.getD 4 undef = .pointer (some ⟨rB, 0, none⟩)) : (results Tryz.f63 tmps).run Tryz.prog W = .ok (.tuple #[.agg cs, tmps.getD 5 undef, tmps.getD 6 undef]) W := by
  rw [results_q (p := 4) (u := 5) (v := 6) (ty := 25) (by kernel_rfl), hp]
  have h1 : (loadVar 25 ⟨rB, 0, none⟩).run Tryz.prog W = .ok (.agg cs) W := run_loadVar_row W rB _ _ cs _ _ hr Tryz.underlying25 rfl (by rw [hsz]; kernel_rfl)
  simp only [asAddr, Sem.run_pure, Result.andThen_ok, h1]
theorem results_list {tmps : Array Value} {W : World} {rB : Nat} {cs : Array Value} (hr : W.heap[rB]? = some (.cells cs 25 (0, 0))) (hsz : cs.size = 3)
    (hp : tmps.getD 4 undef = .pointer (some ⟨rB, 0, none⟩)) : (results Tryz.f79 tmps).run Tryz.prog W = .ok (.tuple #[.agg cs, tmps.getD 5 undef, tmps.getD 6 undef]) W := by
  rw [results_q (p := 4) (u := 5) (v := 6) (ty := 25) (by kernel_rfl), hp]
  have h1 : (loadVar 25 ⟨rB, 0, none⟩).run Tryz.prog W = .ok (.agg cs) W := run_loadVar_row W rB _ _ cs _ _ hr Tryz.underlying25 rfl (by rw [hsz]; kernel_rfl)
  simp only [asAddr, Sem.run_pure, Result.andThen_ok, h1]
/-- what read and list answer -/
def RP (w : World) (o : Option (QT × List UInt8)) (e : Ending) (w' : World) : Prop :=
  Below w.heap.size w w' ∧ ((o = none ∧ ∃ k a n c b m d s, e = .returned (.tuple #[.agg #[.int .i64 k, .slice a n c, .slice b m d], .string s, .bool false])) ∨
    ∃ q r v0 v1 v2, o = some (q, r) ∧ e = .returned (.tuple #[.agg #[v0, v1, v2], .string (uS r), .bool true]) ∧ QAt w' (fun b => w.heap.size ≤ b) q v0 v1 v2)
theorem QAt.one {W : World} {G : Nat → Prop} {q : QT} {u0 u1 u2 : Value} {b : Nat} {T : TypeId} (h : QAt W G q u0 u1 u2) (hr : W.heap[b]? = some (.cells #[u0, u1, u2] T (0, 0))) (hg : G b) :
    QAt W G (.node 4 [] [q]) (.int .i64 4) (.slice none 0 0) (.slice (some ⟨b, 0, none⟩) 1 1) := by
  refine .mk 4 [] [q] none 0 (some ⟨b, 0, none⟩) 1 (fun k => #[u0, u1, u2].getD k undef) (Row.nil _ _ _) (.inl rfl) (Nat.zero_le _) ⟨.inr rfl, fun k hk => ?_⟩ (.inr hg) (by simp [maxLen]) (fun i hi => ?_)
  · have hk3 : k < 3 := by simpa using hk
    show W.cell? ⟨b, 0 + k, none⟩ = _
    rw [Nat.zero_add, cell_of_row W b k _ _ _ hr]
    simp [Array.getD_eq_getD_getElem?, hk3]
  · obtain rfl : i = 0 := by simp at hi; omega
    exact h
theorem set3 {W : World} {b : Nat} {c0 c1 c2 : Value} {T : TypeId} (v0 v1 v2 : Value) (h : W.heap[b]? = some (.cells #[c0, c1, c2] T (0, 0))) :
    (((W.setCell ⟨b, 0, none⟩ v0).setCell ⟨b, 1, none⟩ v1).setCell ⟨b, 2, none⟩ v2).heap[b]? = some (.cells #[v0, v1, v2] T (0, 0)) :=
  heap_setCell_same _ b 2 _ _ v2 (heap_setCell_same _ b 1 _ _ v1 (heap_setCell_same _ b 0 _ _ v0 h))
def QRead (f : Nat) : Prop := ∀ (W : World) (s : List UInt8), s.length ≤ 100000 → Calls Tryz.prog 63 #[.string (uS s), .int .i64 (9 - (f : Int))] W (RP W (readF f s))
def QList (f : Nat) : Prop := ∀ (W : World) (s : List UInt8), s.length ≤ 100000 → Calls Tryz.prog 79 #[.string (uS s), .int .i64 (8 - (f : Int))] W (RP W (listF (readF f) 9 0 [] s))
set_option maxRecDepth 100000 in
set_option maxHeartbeats 2000000 in
theorem read_no (f : Nat) (w : World) (s : List UInt8) (h : f = 0 ∨ s = []) : Calls Tryz.prog 63 #[.string (uS s), .int .i64 (9 - (f : Int))] w (RP w (readF f s)) := by
  have hr : readF f s = none := by
    rcases h with rfl | rfl
    · rw [readF]
    · cases f <;> rw [readF]
  rw [hr]
  clear hr
  rcases h with rfl | rfl
  · go_enter Tryz.func63, Tryz.ntmps63
    go_wp2
    refine bodyPost_ret (results_read (World.alloc_heap_new _ _) rfl rfl) rfl ?_
    exact ⟨(Below.refl _ _).alloc (Nat.le_refl _) _, .inl ⟨rfl, _, _, _, _, _, _, _, _, rfl⟩⟩
  · have e0 : uS [] = ⟨#[]⟩ := rfl
    rw [e0]
    generalize (9 - (f : Int)) = D at *
    go_enter Tryz.func63, Tryz.ntmps63
    go_wp2
    all_goals
      refine bodyPost_ret (results_read (World.alloc_heap_new _ _) rfl rfl) rfl ?_
      exact ⟨(Below.refl _ _).alloc (Nat.le_refl _) _, .inl ⟨rfl, _, _, _, _, _, _, _, _, rfl⟩⟩
set_option maxRecDepth 100000 in
set_option maxHeartbeats 2000000 in
theorem read_not (f : Nat) (hf : f < 8) (ih : QRead f) (w : World) (s : List UInt8) (hs : s.length ≤ 100000) (c : UInt8) (r : List UInt8) (hc : s = c :: r) (h33 : c.toNat = 33) : Calls Tryz.prog 63 #[.string (uS s), .int .i64 (9 - ((f + 1 : Nat) : Int))] w (RP w (readF (f + 1) s)) := by
  have hr : readF (f + 1) s = (readF f (s.drop 1)).map fun p => (.node 4 [] [p.1], p.2) := by
    rw [hc, readF, if_pos h33]; rfl
  have hx0 := ixS s 0 c (by rw [hc]; rfl) 0 rfl
  have hc1 : (c.toNat : Int) = 33 := by omega
  rw [hc1] at hx0
  have hl1 : 1 ≤ s.length := by rw [hc]; simp
  have heq : ((uS s).toList == ([] : List UInt8)) = false := by rw [uS_toList, hc]; rfl
  have hcf := uS_drop s 1
  have hD : decide ((8 : Int) < 9 - ((f + 1 : Nat) : Int)) = false := decide_eq_false (by omega)
  have hD2 : (9 - ((f + 1 : Nat) : Int)) + 1 = 9 - (f : Int) := by omega
  have hD3 : ¬ (8 : Int) < 9 - ((f + 1 : Nat) : Int) := by omega
  have HIH := Lib.hid (fun W => ih W (s.drop 1) (by rw [List.length_drop]; omega))
  have HR := Lib.hid hr
  have hsz := uS_size s
  clear hr hc hc1 h33 hs ih
  have hDr : 0 ≤ (9 - ((f + 1 : Nat) : Int)) ∧ (9 - ((f + 1 : Nat) : Int)) ≤ 8 := by omega
  generalize (9 - ((f + 1 : Nat) : Int)) = D at *
  generalize s.drop 1 = t at *
  go_enter Tryz.func63, Tryz.ntmps63
  go_wp2_with fail
  refine (HIH.out _).mono ?_
  rintro e w1 ⟨hb1, hcase⟩
  have hz1 : (w.alloc (.cells #[.int .i64 0, .slice none 0 0, .slice none 0 0] 25)).heap.size = w.heap.size + 1 := by rw [World.size_alloc]
  have hn1 : (w.alloc (.cells #[.int .i64 0, .slice none 0 0, .slice none 0 0] 25)).heap[w.heap.size]? = some (.cells #[.int .i64 0, .slice none 0 0, .slice none 0 0] 25 (0, 0)) := World.alloc_heap_new _ _
  have hb0 : Below w.heap.size w (w.alloc (.cells #[.int .i64 0, .slice none 0 0, .slice none 0 0] 25)) := (Below.refl _ _).alloc (Nat.le_refl _) _
  generalize (w.alloc (.cells #[.int .i64 0, .slice none 0 0, .slice none 0 0] 25)) = w0 at *
  have hb : Below w.heap.size w w1 := below_next hb0 hb1 (by omega)
  have hn2 : w1.heap[w.heap.size]? = some (.cells #[.int .i64 0, .slice none 0 0, .slice none 0 0] 25 (0, 0)) := (hb1.block _ (by omega)).trans hn1
  have hs1 : w.heap.size + 1 ≤ w1.heap.size := by have := hb1.size; omega
  have hform : ∃ k a n c b m d sr okb, e = .returned (.tuple #[.agg #[.int .i64 k, .slice a n c, .slice b m d], .string sr, .bool okb]) ∧ (okb = false → readF f t = none) ∧ (okb = true → ∃ q r, readF f t = some (q, r) ∧ sr = uS r ∧ QAt w1 (fun b => w0.heap.size ≤ b) q (.int .i64 k) (.slice a n c) (.slice b m d)) := by
    rcases hcase with ⟨h1, k, a, n, c, b, m, d, sr, he⟩ | ⟨q, r, v0, v1, v2, h1, he, hq⟩
    · exact ⟨k, a, n, c, b, m, d, sr, false, he, fun _ => h1, fun h => Bool.noConfusion h⟩
    · obtain ⟨a, n, c, b, m, d, rfl, rfl, rfl⟩ := hq.form
      exact ⟨_, a, n, c, b, m, d, uS r, true, he, fun h => Bool.noConfusion h, fun _ => ⟨q, r, h1, rfl, hq⟩⟩
  obtain ⟨k, a, n, c, b, m, d, sr, okb, rfl, hno, hyes⟩ := hform
  have HNO := Lib.hid hno
  have HYES := Lib.hid hyes
  have HB := Lib.hid hb
  have HZ0 : Hid (w0.heap.size = w.heap.size + 1) := hz1
  have HN2 := Lib.hid hn2
  clear hcase hno hyes hb hn1 hb0 hb1 hz1 hx0 hcf
  have hs2 := World.size_alloc w1 (.cells #[.int .i64 k, .slice a n c, .slice b m d] 25)
  have hn3 : ((w1.alloc (.cells #[.int .i64 k, .slice a n c, .slice b m d] 25)).alloc (.cells #[.int .i64 k, .slice a n c, .slice b m d] 25)).heap[w.heap.size]? = some (.cells #[.int .i64 0, .slice none 0 0, .slice none 0 0] 25 (0, 0)) :=
    (Below.heap_alloc _ _ _ (by omega)).trans ((Below.heap_alloc _ _ _ (by omega)).trans hn2)
  have HN3 := Lib.hid hn3
  clear hn2 hn3 hs2
  go_wp2_with (refine wpList_store_rowTo rfl 25 _ _ rfl rfl w.heap.size #[.int .i64 4, .slice none 0 0, .slice (some ⟨w1.heap.size + 1, 0, none⟩) 1 1] (by as_aux_lemma => kernel_rfl) (by as_aux_lemma => kernel_rfl) 25 #[.int .i64 0, .slice none 0 0, .slice none 0 0] HN3.out (by as_aux_lemma => kernel_rfl) rfl (by as_aux_lemma => kernel_rfl) ?_)
  have HW : Hid (Below w.heap.size w (((w1.alloc (.cells #[.int .i64 k, .slice a n c, .slice b m d] 25)).alloc (.cells #[.int .i64 k, .slice a n c, .slice b m d] 25)).setRow w.heap.size #[.int .i64 4, .slice none 0 0, .slice (some ⟨w1.heap.size + 1, 0, none⟩) 1 1])) :=
    below_setRowS ((HB.out.alloc (by omega) _).alloc (by simp; omega) _) (Nat.le_refl _) _
  refine bodyPost_ret (results_read (setRow_heap _ _ _ _ _ _ HN3.out) rfl rfl) rfl ?_
  cases okb with
  | false => exact ⟨HW.out, .inl ⟨by rw [HR.out, HNO.out rfl]; rfl, _, _, _, _, _, _, _, _, rfl⟩⟩
  | true =>
    obtain ⟨q, r', h1, rfl, hq⟩ := HYES.out rfl
    refine ⟨HW.out, .inr ⟨.node 4 [] [q], r', _, _, _, by rw [HR.out, h1]; rfl, rfl, ?_⟩⟩
    refine QAt.one (T := 25) (hq.move (fun b hb hg => ?_) (fun b _ hg => ?_)) ?_ (by omega)
    · rw [setRow_other _ _ _ _ (by have := HZ0.out; omega), Below.heap_alloc _ _ _ (by rw [World.size_alloc]; omega), Below.heap_alloc _ _ _ hb]
    · have := HZ0.out; omega
    · rw [setRow_other _ _ _ _ (by omega)]
      have := World.alloc_heap_new (w1.alloc (.cells #[.int .i64 k, .slice a n c, .slice b m d] 25)) (.cells #[.int .i64 k, .slice a n c, .slice b m d] 25)
      rwa [World.size_alloc] at this
set_option maxRecDepth 100000 in
set_option maxHeartbeats 2000000 in
theorem read_list (f : Nat) (hf : f < 8) (ih : QList f) (w : World) (s : List UInt8) (hs : s.length ≤ 100000) (c : UInt8) (r : List UInt8) (hc : s = c :: r) (h33 : c.toNat = 33 + 7) : Calls Tryz.prog 63 #[.string (uS s), .int .i64 (9 - ((f + 1 : Nat) : Int))] w (RP w (readF (f + 1) s)) := by
  have hr : readF (f + 1) s = listF (readF f) 9 0 [] (s.drop 1) := by
    rw [hc, readF, if_neg (by omega), if_pos (by omega)]; rfl
  have hx0 := ixS s 0 c (by rw [hc]; rfl) 0 rfl
  have hc1 : (c.toNat : Int) = 40 := by omega
  rw [hc1] at hx0
  have hl1 : 1 ≤ s.length := by rw [hc]; simp
  have heq : ((uS s).toList == ([] : List UInt8)) = false := by rw [uS_toList, hc]; rfl
  have hcf := uS_drop s 1
  have hD : decide ((8 : Int) < 9 - ((f + 1 : Nat) : Int)) = false := decide_eq_false (by omega)
  have hD2 : (9 - ((f + 1 : Nat) : Int)) = 8 - (f : Int) := by omega
  have hD3 : ¬ (8 : Int) < 9 - ((f + 1 : Nat) : Int) := by omega
  have HIH := Lib.hid (fun W => ih W (s.drop 1) (by rw [List.length_drop]; omega))
  have HR := Lib.hid hr
  have hsz := uS_size s
  clear hr hc hc1 h33 hs ih
  have hDr : 0 ≤ (9 - ((f + 1 : Nat) : Int)) ∧ (9 - ((f + 1 : Nat) : Int)) ≤ 8 := by omega
  rw [← hD2] at HIH
  clear hD2
  generalize (9 - ((f + 1 : Nat) : Int)) = D at *
  generalize s.drop 1 = t at *
  go_enter Tryz.func63, Tryz.ntmps63
  go_wp2_with fail
  refine (HIH.out _).mono ?_
  rintro e w1 ⟨hb1, hcase⟩
  have hz1 : (w.alloc (.cells #[.int .i64 0, .slice none 0 0, .slice none 0 0] 25)).heap.size = w.heap.size + 1 := by rw [World.size_alloc]
  have hn1 : (w.alloc (.cells #[.int .i64 0, .slice none 0 0, .slice none 0 0] 25)).heap[w.heap.size]? = some (.cells #[.int .i64 0, .slice none 0 0, .slice none 0 0] 25 (0, 0)) := World.alloc_heap_new _ _
  have hb0 : Below w.heap.size w (w.alloc (.cells #[.int .i64 0, .slice none 0 0, .slice none 0 0] 25)) := (Below.refl _ _).alloc (Nat.le_refl _) _
  generalize (w.alloc (.cells #[.int .i64 0, .slice none 0 0, .slice none 0 0] 25)) = w0 at *
  have hb : Below w.heap.size w w1 := below_next hb0 hb1 (by omega)
  have hn2 : w1.heap[w.heap.size]? = some (.cells #[.int .i64 0, .slice none 0 0, .slice none 0 0] 25 (0, 0)) := (hb1.block _ (by omega)).trans hn1
  have hs1 : w.heap.size + 1 ≤ w1.heap.size := by have := hb1.size; omega
  have hform : ∃ k a n c b m d sr okb, e = .returned (.tuple #[.agg #[.int .i64 k, .slice a n c, .slice b m d], .string sr, .bool okb]) ∧ (okb = false → listF (readF f) 9 0 [] t = none) ∧ (okb = true → ∃ q r, listF (readF f) 9 0 [] t = some (q, r) ∧ sr = uS r ∧ QAt w1 (fun b => w0.heap.size ≤ b) q (.int .i64 k) (.slice a n c) (.slice b m d)) := by
    rcases hcase with ⟨h1, k, a, n, c, b, m, d, sr, he⟩ | ⟨q, r, v0, v1, v2, h1, he, hq⟩
    · exact ⟨k, a, n, c, b, m, d, sr, false, he, fun _ => h1, fun h => Bool.noConfusion h⟩
    · obtain ⟨a, n, c, b, m, d, rfl, rfl, rfl⟩ := hq.form
      exact ⟨_, a, n, c, b, m, d, uS r, true, he, fun h => Bool.noConfusion h, fun _ => ⟨q, r, h1, rfl, hq⟩⟩
  obtain ⟨k, a, n, c, b, m, d, sr, okb, rfl, hno, hyes⟩ := hform
  have HNO := Lib.hid hno
  have HYES := Lib.hid hyes
  have HB := Lib.hid hb
  have HZ0 : Hid (w0.heap.size = w.heap.size + 1) := hz1
  have HN2 := Lib.hid hn2
  clear hcase hno hyes hb hn1 hb0 hb1 hz1 hx0 hcf
  have HN3 := Lib.hid HN2.out
  clear hn2
  go_wp2_with (refine wpList_store_rowTo rfl 25 _ _ rfl rfl w.heap.size #[.int .i64 k, .slice a n c, .slice b m d] (by as_aux_lemma => kernel_rfl) (by as_aux_lemma => kernel_rfl) 25 #[.int .i64 0, .slice none 0 0, .slice none 0 0] HN3.out (by as_aux_lemma => kernel_rfl) rfl (by as_aux_lemma => kernel_rfl) ?_)
  have HW : Hid (Below w.heap.size w (w1.setRow w.heap.size #[.int .i64 k, .slice a n c, .slice b m d])) :=
    below_setRowS HB.out (Nat.le_refl _) _
  refine bodyPost_ret (results_read (setRow_heap _ _ _ _ _ _ HN3.out) rfl rfl) rfl ?_
  cases okb with
  | false => exact ⟨HW.out, .inl ⟨by rw [HR.out, HNO.out rfl], _, _, _, _, _, _, _, _, rfl⟩⟩
  | true =>
    obtain ⟨q, r', h1, rfl, hq⟩ := HYES.out rfl
    refine ⟨HW.out, .inr ⟨q, r', _, _, _, by rw [HR.out, h1], rfl, hq.move (fun b hb hg => ?_) (fun b _ hg => ?_)⟩⟩
    · rw [setRow_other _ _ _ _ (by have := HZ0.out; omega)]
    · have := HZ0.out; omega
set_option maxRecDepth 100000 in
set_option maxHeartbeats 2000000 in
theorem read_text (f : Nat) (hf : f < 8) (w : World) (s : List UInt8) (hs : s.length ≤ 100000) (c : UInt8) (r : List UInt8) (hc : s = c :: r) (h33 : c.toNat ≠ 33) (h40 : c.toNat ≠ 40) : Calls Tryz.prog 63 #[.string (uS s), .int .i64 (9 - ((f + 1 : Nat) : Int))] w (RP w (readF (f + 1) s)) := by
  have hr : readF (f + 1) s = (unq s).map fun p => (.node 1 p.1 [], s.drop p.2) := by
    rw [hc, readF, if_neg h33, if_neg h40]
  have hx0 := ixS s 0 c (by rw [hc]; rfl) 0 rfl
  have e1 : ((c.toNat : Int) == 33) = false := by rw [beq_eq_false_iff_ne]; omega
  have e2 : ((c.toNat : Int) == 40) = false := by rw [beq_eq_false_iff_ne]; omega
  have hl1 : 1 ≤ s.length := by rw [hc]; simp
  have heq : ((uS s).toList == ([] : List UInt8)) = false := by rw [uS_toList, hc]; rfl
  have hD : decide ((8 : Int) < 9 - ((f + 1 : Nat) : Int)) = false := decide_eq_false (by omega)
  have hD3 : ¬ (8 : Int) < 9 - ((f + 1 : Nat) : Int) := by omega
  have HIH := Lib.hid (fun W => unquote_any W s hs)
  have HR := Lib.hid hr
  have hsz := uS_size s
  clear hr hc h33 h40
  generalize (9 - ((f + 1 : Nat) : Int)) = D at *
  generalize c.toNat = cn at *
  go_enter Tryz.func63, Tryz.ntmps63
  go_wp2_with fail
  refine (HIH.out _).mono ?_
  rintro e w1 ⟨hb1, hcase⟩
  have hz1 : (w.alloc (.cells #[.int .i64 0, .slice none 0 0, .slice none 0 0] 25)).heap.size = w.heap.size + 1 := by rw [World.size_alloc]
  have hn1 : (w.alloc (.cells #[.int .i64 0, .slice none 0 0, .slice none 0 0] 25)).heap[w.heap.size]? = some (.cells #[.int .i64 0, .slice none 0 0, .slice none 0 0] 25 (0, 0)) := World.alloc_heap_new _ _
  have hb0 : Below w.heap.size w (w.alloc (.cells #[.int .i64 0, .slice none 0 0, .slice none 0 0] 25)) := (Below.refl _ _).alloc (Nat.le_refl _) _
  generalize (w.alloc (.cells #[.int .i64 0, .slice none 0 0, .slice none 0 0] 25)) = w0 at *
  have hb : Below w.heap.size w w1 := below_next hb0 hb1 (by omega)
  have hn2 : w1.heap[w.heap.size]? = some (.cells #[.int .i64 0, .slice none 0 0, .slice none 0 0] 25 (0, 0)) := (hb1.block _ (by omega)).trans hn1
  have HB := Lib.hid hb
  have HZ0 : Hid (w0.heap.size = w.heap.size + 1) := hz1
  have HN2 := Lib.hid hn2
  clear hb hn1 hb0 hb1 hz1 hx0
  rcases hcase with ⟨h1, rfl⟩ | ⟨b, m, a, h1, rfl, hrow, hlow⟩
  · have HNO : Hid (readF (f + 1) s = none) := by show _ = _; rw [HR.out, h1]; rfl
    clear h1 hn2
    go_wp2_with (refine wpList_store_rowTo rfl 25 _ _ rfl rfl w.heap.size #[.int .i64 0, .slice none 0 0, .slice none 0 0] (by as_aux_lemma => kernel_rfl) (by as_aux_lemma => kernel_rfl) 25 #[.int .i64 0, .slice none 0 0, .slice none 0 0] HN2.out (by as_aux_lemma => kernel_rfl) rfl (by as_aux_lemma => kernel_rfl) ?_)
    refine bodyPost_ret (results_read (setRow_heap _ _ _ _ _ _ HN2.out) rfl rfl) rfl ?_
    exact ⟨below_setRowS HB.out (Nat.le_refl _) _, .inl ⟨HNO.out, _, _, _, _, _, _, _, _, rfl⟩⟩
  · have HYES : Hid (readF (f + 1) s = some (.node 1 b [], s.drop m)) := by show _ = _; rw [HR.out, h1]; rfl
    have hm := (unq_len h1).2.1
    have hb2 := (unq_len h1).2.2
    have hbl : b.length ≤ s.length := by simp only at hm hb2; omega
    have hm1 : ((m : Nat) : Int) ≤ ((s.length : Nat) : Int) := by simp only at hm; omega
    have hcf := uS_drop s m
    have HROW := Lib.hid hrow
    have HLOW := Lib.hid hlow
    have y0 := cell_of_row w1 _ 0 _ _ _ hn2
    have y1 := cell_of_row w1 _ 1 _ _ _ hn2
    have y2 := cell_of_row w1 _ 2 _ _ _ hn2
    simp only [List.getElem?_toArray, List.getElem?_cons_succ, List.getElem?_cons_zero] at y0 y1 y2
    have z0 : ∀ i, w1.frozen? ⟨w.heap.size, i, none⟩ = false := fun i => by simp [World.frozen?, hn2]
    have y3 := z0 0
    have y4 := z0 1
    have y5 := z0 2
    clear h1 hrow hlow hn2 z0 hm hb2
    go_wp2_with fail
    go_region
    have HW : Hid (Below w.heap.size w ((((w1.setCell ⟨w.heap.size, 0, none⟩ (.int .i64 1)).setCell ⟨w.heap.size, 1, none⟩ (.slice a b.length b.length)).setCell ⟨w.heap.size, 2, none⟩ (.slice none 0 0)).drew)) :=
      (((HB.out.setCell (p := ⟨w.heap.size, 0, none⟩) (Nat.le_refl _) _).setCell (p := ⟨w.heap.size, 1, none⟩) (Nat.le_refl _) _).setCell (p := ⟨w.heap.size, 2, none⟩) (Nat.le_refl _) _).drew
    clear y0 y1 y2 y3 y4 y5
    go_wp2
    refine bodyPost_ret (results_read (set3 _ _ _ HN2.out) rfl rfl) rfl ?_
    have hk : ∀ x, x ≠ w.heap.size → ((((w1.setCell ⟨w.heap.size, 0, none⟩ (.int .i64 1)).setCell ⟨w.heap.size, 1, none⟩ (.slice a b.length b.length)).setCell ⟨w.heap.size, 2, none⟩ (.slice none 0 0)).drew).heap[x]? = w1.heap[x]? := fun x hx =>
      (Below.heap_setCell _ ⟨w.heap.size, 2, none⟩ _ _ hx).trans ((Below.heap_setCell _ ⟨w.heap.size, 1, none⟩ _ _ hx).trans (Below.heap_setCell _ ⟨w.heap.size, 0, none⟩ _ _ hx))
    refine ⟨HW.out, .inr ⟨_, _, _, _, _, HYES.out, rfl, .mk 1 b [] a b.length none 0 (fun _ => undef) ⟨HROW.out.at_, fun k hk' => ?_⟩ (HLOW.out.imp id (fun h => by have := HZ0.out; omega)) (by simp only [maxLen]; omega) (Row.nil _ _ _) (.inl rfl) (Nat.zero_le _) (fun i hi => absurd hi (Nat.not_lt_zero i))⟩⟩
    exact (World.cell?_of_block (a := ⟨bOf a, oOf a + k, none⟩) (hk _ (by have := HZ0.out; have := HLOW.out; show bOf a ≠ w.heap.size; omega))).trans (HROW.out.cell k hk')
theorem read_step (f : Nat) (hf : f < 8) (ih : QRead f) (il : QList f) : QRead (f + 1) := by
  intro W s hs
  cases s with
  | nil => exact read_no (f + 1) W [] (.inr rfl)
  | cons c r =>
    by_cases h33 : c.toNat = 33
    · exact read_not f hf ih W _ hs c r rfl h33
    by_cases h40 : c.toNat = 40
    · exact read_list f hf il W _ hs c r rfl h40
    exact read_text f hf W _ hs c r rfl h33 h40
end Go.Proofs.YtdcobmoeligdkaaGreatDoor
