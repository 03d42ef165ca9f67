/-
  concordanceref23.read: the query that a text begins with.
-/
import Derived.Test.YtdcobmoeligdkaaGreatDoorCmRQ
import Derived.Test.YtdcobmoeligdkaaGreatDoorCmRUnq
import Derived.Lib.ConvBytes
namespace Go.Proofs.YtdcobmoeligdkaaGreatDoor
open Go.RowKit Go.Shelf
attribute [local go_sem] Oper.semAt_some

theorem results_rread {tmps : Array Value} {W : World} {rB : Nat} {cs : Array Value} (hr : W.heap[rB]? = some (.cells cs 25 (0, 0))) (hsz : cs.size = 3)
    (hp : tmps.getD 4 undef = .pointer (some ⟨rB, 0, none⟩)) : (results Tryz.f71 tmps).run Tryz.prog W = .ok (.tuple #[.agg cs, tmps.getD 5 undef, tmps.getD 6 undef]) W := by
  rw [results_q (p := 4) (u := 5) (v := 6) (ty := 25) (by kernel_rfl), hp]
  have h1 : (loadVar 25 ⟨rB, 0, none⟩).run Tryz.prog W = .ok (.agg cs) W := run_loadVar_row W rB _ _ cs _ _ hr Tryz.underlying25 rfl (by rw [hsz]; kernel_rfl)
  simp only [asAddr, Sem.run_pure, Result.andThen_ok, h1]
/-- what the document's read answers -/
def RRP (f : Nat) (w : World) (o : Option (QT × Nat)) (e : Ending) (w' : World) : Prop :=
  Below w.heap.size w w' ∧ ((o = none ∧ ∃ k a n c b m d, ∃ x : Int, 0 ≤ x ∧ x ≤ (f : Int) ∧ e = .returned (.tuple #[.agg #[.int .i64 k, .slice a n c, .slice b m d], .int .i64 x, .bool false])) ∨
    ∃ q n v0 v1 v2, o = some (q, n) ∧ e = .returned (.tuple #[.agg #[v0, v1, v2], .int .i64 (n : Int), .bool true]) ∧ QAt w' (fun b => w.heap.size ≤ b) q v0 v1 v2)
def QRRead (f : Nat) : Prop := ∀ (W : World) (s : List UInt8), s.length ≤ 100000 → Calls Tryz.prog 71 #[.string (uS s), .int .i64 (f : Int)] W (RRP f W (rreadF f s))
/-- a string turned to bytes -/
theorem strB (w : World) (l : List UInt8) : ∃ cap w', (convert 9 22 (.string (uS l))).run Tryz.prog w = .ok (.slice (some ⟨w.heap.size, 0, none⟩) l.length cap) w' ∧
    Row w' (some ⟨w.heap.size, 0, none⟩) l.length (bV l) ∧ Below w.heap.size w w' ∧ w'.heap.size = w.heap.size + 1 := by
  refine ⟨grownCap w (uS l).size 0 5, Lib.bytesWorld w 5 (uS l), ?_, ⟨.inr rfl, ?_⟩, ⟨rfl, rfl, rfl, ?_, ?_⟩, Lib.bytesWorld_size w 5 (uS l)⟩
  · exact (Lib.run_convert_string_bytes (P := Tryz.prog) w 9 22 5 (uS l) Tryz.underlying9 Tryz.underlying22 Tryz.underlying5).trans (by rw [uS_size])
  · intro k hk
    have := Lib.bytesWorld_cell w 5 (uS l) k (by rw [uS_size]; exact hk)
    simp only [bOf, oOf, Option.map_some, Option.getD_some, Nat.zero_add]
    rw [this]
    rfl
  · rw [Lib.bytesWorld_size]; omega
  · exact fun b h => Lib.bytesWorld_at_old w _ _ b h
set_option maxRecDepth 100000 in
set_option maxHeartbeats 2000000 in
theorem rread_no (f : Nat) (w : World) (s : List UInt8) (h : f = 0 ∨ s = []) : Calls Tryz.prog 71 #[.string (uS s), .int .i64 (f : Int)] w (RRP f w (rreadF f s)) := by
  have hr : rreadF f s = none := by
    rcases h with rfl | rfl
    · rw [rreadF]
    · cases f <;> rw [rreadF]
  rw [hr]
  clear hr
  have hn2 := World.alloc_heap_new w (.cells #[.int .i64 0, .slice none 0 0, .slice none 0 0] 25)
  have HN2 := Lib.hid hn2
  have HB : Hid (Below w.heap.size w (w.alloc (.cells #[.int .i64 0, .slice none 0 0, .slice none 0 0] 25))) := (Below.refl _ _).alloc (Nat.le_refl _) _
  have HP : Hid (∀ W, Below w.heap.size w W → RRP f w none (.returned (.tuple #[.agg #[.int .i64 0, .slice none 0 0, .slice none 0 0], .int .i64 0, .bool false])) W) := fun W hW => ⟨hW, .inl ⟨rfl, _, _, _, _, _, _, _, 0, by omega, by omega, rfl⟩⟩
  clear hn2
  have hne : s = [] ∨ (s ≠ [] ∧ f = 0) := by
    by_cases e : s = []
    · exact .inl e
    · exact .inr ⟨e, h.resolve_right e⟩
  clear h
  rcases hne with rfl | ⟨hne, rfl⟩
  · have e0 : uS [] = ⟨#[]⟩ := rfl
    rw [e0]
    generalize (f : Int) = D at *
    go_enter Tryz.func71, Tryz.ntmps71
    go_upto_region 2 with fail
    generalize (w.alloc (.cells #[.int .i64 0, .slice none 0 0, .slice none 0 0] 25)) = w0 at *
    go_wp2_with (refine wpList_store_rowTo rfl 25 _ _ rfl rfl w.heap.size #[.int .i64 0, .slice none 0 0, .slice none 0 0] (by as_aux_lemma => kernel_rfl) (by as_aux_lemma => kernel_rfl) 25 #[.int .i64 0, .slice none 0 0, .slice none 0 0] HN2.out (by as_aux_lemma => kernel_rfl) rfl (by as_aux_lemma => kernel_rfl) ?_)
    refine bodyPost_ret (results_rread (setRow_heap _ _ _ _ _ _ HN2.out) rfl rfl) rfl ?_
    exact HP.out _ (below_setRowS HB.out (Nat.le_refl _) _)
  · have heq : ((uS s).toList == ([] : List UInt8)) = false := by
      rw [uS_toList]
      cases s with
      | nil => exact absurd rfl hne
      | cons a r => rfl
    have e0 : ((0 : Nat) : Int) = 0 := rfl
    rw [e0]
    clear hne
    go_enter Tryz.func71, Tryz.ntmps71
    go_upto_region 2 with fail
    generalize (w.alloc (.cells #[.int .i64 0, .slice none 0 0, .slice none 0 0] 25)) = w0 at *
    go_wp2_with (refine wpList_store_rowTo rfl 25 _ _ rfl rfl w.heap.size #[.int .i64 0, .slice none 0 0, .slice none 0 0] (by as_aux_lemma => kernel_rfl) (by as_aux_lemma => kernel_rfl) 25 #[.int .i64 0, .slice none 0 0, .slice none 0 0] HN2.out (by as_aux_lemma => kernel_rfl) rfl (by as_aux_lemma => kernel_rfl) ?_)
    refine bodyPost_ret (results_rread (setRow_heap _ _ _ _ _ _ HN2.out) rfl rfl) rfl ?_
    exact HP.out _ (below_setRowS HB.out (Nat.le_refl _) _)
set_option maxRecDepth 100000 in
set_option maxHeartbeats 2000000 in
theorem rread_not (f : Nat) (hf : f < 8) (ih : QRRead f) (w : World) (s : List UInt8) (hs : s.length ≤ 100000) (c : UInt8) (r : List UInt8) (hc : s = c :: r) (h33 : c.toNat = 33) : Calls Tryz.prog 71 #[.string (uS s), .int .i64 ((f + 1 : Nat) : Int)] w (RRP (f + 1) w (rreadF (f + 1) s)) := by
  have hr : rreadF (f + 1) s = (rreadF f (s.drop 1)).map fun p => (.node 4 [] [p.1], p.2 + 1) := by
    rw [hc, rreadF, if_pos h33]; rfl
  have hx0 := ixS s 0 c (by rw [hc]; rfl) 0 rfl
  have hc1 : (c.toNat : Int) = 33 := by omega
  rw [hc1] at hx0
  have hl1 : 1 ≤ s.length := by rw [hc]; simp
  have heq : ((uS s).toList == ([] : List UInt8)) = false := by rw [uS_toList, hc]; rfl
  have hcf := uS_drop s 1
  have hD : (((f + 1 : Nat) : Int) == 0) = false := by rw [beq_eq_false_iff_ne]; omega
  have hD2 : (((f + 1 : Nat) : Int)) - 1 = (f : Int) := by omega
  have HIH := Lib.hid (fun W => ih W (s.drop 1) (by rw [List.length_drop]; omega))
  have HLN : Hid (∀ p, rreadF f (s.drop 1) = some p → p.2 ≤ s.length) := fun p hp => by have := (rreadF_len f _ p hp).2; rw [List.length_drop] at this; omega
  have HR := Lib.hid hr
  have HDF : Hid (((f + 1 : Nat) : Int) = (f : Int) + 1) := by show _ = _; omega
  have hsz := uS_size s
  clear hr hc hc1 h33 ih
  have hDr : 0 ≤ ((f + 1 : Nat) : Int) ∧ ((f + 1 : Nat) : Int) ≤ 8 := by omega
  generalize hDD : ((f + 1 : Nat) : Int) = D at *
  clear hDD
  generalize s.drop 1 = t at *
  go_enter Tryz.func71, Tryz.ntmps71
  go_wp2_with fail
  refine (HIH.out _).mono ?_
  rintro e w1 ⟨hb1, hcase⟩
  have hz1 : (w.alloc (.cells #[.int .i64 0, .slice none 0 0, .slice none 0 0] 25)).heap.size = w.heap.size + 1 := by rw [World.size_alloc]
  have hn1 : (w.alloc (.cells #[.int .i64 0, .slice none 0 0, .slice none 0 0] 25)).heap[w.heap.size]? = some (.cells #[.int .i64 0, .slice none 0 0, .slice none 0 0] 25 (0, 0)) := World.alloc_heap_new _ _
  have hb0 : Below w.heap.size w (w.alloc (.cells #[.int .i64 0, .slice none 0 0, .slice none 0 0] 25)) := (Below.refl _ _).alloc (Nat.le_refl _) _
  generalize (w.alloc (.cells #[.int .i64 0, .slice none 0 0, .slice none 0 0] 25)) = w0 at *
  have hb : Below w.heap.size w w1 := below_next hb0 hb1 (by omega)
  have hn2 : w1.heap[w.heap.size]? = some (.cells #[.int .i64 0, .slice none 0 0, .slice none 0 0] 25 (0, 0)) := (hb1.block _ (by omega)).trans hn1
  have hs1 : w.heap.size + 1 ≤ w1.heap.size := by have := hb1.size; omega
  have hform : ∃ k a n c b m d, ∃ x : Int, ∃ okb, e = .returned (.tuple #[.agg #[.int .i64 k, .slice a n c, .slice b m d], .int .i64 x, .bool okb]) ∧ (0 ≤ x ∧ x ≤ 100000) ∧ (okb = false → x ≤ (f : Int) ∧ rreadF f t = none) ∧ (okb = true → ∃ q n', rreadF f t = some (q, n') ∧ x = (n' : Int) ∧ QAt w1 (fun b => w0.heap.size ≤ b) q (.int .i64 k) (.slice a n c) (.slice b m d)) := by
    rcases hcase with ⟨h1, k, a, n, c, b, m, d, x, hx1, hx2, he⟩ | ⟨q, n', v0, v1, v2, h1, he, hq⟩
    · exact ⟨k, a, n, c, b, m, d, x, false, he, ⟨hx1, by omega⟩, fun _ => ⟨hx2, h1⟩, fun h => Bool.noConfusion h⟩
    · obtain ⟨a, n, c, b, m, d, rfl, rfl, rfl⟩ := hq.form
      have := HLN.out _ h1
      exact ⟨_, a, n, c, b, m, d, n', true, he, ⟨by omega, by simp only at this; omega⟩, fun h => Bool.noConfusion h, fun _ => ⟨q, n', h1, rfl, hq⟩⟩
  obtain ⟨k, a, n, c, b, m, d, x, okb, rfl, ⟨hx1, hx2⟩, hno, hyes⟩ := hform
  have HNO := Lib.hid hno
  have HYES := Lib.hid hyes
  have HB := Lib.hid hb
  have HZ0 : Hid (w0.heap.size = w.heap.size + 1) := hz1
  have HN2 := Lib.hid hn2
  clear hcase hno hyes hb hn1 hb0 hb1 hz1 hx0 hcf
  have hn3 : ((w1.alloc (.cells #[.int .i64 k, .slice a n c, .slice b m d] 25)).alloc (.cells #[.int .i64 k, .slice a n c, .slice b m d] 25)).heap[w.heap.size]? = some (.cells #[.int .i64 0, .slice none 0 0, .slice none 0 0] 25 (0, 0)) :=
    (Below.heap_alloc _ _ _ (by rw [World.size_alloc]; omega)).trans ((Below.heap_alloc _ _ _ (by omega)).trans hn2)
  have HN3 := Lib.hid hn3
  clear hn2 hn3
  go_wp2_with (refine wpList_store_rowTo rfl 25 _ _ rfl rfl w.heap.size #[.int .i64 4, .slice none 0 0, .slice (some ⟨w1.heap.size + 1, 0, none⟩) 1 1] (by as_aux_lemma => kernel_rfl) (by as_aux_lemma => kernel_rfl) 25 #[.int .i64 0, .slice none 0 0, .slice none 0 0] HN3.out (by as_aux_lemma => kernel_rfl) rfl (by as_aux_lemma => kernel_rfl) ?_)
  have HW : Hid (Below w.heap.size w (((w1.alloc (.cells #[.int .i64 k, .slice a n c, .slice b m d] 25)).alloc (.cells #[.int .i64 k, .slice a n c, .slice b m d] 25)).setRow w.heap.size #[.int .i64 4, .slice none 0 0, .slice (some ⟨w1.heap.size + 1, 0, none⟩) 1 1])) :=
    below_setRowS ((HB.out.alloc (by omega) _).alloc (by simp; omega) _) (Nat.le_refl _) _
  refine bodyPost_ret (results_rread (setRow_heap _ _ _ _ _ _ HN3.out) rfl rfl) rfl ?_
  cases okb with
  | false => exact ⟨HW.out, .inl ⟨by rw [HR.out, (HNO.out rfl).2]; rfl, _, _, _, _, _, _, _, x + 1, by omega, by have := (HNO.out rfl).1; have := HDF.out; omega, rfl⟩⟩
  | true =>
    obtain ⟨q, n', h1, rfl, hq⟩ := HYES.out rfl
    refine ⟨HW.out, .inr ⟨.node 4 [] [q], n' + 1, _, _, _, by rw [HR.out, h1]; rfl, rfl, ?_⟩⟩
    refine QAt.one (T := 25) (hq.move (fun b hb hg => ?_) (fun b _ hg => ?_)) ?_ (by omega)
    · rw [setRow_other _ _ _ _ (by have := HZ0.out; omega), Below.heap_alloc _ _ _ (by rw [World.size_alloc]; omega), Below.heap_alloc _ _ _ hb]
    · have := HZ0.out; omega
    · rw [setRow_other _ _ _ _ (by omega)]
      have := World.alloc_heap_new (w1.alloc (.cells #[.int .i64 k, .slice a n c, .slice b m d] 25)) (.cells #[.int .i64 k, .slice a n c, .slice b m d] 25)
      rwa [World.size_alloc] at this
set_option maxRecDepth 100000 in
set_option maxHeartbeats 2000000 in
theorem rread_text (f : Nat) (hf : f < 8) (w : World) (s : List UInt8) (hs : s.length ≤ 100000) (c : UInt8) (r : List UInt8) (hc : s = c :: r) (h33 : c.toNat ≠ 33) (h40 : c.toNat ≠ 40) : Calls Tryz.prog 71 #[.string (uS s), .int .i64 ((f + 1 : Nat) : Int)] w (RRP (f + 1) w (rreadF (f + 1) s)) := by
  have hr : rreadF (f + 1) s = (unq s).map fun p => (.node 1 p.1 [], p.2) := by
    rw [hc, rreadF, if_neg h33, if_neg h40]
  have hx0 := ixS s 0 c (by rw [hc]; rfl) 0 rfl
  have e1 : ((c.toNat : Int) == 33) = false := by rw [beq_eq_false_iff_ne]; omega
  have e2 : ((c.toNat : Int) != 40) = true := by rw [bne_iff_ne]; omega
  have hl1 : 1 ≤ s.length := by rw [hc]; simp
  have heq : ((uS s).toList == ([] : List UInt8)) = false := by rw [uS_toList, hc]; rfl
  have hD : (((f + 1 : Nat) : Int) == 0) = false := by rw [beq_eq_false_iff_ne]; omega
  have HIH := Lib.hid (fun W => runquote_any W s hs)
  have HR := Lib.hid hr
  have hsz := uS_size s
  have hDr : 0 ≤ ((f + 1 : Nat) : Int) ∧ ((f + 1 : Nat) : Int) ≤ 8 := by omega
  clear hr hc h33 h40
  generalize hDD : ((f + 1 : Nat) : Int) = D at *
  have HDD := Lib.hid hDD
  clear hDD
  generalize c.toNat = cn at *
  go_enter Tryz.func71, Tryz.ntmps71
  go_wp2_with fail
  refine (HIH.out _).mono ?_
  rintro e w1 ⟨hb1, hcase⟩
  have hz1 : (w.alloc (.cells #[.int .i64 0, .slice none 0 0, .slice none 0 0] 25)).heap.size = w.heap.size + 1 := by rw [World.size_alloc]
  have hn1 : (w.alloc (.cells #[.int .i64 0, .slice none 0 0, .slice none 0 0] 25)).heap[w.heap.size]? = some (.cells #[.int .i64 0, .slice none 0 0, .slice none 0 0] 25 (0, 0)) := World.alloc_heap_new _ _
  have hb0 : Below w.heap.size w (w.alloc (.cells #[.int .i64 0, .slice none 0 0, .slice none 0 0] 25)) := (Below.refl _ _).alloc (Nat.le_refl _) _
  generalize (w.alloc (.cells #[.int .i64 0, .slice none 0 0, .slice none 0 0] 25)) = w0 at *
  have hb : Below w.heap.size w w1 := below_next hb0 hb1 (by omega)
  have hn2 : w1.heap[w.heap.size]? = some (.cells #[.int .i64 0, .slice none 0 0, .slice none 0 0] 25 (0, 0)) := (hb1.block _ (by omega)).trans hn1
  have hs1 : w.heap.size + 1 ≤ w1.heap.size := by have := hb1.size; omega
  have HB := Lib.hid hb
  have HN2 := Lib.hid hn2
  have hform : ∃ (b : List UInt8) (x : Int) (okb : Bool), e = .returned (.tuple #[.string (uS b), .int .i64 x, .bool okb]) ∧ b.length ≤ 100000 ∧ (okb = false → x = 0 ∧ unq s = none) ∧ (okb = true → ∃ n : Nat, x = (n : Int) ∧ unq s = some (b, n)) := by
    rcases hcase with ⟨h1, he⟩ | ⟨b, n, h1, he⟩
    · exact ⟨[], 0, false, he, by simp, fun _ => ⟨rfl, h1⟩, fun h => Bool.noConfusion h⟩
    · have h2 := unq_len h1
      simp only at h2
      exact ⟨b, n, true, he, by omega, fun h => Bool.noConfusion h, fun _ => ⟨n, rfl, h1⟩⟩
  obtain ⟨b, x, okb, rfl, hbl, hno, hyes⟩ := hform
  have HNO := Lib.hid hno
  have HYES := Lib.hid hyes
  obtain ⟨cv, w2, hcv, hrow, hb2, hs2⟩ := strB w1 b
  have HROW := Lib.hid hrow
  have HN3 : Hid (w2.heap[w.heap.size]? = some (.cells #[.int .i64 0, .slice none 0 0, .slice none 0 0] 25 (0, 0))) := (hb2.block _ (by omega)).trans hn2
  have HB2 : Hid (Below w.heap.size w w2) := below_next hb hb2 (by omega)
  clear hcase hno hyes hb hn1 hb0 hb1 hz1 hx0 hn2 hrow hb2
  go_wp2_with (refine wpList_store_rowTo rfl 25 _ _ rfl rfl w.heap.size #[.int .i64 1, .slice (some ⟨w1.heap.size, 0, none⟩) b.length cv, .slice none 0 0] (by as_aux_lemma => kernel_rfl) (by as_aux_lemma => kernel_rfl) 25 #[.int .i64 0, .slice none 0 0, .slice none 0 0] HN3.out (by as_aux_lemma => kernel_rfl) rfl (by as_aux_lemma => kernel_rfl) ?_)
  have HW : Hid (Below w.heap.size w (w2.setRow w.heap.size #[.int .i64 1, .slice (some ⟨w1.heap.size, 0, none⟩) b.length cv, .slice none 0 0])) := below_setRowS HB2.out (Nat.le_refl _) _
  refine bodyPost_ret (results_rread (setRow_heap _ _ _ _ _ _ HN3.out) rfl rfl) rfl ?_
  cases okb with
  | false => exact ⟨HW.out, .inl ⟨by rw [HR.out, (HNO.out rfl).2]; rfl, _, _, _, _, _, _, _, x, by rw [(HNO.out rfl).1]; omega, by rw [(HNO.out rfl).1]; have := HDD.out; omega, rfl⟩⟩
  | true =>
    obtain ⟨n, rfl, h1⟩ := HYES.out rfl
    refine ⟨HW.out, .inr ⟨.node 1 b [], n, _, _, _, by rw [HR.out, h1]; rfl, rfl, .mk 1 b [] (some ⟨w1.heap.size, 0, none⟩) cv none 0 (fun _ => undef) ⟨HROW.out.at_, fun k hk' => ?_⟩ (.inr (by show w.heap.size ≤ w1.heap.size; omega)) (by simp only [maxLen]; omega) (Row.nil _ _ _) (.inl rfl) (Nat.zero_le _) (fun i hi => absurd hi (Nat.not_lt_zero i))⟩⟩
    exact (World.cell?_of_block (a := ⟨w1.heap.size, 0 + k, none⟩) (setRow_other _ _ _ _ (by show w1.heap.size ≠ w.heap.size; omega))).trans (HROW.out.cell k hk')
end Go.Proofs.YtdcobmoeligdkaaGreatDoor
