/-
  The statement SuffixSame: its walk.
-/
import Derived.Test.YtddceidepmckiaaSufOk
import Derived.Test.YtddceidepmckiaaTextAsk
namespace Go.Proofs.Ytddceidepmckiaa
open Go.RowKit

def pairL (m : Nat) (l : List Nat) : List Nat := l.flatMap fun o => [o, m + 1 + o]
theorem pairL_at (m : Nat) (l : List Nat) : ∀ i, i < l.length → (pairL m l)[2 * i]? = l[i]? ∧ (pairL m l)[2 * i + 1]? = (l[i]?).map (m + 1 + ·) := by
  induction l with
  | nil => intro i hi; simp at hi
  | cons v l ih =>
    intro i hi
    have e : pairL m (v :: l) = v :: (m + 1 + v) :: pairL m l := rfl
    rw [e]
    cases i with
    | zero => exact ⟨rfl, rfl⟩
    | succ i =>
      have h := ih i (by simpa using hi)
      rw [show 2 * (i + 1) = 2 * i + 1 + 1 by omega]
      simpa using h
theorem pairL_len (m : Nat) (l : List Nat) : (pairL m l).length = 2 * l.length := by
  induction l with
  | nil => rfl
  | cons v l ih => rw [show pairL m (v :: l) = v :: (m + 1 + v) :: pairL m l from rfl, List.length_cons, List.length_cons, ih, List.length_cons]; omega
theorem mem_pairL (m : Nat) (l : List Nat) (x : Nat) : x ∈ pairL m l ↔ x ∈ l ∨ ∃ o ∈ l, x = m + 1 + o := by
  unfold pairL
  simp only [List.mem_flatMap, List.mem_cons, List.not_mem_nil, or_false]
  constructor
  · rintro ⟨o, ho, h | h⟩
    · subst h; exact .inl ho
    · exact .inr ⟨o, ho, h⟩
  · rintro (h | ⟨o, ho, h⟩)
    · exact ⟨x, h, .inl rfl⟩
    · exact ⟨o, ho, .inr h⟩
theorem row_two (d : List Nat) : (rowOf [d, d]).length = 2 * (d.length + 1) := by simp [rowOf]; omega
theorem row_one_len (d : List Nat) : (rowOf [d]).length = d.length + 1 := by simp [rowOf]
theorem start_two (d : List Nat) : startOf [d, d] 0 = 0 ∧ startOf [d, d] 1 = d.length + 1 := ⟨rfl, by simp [startOf, rowOf]⟩
/-- the order of the one, by the order of the two -/
theorem two_docs (d : List Nat) (r k r' k' : Nat) (hr : r < 2) (hr' : r' < 2) (hk : k ≤ d.length) (hk' : k' ≤ d.length) :
    ltS (ordS [d, d]) (startOf [d, d] r + k) (startOf [d, d] r' + k') ↔ lexL (d.drop k) (d.drop k') ∨ (d.drop k = d.drop k' ∧ r < r') := by
  have g : ∀ r, r < 2 → ([d, d] : List (List Nat)).getD r [] = d := fun r hr => by
    match r, hr with
    | 0, _ => rfl
    | 1, _ => rfl
  have := ltS_docs [d, d] (d.length - k) r k r' k' hr hr' (by rw [g r hr]; omega) (by rw [g r' hr']; exact hk')
  rw [g r hr, g r' hr'] at this
  exact this
theorem one_doc (d : List Nat) (k k' : Nat) (hk : k ≤ d.length) (hk' : k' ≤ d.length) : ltS (ordS [d]) k k' ↔ lexL (d.drop k) (d.drop k') := by
  have := ltS_docs [d] (d.length - k) 0 k 0 k' (by simp) (by simp) (by simp; omega) (by simpa using hk')
  show ltS (symS (rowOf [d]) 1) k k' ↔ _
  simpa [startOf_zero] using this
theorem same_order (d : List Nat) (sa : List Nat) (h : IsSA (ordS [d, d]) (rowOf [d, d]).length sa) : ∀ i, i ≤ d.length → ∃ o, o ≤ d.length ∧ sa.getD (2 * i) 0 = startOf [d, d] 0 + o ∧ sa.getD (2 * i + 1) 0 = startOf [d, d] 1 + o := by
  let s0 := sa.filter fun x => decide (x < (rowOf [d]).length)
  have h0 : IsSA (ordS [d]) (rowOf [d]).length s0 := by
    have hle : (rowOf [d]).length ≤ (rowOf [d, d]).length := by rw [row_two, row_one_len]; omega
    refine ⟨len_filter_lt sa _ _ (nodup_ltS h.ord) h.mem hle, fun x => ?_, ?_⟩
    · rw [List.mem_filter, h.mem, decide_eq_true_eq]
      exact ⟨fun h => h.2, fun h => ⟨by omega, h⟩⟩
    · refine List.Pairwise.imp_of_mem ?_ (h.ord.filter _)
      intro p q hp hq hpq
      have hp' := (List.mem_filter.1 hp).2
      have hq' := (List.mem_filter.1 hq).2
      rw [decide_eq_true_eq] at hp' hq'
      exact (ltS_append [d] [d] p q hp' hq').1 hpq
  have hm0 : ∀ o, o ∈ s0 ↔ o ≤ d.length := fun o => by rw [h0.mem, row_one_len]; omega
  obtain ⟨st0, st1⟩ := start_two d
  have hL : IsSA (ordS [d, d]) (rowOf [d, d]).length (pairL d.length s0) := by
    refine ⟨by rw [pairL_len, h0.len, row_two, row_one_len], fun x => ?_, ?_⟩
    · rw [mem_pairL, row_two]
      simp only [hm0]
      constructor
      · rintro (h | ⟨o, ho, h⟩) <;> omega
      · intro hx
        by_cases c : x ≤ d.length
        · exact .inl c
        · exact .inr ⟨x - (d.length + 1), by omega, by omega⟩
    · unfold pairL
      rw [List.pairwise_flatMap]
      refine ⟨fun o ho => ?_, ?_⟩
      · have ho' := (hm0 o).1 ho
        have := (two_docs d 0 o 1 o (by omega) (by omega) ho' ho').2 (.inr ⟨rfl, by omega⟩)
        rw [st0, st1, Nat.zero_add] at this
        simpa using this
      · refine List.Pairwise.imp_of_mem ?_ h0.ord
        intro a b ha hb hab x hx y hy
        have ha' := (hm0 a).1 ha
        have hb' := (hm0 b).1 hb
        have hlex := (one_doc d a b ha' hb').1 hab
        have key : ∀ r r', r < 2 → r' < 2 → ltS (ordS [d, d]) (startOf [d, d] r + a) (startOf [d, d] r' + b) := fun r r' hr hr' => (two_docs d r a r' b hr hr' ha' hb').2 (.inl hlex)
        have k00 := key 0 0 (by omega) (by omega)
        have k01 := key 0 1 (by omega) (by omega)
        have k10 := key 1 0 (by omega) (by omega)
        have k11 := key 1 1 (by omega) (by omega)
        rw [st0, st1, Nat.zero_add] at *
        simp only [List.mem_cons, List.not_mem_nil, or_false] at hx hy
        rcases hx with rfl | rfl <;> rcases hy with rfl | rfl
        · simpa using k00
        · simpa using k01
        · simpa using k10
        · simpa using k11
  have e := h.one hL
  intro i hi
  have hil : i < s0.length := by rw [h0.len, row_one_len]; omega
  obtain ⟨p1, p2⟩ := pairL_at d.length s0 i hil
  rw [← e, List.getElem?_eq_getElem hil] at p1 p2
  refine ⟨s0[i], (hm0 _).1 (List.getElem_mem _), ?_, ?_⟩
  · rw [List.getD_eq_getElem?_getD, p1, st0, Nat.zero_add]; rfl
  · rw [List.getD_eq_getElem?_getD, p2, st1]; rfl

theorem docs_two {w : World} {a1 : Option Addr} {d : List Nat} {cap1 : Nat} (h : Row w a1 d.length (byteV d)) :
    DocsAt (w.alloc (.cells #[.slice a1 d.length cap1, .slice a1 d.length cap1] 23)) (some ⟨w.heap.size, 0, none⟩) (fun _ => a1) (fun _ => cap1) [d, d] := by
  have r := row_marked w #[.slice a1 d.length cap1, .slice a1 d.length cap1] 23 (0, 0) (fun r => .slice a1 (([d, d] : List (List Nat)).getD r []).length cap1) (by
    intro i hi
    match i, hi with
    | 0, _ => rfl
    | 1, _ => rfl)
  refine ⟨r, fun r hr => ?_⟩
  match r, hr with
  | 0, _ => exact row_alloc h _
  | 1, _ => exact row_alloc h _
set_option maxRecDepth 100000 in
set_option maxHeartbeats 2000000 in
theorem ssame_walk (w : World) (a1 : Option Addr) (len cap1 : Nat) (f : Nat → Int) (hl : len ≤ maxLen) (hr : Row w a1 len (fun k => .int .u8 (f k)) ∧ ∀ k, k < len → (Lit.int .u8 (f k)).wf = true) :
    Calls Try.prog 7 #[.slice a1 len cap1] w fun e w' => e = .returned (.bool true) ∧ Below w.heap.size w w' := by
  obtain ⟨d, hd, hdr, hdb⟩ := bytes_list hr
  subst hd
  clear hr
  have HDR := Lib.hid hdr
  have HDB := Lib.hid hdb
  unfold maxLen at hl
  clear hdr hdb
  by_cases h300 : (300 : Int) < (d.length : Int)
  · go_enter Try.func7, Try.ntmps7
    go_wp2_with (go_at_call 16; refine (awake10_any _).mono ?_; rintro e w1 ⟨rfl, hb⟩)
    go_ret
    exact ⟨rfl, hb⟩
  · have h300d : decide ((300 : Int) < (d.length : Int)) = false := by simp; omega
    have hok : NewOk [d, d] := ⟨by simp, by intro y hy; simp at hy; subst hy; omega, by rw [row_two]; omega, by intro y hy; simp at hy; subst hy; exact HDB.out⟩
    have hB0 : Below w.heap.size w (w.alloc (.cells #[.slice a1 d.length cap1, .slice a1 d.length cap1] 23)) := (Below.refl _ _).alloc (Nat.le_refl _) _
    have hmd := made_any _ _ 2 _ _ [d, d] (docs_two (cap1 := cap1) HDR.out) hok
    have HMD := Lib.hid hmd
    have HB0 := Lib.hid hB0
    have HOK := Lib.hid hok
    have hn := row_two d
    generalize hds : [d, d] = ds at *
    have hln : ds.length = 2 := by rw [← hds]; rfl
    rw [hln] at HMD
    have HDS := Lib.hid hds
    have HN := Lib.hid hn
    have hnb : (rowOf ds).length ≤ 602 := by omega
    clear hmd hB0 hok hds hn hl hln
    go_enter Try.func7, Try.ntmps7
    go_wp2_with fail
    refine HMD.out.mono ?_
    rintro e w1 ⟨bt, x, rfl, ht, hb1⟩
    have HT := Lib.hid ht
    have HB1 : Hid (Below w.heap.size w w1) := below_next HB0.out hb1 HB0.out.size
    clear ht hb1 HMD HB0
    go_wp2_with fail
    refine (array_any w1 bt x ds HT.out HOK.out).mono ?_
    rintro e w2 ⟨aa, ca, sa, rfl, hra, hsa, hb2, _⟩
    have HRA := Lib.hid hra
    have HSA := Lib.hid hsa
    have HT2 := Lib.hid (HT.out.kept hb2)
    have HB2 : Hid (Below w.heap.size w w2) := below_next HB1.out hb2 HB1.out.size
    have hso : ∀ i, i ≤ d.length → ∃ o, o ≤ d.length ∧ sa.getD (2 * i) 0 = startOf ds 0 + o ∧ sa.getD (2 * i + 1) 0 = startOf ds 1 + o := by
      rw [← HDS.out]; exact same_order d sa (by rw [HDS.out]; exact hsa)
    have HSO := Lib.hid hso
    clear hra hsa hb2 HT HB1 hso
    have hix := run_ix (P := Try.prog) 28 (by kernel_rfl) size_int aa (rowOf ds).length ca HRA.out.at_ .i64
    generalize hN : (rowOf ds).length = n at *
    have HNN := Lib.hid hN
    have e2m : (2 : Int) * ((d.length : Int) + 1) = (n : Int) := by have := HN.out; omega
    have em : IntKind.i64.wrap ((d.length : Int) + 1) = (d.length : Int) + 1 := IntWalk.i64_in _ (by omega)
    clear hN
    go_wp2_with fail
    clear em e2m h300d
    have hd0 : ∀ r, r < 2 → ds.getD r [] = d ∧ r < ds.length := fun r hr => by
      rw [← HDS.out]
      match r, hr with
      | 0, _ => exact ⟨rfl, by simp⟩
      | 1, _ => exact ⟨rfl, by simp⟩
    have HD0 := Lib.hid hd0
    clear hd0
    go_loopw [5] (fun ii wr => ∃ t : Nat, 2 * t ≤ n ∧ ii = .int .i64 ((2 * t : Nat) : Int) ∧ ∃ j, wr = w2.drewN j) (fun ii _ => n - (intOf ii).toNat)
    case atStart => exact ⟨0, by omega, rfl, 0, rfl⟩
    case round =>
      obtain ⟨t, ht, rfl, j, hw⟩ := hrel
      have HWJ := Lib.hid hw
      have HTj : Hid (TextAt wr bt x ds) := by rw [HWJ.out]; exact HT2.out.drewN j
      have HRj : Hid (Row wr aa n (natV sa)) := by rw [HWJ.out]; exact HRA.out.drewN j
      clear hw
      by_cases hlt : 2 * t < n
      · obtain ⟨o, ho, e0, e1⟩ := HSO.out t (by have := HN.out; omega)
        have ht1 : 2 * t + 1 < n := by have := HN.out; omega
        have d0 : wr.cell? ⟨bOf aa, oOf aa + 2 * t, none⟩ = some (.int .i64 ((startOf ds 0 + o : Nat) : Int)) := (HRj.out.cell (2 * t) hlt).trans (by show some (Value.int .i64 ((sa.getD (2 * t) 0 : Nat) : Int)) = _; rw [e0])
        have d1 : wr.cell? ⟨bOf aa, oOf aa + (2 * t + 1), none⟩ = some (.int .i64 ((startOf ds 1 + o : Nat) : Int)) := (HRj.out.cell (2 * t + 1) ht1).trans (by show some (Value.int .i64 ((sa.getD (2 * t + 1) 0 : Nat) : Int)) = _; rw [e1])
        have HA0 := Lib.hid (fun jj => tat_any (wr.drewN jj) bt x ds (HTj.out.drewN jj) HOK.out 0 o (HD0.out 0 (by omega)).2 (by rw [(HD0.out 0 (by omega)).1]; exact ho))
        have HA1 := Lib.hid (fun jj => tat_any (wr.drewN jj) bt x ds (HTj.out.drewN jj) HOK.out 1 o (HD0.out 1 (by omega)).2 (by rw [(HD0.out 1 (by omega)).1]; exact ho))
        have hx1 := fun W => hix W (2 * t + 1) ht1
        have ec1 : ((2 * t + 1 : Nat) : Int) = ((2 * t : Nat) : Int) + 1 := by omega
        rw [ec1] at hx1
        clear e0 e1 ec1
        generalize startOf ds 0 + o = p0 at *
        generalize startOf ds 1 + o = p1 at *
        obtain ⟨t2, ht2⟩ : ∃ t2, t2 = 2 * t := ⟨_, rfl⟩
        rw [← ht2] at hlt ht1 d0 d1 hx1 ⊢
        have HT2t := Lib.hid ht2
        clear ht2
        go_wp2_with fail
        refine (HA0.out 0).mono ?_
        rintro e w3 ⟨rfl, j1, hw3⟩
        have hw3' : w3 = wr.drewN j1 := hw3
        subst hw3'
        clear hw3
        go_wp2_with fail
        refine (HA1.out j1).mono ?_
        rintro e w3 ⟨rfl, j2, hw3⟩
        have hw3' : w3 = wr.drewN (j1 + j2) := by rw [hw3, World.drewN_drewN]
        subst hw3'
        clear hw3
        go_wp2
        go_roundw
        case rel => exact ⟨t + 1, by have := HN.out; have := HT2t.out; omega, by rw [HT2t.out]; go_num, j + (j1 + j2), by rw [HWJ.out, World.drewN_drewN]⟩
        case measure => simp [intOf]; omega
      · obtain ⟨t2, ht2⟩ : ∃ t2, t2 = 2 * t := ⟨_, rfl⟩
        rw [← ht2]
        obtain rfl : t2 = n := by omega
        have hd : decide ((t2 : Int) < t2) = false := by simp
        have HOKY := Lib.hid (fun (W : World) (h1 : TextAt W bt x ds) (h2 : Row W aa t2 (natV sa)) => ok_yes W bt x ds h1 HOK.out aa ca sa (by rw [HNN.out]; exact h2) (by rw [HNN.out]; exact HSA.out))
        clear ht2
        go_wp2_with fail
        refine (arr_nil _).mono ?_
        rintro e w3 ⟨rfl, rfl⟩
        go_wp2_with fail
        have hoky := HOKY.out wr HTj.out HRj.out
        rw [HNN.out] at hoky
        refine hoky.mono ?_
        rintro e w3 ⟨rfl, hb3⟩
        have HB3 := Lib.hid hb3
        clear hb3 hoky
        go_wp2_with fail
        refine (awake10_any _).mono ?_
        rintro e w4 ⟨rfl, hb4⟩
        have HB4 := Lib.hid hb4
        clear hb4
        go_wp2
        go_ret
        have hBr : Below w.heap.size w wr := by rw [HWJ.out]; exact below_drewN HB2.out j
        have hB3 := below_next hBr HB3.out hBr.size
        exact ⟨rfl, below_next hB3 HB4.out hB3.size⟩
end Go.Proofs.Ytddceidepmckiaa
