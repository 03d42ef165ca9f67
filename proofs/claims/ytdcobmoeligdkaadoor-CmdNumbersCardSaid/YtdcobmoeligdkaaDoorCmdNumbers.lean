/-
  The statement CmdNumbers: its walk.
-/
import Derived.Test.YtdcobmoeligdkaaDoorCmDigits
namespace Go.Proofs.YtdcobmoeligdkaaDoor
open Go.RowKit Go.Shelf

/-- "rest" and what stands behind it -/
def restL (t : List UInt8) : List UInt8 := [114, 101, 115, 116] ++ t
theorem rest_word (t : List UInt8) : wordOf (restL (32 :: t)) = [114, 101, 115, 116] := wordOf_blank [114, 101, 115, 116] t (by decide)
theorem rest_word0 : wordOf (restL []) = [114, 101, 115, 116] := wordOf_all [114, 101, 115, 116] (by decide)
theorem rest_q (l : List UInt8) (h : wordOf l = [114, 101, 115, 116]) : ∀ c ∈ needsOf (kindI (wordOf l)).toNat, c.toNat ≠ 113 := by
  rw [h, kind_rest]; decide
def stR : PCmd := { kind := 10, text := [], n := 0, m := 0, k := 0, cnt := 0 }
theorem rest_parse (t : List UInt8) : parseL (restL (32 :: t)) = [((110 : UInt8), t.take (blank t)), (0, t.drop (blank t))].foldlM putS stR := by
  unfold parseL
  rw [rest_word, kind_rest, if_neg (by decide)]
  have hn : needsOf (10 : Int).toNat = [110] := rfl
  have hd : (restL (32 :: t)).drop ([114, 101, 115, 116] : List UInt8).length = 32 :: t := rfl
  rw [hn, hd]
  unfold parseS
  have p1 : pieceLen 110 t = blank t := by unfold pieceLen; rw [if_neg (by decide), if_pos (by decide)]
  rw [wordsL, if_pos (by decide), p1]
  rfl
theorem rest_parse0 : parseL (restL []) = none := by
  unfold parseL
  rw [rest_word0, kind_rest, if_neg (by decide)]
  rfl
theorem blank_none (t : List UInt8) (h : ∀ b ∈ t, b ≠ 32) : blank t = t.length := by
  have h1 : Lib.indexByte t 32 = -1 := by
    induction t with
    | nil => rfl
    | cons a r ih =>
      have ha : a ≠ 32 := h a (by simp)
      have hr := ih (fun b hb => h b (by simp [hb]))
      rw [Lib.indexByte, if_neg (by simpa using ha), if_pos (by rw [hr]; rfl)]
  unfold blank
  rw [if_pos (by rw [h1]; decide)]
theorem blank_nil : blank [] = 0 := rfl
theorem putS_num (st : PCmd) (w : List UInt8) : putS st (110, w) = (numR w).map (putN st) := by
  unfold putS
  rw [if_neg (show ¬ (110 : UInt8).toNat = 116 from by decide), if_pos (show (110 : UInt8).toNat = 110 from by decide)]
theorem putS_end (st : PCmd) (w : List UInt8) : putS st (0, w) = if w = [] then some st else none := by
  unfold putS
  rw [if_neg (show ¬ (0 : UInt8).toNat = 116 from by decide), if_neg (show ¬ (0 : UInt8).toNat = 110 from by decide)]
  by_cases h : w = []
  · rw [if_pos ⟨show (0 : UInt8).toNat ≠ 33 from by decide, h⟩, if_pos h]
  · rw [if_neg (fun q => h q.2), if_neg h]
theorem rest_none (t : List UInt8) (h : numR (t.take (blank t)) = none) : parseL (restL (32 :: t)) = none := by
  rw [rest_parse, List.foldlM_cons, putS_num, h]; rfl
theorem rest_some (t : List UInt8) (n : Nat) (hb : ∀ b ∈ t, b ≠ 32) (h : numR t = some n) : parseL (restL (32 :: t)) = some { stR with n := n, cnt := 1 } := by
  rw [rest_parse, blank_none t hb, List.take_length, List.drop_length, List.foldlM_cons, putS_num, h]
  show List.foldlM putS (putN stR n) [(0, [])] = _
  rw [List.foldlM_cons, putS_end, if_pos rfl]
  rfl
theorem dec_noblank (n : Nat) : ∀ b ∈ Lib.decDigits n, b ≠ 32 := fun b hb e => by
  have := dec_digits n b hb
  rw [e] at this
  exact absurd this.1 (by decide)
/-- the lines that are refused -/
def refL (d : List UInt8) : List (List UInt8) :=
  [restL (32 :: 48 :: d), restL (32 :: 45 :: d), restL (32 :: 43 :: d), restL [32, 49, 48, 48, 48, 48, 48, 48, 48, 48, 48], restL [], restL [32], restL (32 :: 32 :: d), restL (32 :: (d ++ [46]))]
theorem ref_none (n : Nat) : ∀ l ∈ refL (Lib.decDigits n), parseL l = none ∧ wordOf l = [114, 101, 115, 116] ∧ l.length ≤ (Lib.decDigits n).length + 20 := by
  have hb := dec_noblank n
  have hcons : ∀ c : UInt8, c ≠ 32 → ∀ b ∈ c :: Lib.decDigits n, b ≠ 32 := fun c hc b hb' => by
    rw [List.mem_cons] at hb'
    rcases hb' with rfl | h
    · exact hc
    · exact hb b h
  intro l hl
  simp only [refL, List.mem_cons, List.not_mem_nil, or_false] at hl
  rcases hl with rfl | rfl | rfl | rfl | rfl | rfl | rfl | rfl
  · refine ⟨rest_none _ ?_, rest_word _, by simp [restL]⟩
    rw [blank_none _ (hcons 48 (by decide)), List.take_length]
    exact numR_zero (dec_ne n)
  · refine ⟨rest_none _ ?_, rest_word _, by simp [restL]⟩
    rw [blank_none _ (hcons 45 (by decide)), List.take_length]
    exact numR_bad (b := 45) (by simp) (by decide)
  · refine ⟨rest_none _ ?_, rest_word _, by simp [restL]⟩
    rw [blank_none _ (hcons 43 (by decide)), List.take_length]
    exact numR_bad (b := 43) (by simp) (by decide)
  · refine ⟨rest_none _ ?_, rest_word _, by simp [restL]⟩
    rw [blank_none _ (by decide), List.take_length]
    exact numR_long (by decide)
  · exact ⟨rest_parse0, rest_word0, by simp [restL]⟩
  · exact ⟨rest_none [] numR_nil, rest_word _, by simp [restL]⟩
  · refine ⟨rest_none _ ?_, rest_word _, by simp [restL]⟩
    have h0 : blank (32 :: Lib.decDigits n) = 0 := by
      have : Lib.indexByte (32 :: Lib.decDigits n) 32 = 0 := by rw [Lib.indexByte]; rfl
      unfold blank
      rw [this]; rfl
    rw [h0]; exact numR_nil
  · refine ⟨rest_none _ ?_, rest_word _, by simp [restL]⟩
    rw [blank_none _ (fun b hb' => by
      rw [List.mem_append, List.mem_singleton] at hb'
      rcases hb' with h | rfl
      · exact hb b h
      · decide), List.take_length]
    exact numR_bad (b := 46) (by simp) (by decide)
theorem rest_line (x : Int) : lineL 10 x 0 0 [] = restL (32 :: Lib.itoa x) := by
  have hn : needsOf 10 = [110] := rfl
  unfold lineL
  rw [hn]
  show Lib.join ([114, 101, 115, 116] :: [Lib.itoa x]) [32] = _
  rw [Lib.join_cons]
  show _ ++ ((([Lib.itoa x]).map ([32] ++ ·)).flatten) = _
  simp [restL]
theorem rest_refused (x : Int) (h : numR (Lib.itoa x) = none) (hb : ∀ b ∈ Lib.itoa x, b ≠ 32) : textR 10 x 0 0 [] = none := by
  unfold textR
  rw [if_pos ⟨by decide, by decide, by simp⟩]
  have hl : lineL (10 : Int).toNat x 0 0 [] = restL (32 :: Lib.itoa x) := rest_line x
  rw [hl, rest_none _ (by rw [blank_none _ hb, List.take_length]; exact h)]
theorem rest_neg (n : Nat) : textR 10 (-(n : Int) - 1) 0 0 [] = none := by
  have hi : Lib.itoa (-(n : Int) - 1) = 45 :: Lib.decDigits (n + 1) := by
    unfold Lib.itoa
    rw [if_pos (by omega)]
    congr 2
    omega
  refine rest_refused _ ?_ ?_
  · rw [hi]; exact numR_bad (b := 45) (by simp) (by decide)
  · rw [hi]; intro b hb
    rw [List.mem_cons] at hb
    rcases hb with rfl | h
    · decide
    · exact dec_noblank _ b h
theorem rest_great (n : Nat) : textR 10 (1000000000 + (n : Int)) 0 0 [] = none := by
  have hi : Lib.itoa (1000000000 + (n : Int)) = Lib.decDigits (1000000000 + n) := by
    unfold Lib.itoa
    rw [if_neg (by omega)]
    congr 1
  refine rest_refused _ ?_ ?_
  · rw [hi]
    refine numR_long ?_
    rcases Nat.lt_or_ge (Lib.decDigits (1000000000 + n)).length 10 with h | h
    · have := dec_lt9 (u := 1000000000 + n) (by omega); omega
    · exact h
  · rw [hi]; exact dec_noblank _
set_option maxRecDepth 100000 in
set_option maxHeartbeats 4000000 in
theorem cmdNumbers_walk (w : World) (he : Env w) (x : Int) (hx : (Lit.int .i64 x).wf = true) : Calls Tryd.prog 4 #[.int .i64 x] w fun e w' => e = .returned (.bool true) ∧ Below w.heap.size w w' := by
  obtain ⟨N, hN⟩ : ∃ N : Nat, (bits .and .i64 x 1099511627775).tmod 1000000000 = (N : Int) ∧ N < 1000000000 := by
    have h := i64_mask x 40 (by omega)
    have e : (2 : Int) ^ 40 - 1 = 1099511627775 := by decide
    rw [e] at h
    rw [h]
    have h0 := Int.emod_nonneg x (show ((2 : Int) ^ 40) ≠ 0 by decide)
    rw [Int.tmod_eq_emod_of_nonneg h0]
    refine ⟨((x % 2 ^ 40) % 1000000000).toNat, by omega, by omega⟩
  obtain ⟨hN, hN9⟩ := hN
  have hdl := dec_len9 hN9
  have HE := Lib.hid he
  have HDG := Lib.hid (fun W => (digits_any W N (by omega)).mono (fun e w' (q : e = .returned (.string (uS (Lib.decDigits N))) ∧ w' = W) => (show e = .returned (.string (uS (Lib.decDigits N))) ∧ W = w' from ⟨q.1, q.2.symm⟩)))
  have HNP : Hid (∀ W, Below w.heap.size w W → Calls Tryd.prog 9 #[.string (uS (restL (32 :: Lib.decDigits N)))] W (ParsePost W (restL (32 :: Lib.decDigits N)))) := fun W hW =>
    parse_any W (HE.out.kept hW) _ (by simp [restL]; omega) (rest_q _ (rest_word _))
  have HRN := Lib.hid (ref_none N)
  have HRF : Hid (∀ W, Below w.heap.size w W → ∀ l ∈ refL (Lib.decDigits N), Calls Tryd.prog 9 #[.string (uS l)] W fun e w' => e = .returned (.tuple #[.agg zeroC, .int .i64 3]) ∧ Below W.heap.size W w') := fun W hW l hl => by
    obtain ⟨h1, h2, h3⟩ := HRN.out l hl
    refine (parse_any W (HE.out.kept hW) l (by omega) (rest_q l h2)).mono ?_
    rintro e w' ⟨hb, (⟨-, rfl⟩ | ⟨st, v, h, -, -⟩)⟩
    · exact ⟨rfl, hb⟩
    · rw [h1] at h; cases h
  have HSN : Hid (parseL (restL (32 :: Lib.decDigits N)) = some { stR with n := N, cnt := 1 }) := rest_some _ N (dec_noblank N) (numR_dec hN9)
  have HTN : Hid (∀ W, Below w.heap.size w W → Calls Tryd.prog 10 #[cmdI 10 (-(N : Int) - 1) 0 0 (.slice none 0 0)] W fun e w' => e = .returned (.tuple #[.string ⟨#[]⟩, .int .i64 1]) ∧ Below W.heap.size W w') := fun W hW => by
    refine (text_any W (HE.out.kept hW) 10 (-(N : Int) - 1) 0 0 ⟨by omega, by omega⟩ ⟨by decide, by decide⟩ ⟨by decide, by decide⟩ ⟨by decide, by decide⟩ none 0 [] (by simp) (Row.nil _ _ _) (by decide)).mono ?_
    rintro e w' ⟨hb, (⟨-, rfl⟩ | ⟨l, h, -⟩)⟩
    · exact ⟨rfl, hb⟩
    · rw [rest_neg] at h; cases h
  have HTG : Hid (∀ W, Below w.heap.size w W → Calls Tryd.prog 10 #[cmdI 10 (1000000000 + (N : Int)) 0 0 (.slice none 0 0)] W fun e w' => e = .returned (.tuple #[.string ⟨#[]⟩, .int .i64 1]) ∧ Below W.heap.size W w') := fun W hW => by
    refine (text_any W (HE.out.kept hW) 10 (1000000000 + (N : Int)) 0 0 ⟨by omega, by omega⟩ ⟨by decide, by decide⟩ ⟨by decide, by decide⟩ ⟨by decide, by decide⟩ none 0 [] (by simp) (Row.nil _ _ _) (by decide)).mono ?_
    rintro e w' ⟨hb, (⟨-, rfl⟩ | ⟨l, h, -⟩)⟩
    · exact ⟨rfl, hb⟩
    · rw [rest_great] at h; cases h
  have HAW := Lib.hid (fun (W : World) (hW : Below w.heap.size w W) => awake27_any W (HE.out.kept hW))
  generalize hdd : Lib.decDigits N = dd at *
  have a0 : ∀ W : World, (Op.stringOp .add ⟨#[114, 101, 115, 116, 32]⟩ (uS dd)).run Tryd.prog W = .ok (.string (uS (restL (32 :: dd)))) W := add_uS [114, 101, 115, 116, 32] dd (by simp; omega)
  have a1 : ∀ W : World, (Op.stringOp .add ⟨#[114, 101, 115, 116, 32, 48]⟩ (uS dd)).run Tryd.prog W = .ok (.string (uS (restL (32 :: 48 :: dd)))) W := add_uS [114, 101, 115, 116, 32, 48] dd (by simp; omega)
  have a2 : ∀ W : World, (Op.stringOp .add ⟨#[114, 101, 115, 116, 32, 45]⟩ (uS dd)).run Tryd.prog W = .ok (.string (uS (restL (32 :: 45 :: dd)))) W := add_uS [114, 101, 115, 116, 32, 45] dd (by simp; omega)
  have a3 : ∀ W : World, (Op.stringOp .add ⟨#[114, 101, 115, 116, 32, 43]⟩ (uS dd)).run Tryd.prog W = .ok (.string (uS (restL (32 :: 43 :: dd)))) W := add_uS [114, 101, 115, 116, 32, 43] dd (by simp; omega)
  have a4 : ∀ W : World, (Op.stringOp .add ⟨#[114, 101, 115, 116, 32, 32]⟩ (uS dd)).run Tryd.prog W = .ok (.string (uS (restL (32 :: 32 :: dd)))) W := add_uS [114, 101, 115, 116, 32, 32] dd (by simp; omega)
  have a5 : ∀ W : World, (Op.stringOp .add (uS (restL (32 :: dd))) ⟨#[46]⟩).run Tryd.prog W = .ok (.string (uS (restL (32 :: (dd ++ [46]))))) W := by
    have := add_uS (restL (32 :: dd)) [46] (by simp [restL]; omega)
    exact this
  clear he hx HRN hdd
  go_enter Tryd.func4, Tryd.ntmps4
  go_wp2_with (first
    | (go_at_call 8; refine (HDG.out _).mono ?_; rintro e w4 ⟨rfl, rfl⟩)
    | (go_at_call 9; refine Hid.out ?_))
  refine Lib.hid ?_
  refine (HNP.out w (Below.refl _ _)).mono ?_
  rintro e w1 ⟨hb1, (⟨h, -⟩ | ⟨st, v, h, rfl, av, rfl, -, -⟩)⟩
  · rw [HSN.out] at h; cases h
  rw [HSN.out] at h
  obtain rfl := Option.some.inj h
  have ev : cmdV { stR with n := N, cnt := 1 } (.slice av ({ stR with n := N, cnt := 1 } : PCmd).text.length ({ stR with n := N, cnt := 1 } : PCmd).text.length) = .agg #[.int .i64 10, .slice av 0 0, .int .i64 (N : Int), .int .i64 0, .int .i64 0, .int .i64 0, .slice none 0 0, .slice none 0 0] := rfl
  rw [ev]
  clear ev h HSN HNP
  have hb2 : Below w.heap.size w (w1.alloc (.cells #[.int .i64 10, .slice av 0 0, .int .i64 (N : Int), .int .i64 0, .int .i64 0, .int .i64 0, .slice none 0 0, .slice none 0 0] 31)) := hb1.alloc hb1.size _
  have HB2 := Lib.hid hb2
  clear hb1 hb2
  go_wp2_with fail
  have hs2 : (w1.alloc (.cells #[.int .i64 10, .slice av 0 0, .int .i64 (N : Int), .int .i64 0, .int .i64 0, .int .i64 0, .slice none 0 0, .slice none 0 0] 31)).heap.size = w1.heap.size + 1 := World.size_alloc _ _
  generalize (w1.alloc (.cells #[.int .i64 10, .slice av 0 0, .int .i64 (N : Int), .int .i64 0, .int .i64 0, .int .i64 0, .slice none 0 0, .slice none 0 0] 31)) = w2 at *
  have HR3 : Hid (Row (w2.alloc (.cells #[.string (uS (restL (32 :: 48 :: dd))), .string (uS (restL (32 :: 45 :: dd))), .string (uS (restL (32 :: 43 :: dd))), .string ⟨#[114, 101, 115, 116, 32, 49, 48, 48, 48, 48, 48, 48, 48, 48, 48]⟩, .string ⟨#[114, 101, 115, 116]⟩, .string ⟨#[114, 101, 115, 116, 32]⟩, .string (uS (restL (32 :: 32 :: dd))), .string (uS (restL (32 :: (dd ++ [46]))))] 9)) (some ⟨w1.heap.size + 1, 0, none⟩) 8 (fun k => .string (uS ((refL dd).getD k [])))) := by
    refine ⟨.inr rfl, fun k hk => ?_⟩
    have hh := World.alloc_heap_new w2 (.cells #[.string (uS (restL (32 :: 48 :: dd))), .string (uS (restL (32 :: 45 :: dd))), .string (uS (restL (32 :: 43 :: dd))), .string ⟨#[114, 101, 115, 116, 32, 49, 48, 48, 48, 48, 48, 48, 48, 48, 48]⟩, .string ⟨#[114, 101, 115, 116]⟩, .string ⟨#[114, 101, 115, 116, 32]⟩, .string (uS (restL (32 :: 32 :: dd))), .string (uS (restL (32 :: (dd ++ [46]))))] 9)
    rw [hs2] at hh
    show (w2.alloc _).cell? ⟨w1.heap.size + 1, 0 + k, none⟩ = _
    rw [Nat.zero_add, cell_of_row _ _ k _ _ _ hh]
    match k, hk with
    | 0, _ => rfl
    | 1, _ => rfl
    | 2, _ => rfl
    | 3, _ => rfl
    | 4, _ => rfl
    | 5, _ => rfl
    | 6, _ => rfl
    | 7, _ => rfl
  have HB3 : Hid (Below w.heap.size w (w2.alloc (.cells #[.string (uS (restL (32 :: 48 :: dd))), .string (uS (restL (32 :: 45 :: dd))), .string (uS (restL (32 :: 43 :: dd))), .string ⟨#[114, 101, 115, 116, 32, 49, 48, 48, 48, 48, 48, 48, 48, 48, 48]⟩, .string ⟨#[114, 101, 115, 116]⟩, .string ⟨#[114, 101, 115, 116, 32]⟩, .string (uS (restL (32 :: 32 :: dd))), .string (uS (restL (32 :: (dd ++ [46]))))] 9))) := HB2.out.alloc HB2.out.size _
  generalize (w2.alloc (.cells #[.string (uS (restL (32 :: 48 :: dd))), .string (uS (restL (32 :: 45 :: dd))), .string (uS (restL (32 :: 43 :: dd))), .string ⟨#[114, 101, 115, 116, 32, 49, 48, 48, 48, 48, 48, 48, 48, 48, 48]⟩, .string ⟨#[114, 101, 115, 116]⟩, .string ⟨#[114, 101, 115, 116, 32]⟩, .string (uS (restL (32 :: 32 :: dd))), .string (uS (restL (32 :: (dd ++ [46]))))] 9)) = w3 at *
  have hix : ∀ (W : World) (k : Nat), k < 8 → (Instr.indexAt 24 (.slice (some ⟨w1.heap.size + 1, 0, none⟩) 8 8) (.int .i64 (k : Int))).run Tryd.prog W = .ok (.pointer (some ⟨w1.heap.size + 1, k, none⟩)) W := fun W k hk => by
    have := run_ix (P := Tryd.prog) 24 (by kernel_rfl) size_strc (some ⟨w1.heap.size + 1, 0, none⟩) 8 8 (.inr rfl) .i64 W k hk
    simpa [bOf, oOf] using this
  go_loopw [51] (fun i wr => ∃ k : Nat, k ≤ 8 ∧ i = .int .i64 (k : Int) ∧ Row wr (some ⟨w1.heap.size + 1, 0, none⟩) 8 (fun k => .string (uS ((refL dd).getD k []))) ∧ Below w.heap.size w wr) (fun i _ => 8 - (intOf i).toNat)
  case atStart => exact ⟨0, by omega, rfl, HR3.out, HB3.out⟩
  case round =>
    obtain ⟨k, hk, rfl, hrow, hbw⟩ := hrel
    have HRW := Lib.hid hrow
    have HBW := Lib.hid hbw
    clear hrow hbw a0 a1 a2 a3 a4 a5
    by_cases hlt : k < 8
    · have d1 : wr.cell? ⟨w1.heap.size + 1, k, none⟩ = some (.string (uS ((refL dd).getD k []))) := by have := HRW.out.cell k hlt; simpa [bOf, oOf] using this
      have hki : (k : Int) < 8 := by omega
      have hmem : (refL dd).getD k [] ∈ refL dd := by
        rw [List.getD_eq_getElem?_getD, List.getElem?_eq_getElem (show k < (refL dd).length from hlt)]
        exact List.getElem_mem _
      have HPR := Lib.hid (HRF.out wr HBW.out _ hmem)
      unfold zeroC at HPR
      generalize (refL dd).getD k [] = lk at *
      have hxk := fun W => hix W k hlt
      clear hmem hix
      go_wp2_with (go_at_call 9; refine HPR.out.mono ?_; rintro e w5 ⟨rfl, hb5⟩; have HB5 := Lib.hid hb5; clear hb5)
      go_roundw
      case rel => exact ⟨k + 1, by omega, by go_num, (HRW.out.kept HB5.out).kept ((Below.refl _ _).alloc (Nat.le_refl _) _), (below_next HBW.out HB5.out HBW.out.size).alloc (below_next HBW.out HB5.out HBW.out.size).size _⟩
      case measure => simp [intOf]; omega
    · obtain rfl : k = 8 := by omega
      have w1' : IntKind.i64.wrap (-(N : Int)) = -(N : Int) := IntWalk.i64_in _ (by omega)
      have w2' : IntKind.i64.wrap (-(N : Int) - 1) = -(N : Int) - 1 := IntWalk.i64_in _ (by omega)
      have w3' : IntKind.i64.wrap (1000000000 + (N : Int)) = 1000000000 + (N : Int) := IntWalk.i64_in _ (by omega)
      unfold cmdI at HTN HTG
      go_wp2_with (go_at_call 10; refine Hid.out ?_)
      refine Lib.hid ?_
      refine (HTN.out wr HBW.out).mono ?_
      rintro e w5 ⟨rfl, hb5⟩
      have HB5 := Lib.hid (below_next HBW.out hb5 HBW.out.size)
      clear hb5
      go_wp2_with (go_at_call 10; refine Hid.out ?_)
      refine Lib.hid ?_
      refine (HTG.out w5 HB5.out).mono ?_
      rintro e w6 ⟨rfl, hb6⟩
      have HB6 := Lib.hid (below_next HB5.out hb6 HB5.out.size)
      clear hb6
      go_wp2_with (go_at_call 6; refine (HAW.out w6 HB6.out).mono ?_; rintro e w7 ⟨rfl, hb7⟩; have HB7 := Lib.hid hb7; clear hb7)
      go_ret
      exact ⟨rfl, below_next HB6.out HB7.out HB6.out.size⟩
end Go.Proofs.YtdcobmoeligdkaaDoor
