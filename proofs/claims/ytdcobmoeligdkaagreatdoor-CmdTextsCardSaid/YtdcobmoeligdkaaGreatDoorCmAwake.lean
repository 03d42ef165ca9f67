/-
  concordancelaw27.awake.
-/
import Derived.Test.YtdcobmoeligdkaaGreatDoorCmText
namespace Go.Proofs.YtdcobmoeligdkaaGreatDoor
open Go.RowKit Go.Shelf

theorem convU (W : World) (a : Option Addr) (l : List UInt8) (cap : Nat) (h : Row W a l.length (bV l)) (hn : 0 < l.length) : (convert 22 9 (.slice a l.length cap)).run Tryz.prog W = .ok (.string (uS l)) W := by
  obtain ha := h.at_.resolve_left (by omega)
  rw [ha]
  refine run_convert_bytes_back W _ _ 5 ⟨bOf a, oOf a, none⟩ cap l Tryz.underlying22 Tryz.underlying5 Tryz.underlying9 (fun j hj => ?_)
  have := h.cell j hj
  rw [show (⟨bOf a, oOf a, none⟩ : Addr).add j = ⟨bOf a, oOf a + j, none⟩ from by simp [Addr.add], this]
  simp [bV, List.getD_eq_getElem?_getD, hj]
def locS : List UInt8 := [108, 111, 99, 97, 116, 101, 32, 34, 97, 110, 34, 32, 53]
def locC : PCmd := { kind := 5, text := [97, 110], n := 5, m := 0, k := 0, cnt := 1 }
theorem unq_an (r : List UInt8) : unq (34 :: 97 :: 110 :: 34 :: r) = some ([97, 110], 4) := by
  have h1 : unqR (34 :: r) = some ([], 1) := by rw [unqR_cons]; rfl
  have h2 : unqR (110 :: 34 :: r) = some ([110], 2) := by rw [unqR_cons, h1]; rfl
  have h3 : unqR (97 :: 110 :: 34 :: r) = some ([97, 110], 3) := by rw [unqR_cons, h2]; rfl
  simp only [unq]
  rw [if_pos (by decide), h3]; rfl
theorem num5 : numR [53] = some 5 := by
  have h := numR_dec (n := 5) (by omega)
  rw [dec_small (by omega)] at h
  exact h
theorem loc_parse : parseL locS = some locC := by
  have hw : wordOf locS = [108, 111, 99, 97, 116, 101] := wordOf_blank [108, 111, 99, 97, 116, 101] [34, 97, 110, 34, 32, 53] (by decide)
  unfold parseL
  rw [hw, kind_locate, if_neg (by decide)]
  have hn : needsOf (5 : Int).toNat = [116, 110] := rfl
  have hd : locS.drop ([108, 111, 99, 97, 116, 101] : List UInt8).length = 32 :: [34, 97, 110, 34, 32, 53] := rfl
  rw [hn, hd]
  unfold parseS
  have p1 : pieceLen 116 [34, 97, 110, 34, 32, 53] = 4 := by unfold pieceLen; rw [if_pos (by decide), unq_an]; rfl
  have p2 : pieceLen 110 [53] = 1 := by decide
  have w1 : wordsL [116, 110] (32 :: [34, 97, 110, 34, 32, 53]) = [(116, [34, 97, 110, 34]), (110, [53]), (0, [])] := by
    rw [wordsL, if_pos (by decide), p1]
    show (116, [34, 97, 110, 34]) :: wordsL [110] (32 :: [53]) = _
    rw [wordsL, if_pos (by decide), p2]
    rfl
  rw [w1]
  have q1 : putS { kind := (5 : Int).toNat, text := [], n := 0, m := 0, k := 0, cnt := 0 } (116, [34, 97, 110, 34]) = some { kind := 5, text := [97, 110], n := 0, m := 0, k := 0, cnt := 0 } := by
    unfold putS; rw [if_pos (by decide)]; simp only [unq_an]; rfl
  have q2 : putS { kind := 5, text := [97, 110], n := 0, m := 0, k := 0, cnt := 0 } (110, [53]) = some locC := by
    unfold putS; rw [if_neg (by decide), if_pos (by decide)]; simp only [num5]; rfl
  rw [List.foldlM_cons, q1]
  show List.foldlM putS _ _ = _
  rw [List.foldlM_cons, q2]
  rfl
theorem itoa5 : Lib.itoa 5 = [53] := by
  unfold Lib.itoa
  rw [if_neg (by omega)]
  exact dec_small (by decide)
theorem loc_parseR : parseR locS = some locC := by
  unfold parseR
  rw [if_neg (by decide), loc_parse]
theorem loc_line (qt : List UInt8) : lineL 5 5 0 0 [97, 110] qt = locS := by
  have hn : needsOf 5 = [116, 110] := rfl
  have hq : quoteL [97, 110] = [34, 97, 110, 34] := by decide
  unfold lineL
  rw [hn]
  show Lib.join (_ :: [quoteL [97, 110], Lib.itoa 5]) [32] = _
  rw [hq, itoa5]
  decide
theorem loc_text : TextR 5 5 0 0 [97, 110] q0 := by
  refine ⟨by decide, by decide, by decide, locC, ?_, ?_⟩
  · have h : lineL (5 : Int).toNat 5 0 0 [97, 110] (qtextL q0) = locS := loc_line _
    rw [h, loc_parseR]
  · exact ⟨rfl, rfl, rfl, rfl, rfl, rfl⟩
set_option maxRecDepth 100000 in
set_option maxHeartbeats 2000000 in
theorem awake27_any (w : World) (he : Env w) : Calls Tryz.prog 5 #[] w fun e w' => e = .returned (.bool true) ∧ Below w.heap.size w w' := by
  have hp := parse_full w he locS (by decide)
  have HE := Lib.hid he
  have HP := Lib.hid hp
  have hls : uS locS = ⟨#[108, 111, 99, 97, 116, 101, 32, 34, 97, 110, 34, 32, 53]⟩ := rfl
  rw [hls] at HP
  have hq := uS_eq locS locS
  rw [hls] at hq
  clear hp he
  go_enter Tryz.func5, Tryz.ntmps5
  go_wp2_with (go_at_call 8; refine Hid.out ?_)
  refine Lib.hid ?_
  refine HP.out.mono ?_
  rintro e w1 ⟨hb1, (⟨h, -⟩ | ⟨st, v, u0, u1, u2, h, rfl, ⟨av, rfl, hav, hlow⟩, hqv⟩)⟩
  · rw [loc_parseR] at h; cases h
  rw [loc_parseR] at h
  obtain rfl := Option.some.inj h
  obtain ⟨y1, y2, y3, y4, y5, y6, rfl, rfl, rfl⟩ := hqv.form
  have hqv' : QAt w1 (fun b => w.heap.size ≤ b) q0 (.int .i64 0) (.slice y1 y2 y3) (.slice y4 y5 y6) := hqv
  have e1 : cmdV locC (.slice av locC.text.length locC.text.length) (.int .i64 locC.q.k) (.slice y1 y2 y3) (.slice y4 y5 y6) = .agg #[.int .i64 5, .slice av 2 2, .int .i64 5, .int .i64 0, .int .i64 0, .int .i64 0, .slice y1 y2 y3, .slice y4 y5 y6] := rfl
  have hav2 : Row w1 av [97, 110].length (bV [97, 110]) := hav
  rw [e1]
  clear e1 h hlow hav hqv
  have hb2 : Below w1.heap.size w1 (w1.alloc (.cells #[.int .i64 5, .slice av 2 2, .int .i64 5, .int .i64 0, .int .i64 0, .int .i64 0, .slice y1 y2 y3, .slice y4 y5 y6] 27)) := (Below.refl _ _).alloc (Nat.le_refl _) _
  have hB2 : (w1.alloc (.cells #[.int .i64 5, .slice av 2 2, .int .i64 5, .int .i64 0, .int .i64 0, .int .i64 0, .slice y1 y2 y3, .slice y4 y5 y6] 27)).heap[w1.heap.size]? = some (.cells #[.int .i64 5, .slice av 2 2, .int .i64 5, .int .i64 0, .int .i64 0, .int .i64 0, .slice y1 y2 y3, .slice y4 y5 y6] 27 (0, 0)) := World.alloc_heap_new _ _
  have HB2 := Lib.hid hB2
  have HBW : Hid (Below w.heap.size w (w1.alloc (.cells #[.int .i64 5, .slice av 2 2, .int .i64 5, .int .i64 0, .int .i64 0, .int .i64 0, .slice y1 y2 y3, .slice y4 y5 y6] 27))) := below_next hb1 hb2 hb1.size
  have HT := Lib.hid (text_any (w1.alloc (.cells #[.int .i64 5, .slice av 2 2, .int .i64 5, .int .i64 0, .int .i64 0, .int .i64 0, .slice y1 y2 y3, .slice y4 y5 y6] 27)) (HE.out.kept HBW.out) 5 5 0 0 ⟨by decide, by decide⟩ ⟨by decide, by decide⟩ ⟨by decide, by decide⟩ ⟨by decide, by decide⟩ av 2 [97, 110] (by simp) (hav2.kept hb2) _ q0 _ _ _ (hqv'.kept hb2))
  unfold cmdI at HT
  have HAV := Lib.hid (hav2.kept hb2)
  clear hb1 hb2 hB2 hav2 hqv'
  go_wp2_with (go_at_call 6; refine Hid.out ?_)
  refine Lib.hid ?_
  refine HT.out.mono ?_
  rintro e w3 ⟨hb3, (⟨h, -⟩ | ⟨h, rfl⟩)⟩
  · exact absurd loc_text h
  have hl : lineL (5 : Int).toNat 5 0 0 [97, 110] (qtextL q0) = locS := loc_line _
  rw [hl, hls]
  have hB3 := (hb3.block _ (Array.getElem?_eq_some_iff.1 HB2.out).1).trans HB2.out
  have z0 := cell_of_row _ _ 0 _ _ _ hB3
  have z1 := cell_of_row _ _ 1 _ _ _ hB3
  have z2 := cell_of_row _ _ 2 _ _ _ hB3
  have hcv : (convert 22 9 (.slice av 2 2)).run Tryz.prog w3 = .ok (.string ⟨#[97, 110]⟩) w3 := convU w3 av [97, 110] 2 (HAV.out.kept hb3) (by decide)
  have HB3 : Hid (Below w.heap.size w w3) := below_next HBW.out hb3 HBW.out.size
  clear hb3 hB3 h hl HT
  go_wp2
  go_ret
  exact ⟨rfl, HB3.out⟩
end Go.Proofs.YtdcobmoeligdkaaGreatDoor
