/-
  query.plain, query.Unquote: at any string.
-/
import Derived.Test.YtdcobmoeligdkaaGreatDoorCmNum
import Derived.Deep.AppendLies
namespace Go.Proofs.YtdcobmoeligdkaaGreatDoor
open Go.RowKit Go.Shelf

theorem hexI_lt (c : UInt8) : -1 ≤ hexI c ∧ hexI c ≤ 15 := by
  have h1 := Lib.indexByte_ge hexL c
  refine ⟨h1, ?_⟩
  rcases Int.lt_or_le (hexI c) 0 with h | h
  · omega
  · obtain ⟨o, ho⟩ : ∃ o : Nat, hexI c = (o : Int) := ⟨(hexI c).toNat, by omega⟩
    have h2 := (Lib.indexByte_some (l := hexL) (c := c) (o := o) ho).1
    have h3 := (List.getElem?_eq_some_iff.1 h2).1
    have h4 : hexL.length = 16 := rfl
    omega
theorem hex_or : ∀ X : Fin 16, ∀ Y : Fin 16, bits .or .i64 ((X.1 : Int) * 16) (Y.1 : Int) = ((16 * X.1 + Y.1 : Nat) : Int) := by decide +kernel
theorem ixS (s : List UInt8) (i : Nat) (c : UInt8) (h : s[i]? = some c) (j : Int) (hj : j = (i : Int)) : ∀ W : World, (Instr.index 9 (.string (uS s)) (.int .i64 j)).run Tryz.prog W = .ok (.int .u8 (c.toNat : Int)) W := by
  intro W
  subst hj
  obtain ⟨hi, he⟩ := List.getElem?_eq_some_iff.1 h
  obtain ⟨h1, h2⟩ := uS_at s i hi
  have hsz := uS_size s
  rw [run_index_string (P := Tryz.prog) W 9 (uS s) .i64 (i : Int) (by kernel_rfl), dif_pos (by omega)]
  congr 2
  rw [← he, ← h2]; rfl
set_option maxRecDepth 100000 in
theorem plain_any (c : UInt8) (w : World) : Calls Tryz.prog 26 #[.int .u8 (c.toNat : Int)] w fun e w' => e = .returned (.bool (plainB c)) ∧ w = w' := by
  have hc := c.toNat_lt
  have HP : Hid (∀ b : Bool, b = plainB c → Ending.returned (.bool b) = .returned (.bool (plainB c))) := fun b h => by rw [h]
  unfold plainB at HP ⊢
  generalize c.toNat = n at *
  by_cases h1 : (32 : Int) ≤ (n : Int)
  · by_cases h2 : (n : Int) ≤ 126
    · by_cases h3 : (n : Int) = 34
      · obtain rfl : n = 34 := by omega
        go_enter Tryz.func26, Tryz.ntmps26
        go_wp2
        go_ret
        exact ⟨rfl, rfl⟩
      · have h3b : ((n : Int) == 34) = false := by rw [beq_eq_false_iff_ne]; exact h3
        by_cases h4 : (n : Int) = 92
        · obtain rfl : n = 92 := by omega
          go_enter Tryz.func26, Tryz.ntmps26
          go_wp2
          go_ret
          exact ⟨rfl, rfl⟩
        · have h4b : ((n : Int) == 92) = false := by rw [beq_eq_false_iff_ne]; exact h4
          go_enter Tryz.func26, Tryz.ntmps26
          go_wp2
          go_ret
          refine ⟨HP.out _ ?_, rfl⟩
          have g1 : decide (32 ≤ n) = true := by simp; omega
          have g2 : decide (n ≤ 126) = true := by simp; omega
          have g3 : decide (n = 34) = false := by simp; omega
          have g4 : decide (n = 92) = false := by simp; omega
          rw [g1, g2, g3, g4]; simp; exact ⟨h3, h4⟩
    · go_enter Tryz.func26, Tryz.ntmps26
      go_wp2
      go_ret
      exact ⟨HP.out _ (by simp; omega), rfl⟩
  · go_enter Tryz.func26, Tryz.ntmps26
    go_wp2
    go_ret
    exact ⟨HP.out _ (by simp; omega), rfl⟩
theorem idx_any (c : UInt8) (w : World) : Calls Tryz.prog 45 #[.string ⟨#[48, 49, 50, 51, 52, 53, 54, 55, 56, 57, 97, 98, 99, 100, 101, 102]⟩, .int .u8 (c.toNat : Int)] w fun e w' => e = .returned (.int .i64 (hexI c)) ∧ w' = w := by
  refine (Tryz.strings_IndexByte _ _ w).mono ?_
  rintro e w' ⟨rfl, hw⟩
  refine ⟨?_, hw⟩
  have h : ((c.toNat : Int)).toNat.toUInt8 = c := by simp
  rw [h]; rfl
theorem clipC_any (w : World) (a : Option Addr) (n cap : Nat) (hn : n ≤ cap) (h0 : a = none → cap = 0) :
    Calls Tryz.prog 60 #[.slice a n cap] w fun e w' => e = .returned (.slice a n n) ∧ w = w' := by
  cases a with
  | none =>
    obtain rfl : cap = 0 := h0 rfl
    obtain rfl : n = 0 := by omega
    go_enter Tryz.func60, Tryz.ntmps60
    go_wp2
    go_ret
    exact ⟨rfl, rfl⟩
  | some ad =>
    clear h0
    go_enter Tryz.func60, Tryz.ntmps60
    go_wp2
    go_ret
    exact ⟨rfl, rfl⟩
theorem owns_clipC {w : World} {base : Nat} {e : TypeId} {v : Value} {n : Nat} {xs : List Value} (h : w.ownsRow base e 1 v n xs) :
    ∃ a cap, v = .slice a n cap ∧ n ≤ cap ∧ (a = none → cap = 0) ∧ Row w a n (fun k => xs.getD k undef) ∧ (n = 0 ∨ base ≤ bOf a) := by
  obtain ⟨a, cap, rfl, h1, h2, h3, _⟩ := Row.of_owns h
  refine ⟨a, cap, rfl, h1, fun e => ?_, h2, h3⟩
  rcases h.2 with ⟨e2, _⟩ | ⟨g, c, cur, e2, _⟩
  · injection e2
  · rw [e] at e2; cases e2
/-- bytes in a row -/
def bV (l : List UInt8) (k : Nat) : Value := .int .u8 ((l.getD k 0).toNat : Int)
theorem bV_cells (l : List UInt8) (k : Nat) (hk : k < l.length) : (Lib.byteCells l).getD k undef = bV l k := by
  unfold Lib.byteCells bV
  simp [List.getD_eq_getElem?_getD, hk]
def UnqPost (w : World) (s : List UInt8) (e : Ending) (w' : World) : Prop :=
  Below w.heap.size w w' ∧ ((unq s = none ∧ e = .returned (.tuple #[.slice none 0 0, .int .i64 0, .bool false])) ∨
    ∃ b n a, unq s = some (b, n) ∧ e = .returned (.tuple #[.slice a b.length b.length, .int .i64 (n : Int), .bool true]) ∧ Row w' a b.length (bV b) ∧ (b.length = 0 ∨ w.heap.size ≤ bOf a))
theorem info_u8c : (Tryz.prog.info? 5).map (fun i => (i.zero, i.size, i.bytes)) = some (some (.int .u8 0), 1, 1) := by kernel_rfl
set_option maxRecDepth 100000 in
set_option maxHeartbeats 2000000 in
theorem unquote_any (w : World) (s : List UInt8) (hs : s.length ≤ 100000) : Calls Tryz.prog 44 #[.string (uS s)] w (UnqPost w s) := by
  have hsz := uS_size s
  cases s with
  | nil =>
    have HE : Hid (UnqPost w [] (.returned (.tuple #[.slice none 0 0, .int .i64 0, .bool false])) w) := ⟨Below.refl _ _, .inl ⟨rfl, rfl⟩⟩
    have e0 : uS [] = ⟨#[]⟩ := rfl
    rw [e0]
    go_enter Tryz.func44, Tryz.ntmps44
    go_wp2
    go_ret3
    exact HE.out
  | cons q r =>
    have heq : ((uS (q :: r)).toList == ([] : List UInt8)) = false := by rw [uS_toList]; rfl
    have hx0 := ixS (q :: r) 0 q rfl 0 rfl
    by_cases hq : q.toNat = 34
    · have HU : Hid (unq (q :: r) = (unqR r).map fun p => (p.1, p.2 + 1)) := if_pos hq
      have HR : Hid ((q :: r).drop 1 = r) := rfl
      have hl1 : 1 ≤ (q :: r).length := by simp
      generalize hss : q :: r = s at *
      have hq1 : (q.toNat : Int) = 34 := by omega
      rw [hq1] at hx0
      have HCP := Lib.hid (clipC_any)
      obtain ⟨i8, hi8, hx80, hx81, hx82⟩ := info_parts info_u8c
      clear hss hq hq1
      go_enter Tryz.func44, Tryz.ntmps44
      go_wp2_with fail
      go_loopw [2, 5] (fun v2 v5 wr => ∃ (i : Nat) (b : List UInt8), 1 ≤ i ∧ i ≤ s.length ∧ b.length ≤ i ∧ v5 = .int .i64 ((i : Nat) : Int) ∧ wr.ownsRow w.heap.size 5 1 v2 b.length (Lib.byteCells b) ∧ Below w.heap.size w wr ∧ Hid (unq s = (unqR (s.drop i)).map fun p => (b ++ p.1, i + p.2))) (fun _ v5 _ => s.length - (intOf v5).toNat)
      case atStart => exact ⟨1, [], by omega, hl1, by simp, rfl, World.ownsRow_nil _ _ _ _, Below.refl _ _, by
        show _ = _
        rw [HR.out, HU.out]
        congr 1; funext p; rw [List.nil_append, Nat.add_comm]⟩
      case round =>
        obtain ⟨i, b, h1, hi, hb, rfl, ho, hbel, HUi⟩ := hrel
        by_cases hlt : i < s.length
        · obtain ⟨c, hc⟩ : ∃ c, s[i]? = some c := ⟨s[i], List.getElem?_eq_getElem hlt⟩
          have hdr : s.drop i = c :: s.drop (i + 1) := by
            rw [List.drop_eq_getElem_cons hlt]; congr 1
            exact Option.some.inj ((List.getElem?_eq_getElem hlt).symm.trans hc)
          rw [hdr] at HUi
          have hx := ixS s i c hc i rfl
          have hcl := c.toNat_lt
          have HPL := Lib.hid (plain_any c)
          have HUC : Hid (unq s = (if c.toNat = 34 then some ([], 1) else if plainB c = true then (unqR (s.drop (i + 1))).map fun p => (c :: p.1, p.2 + 1) else if c.toNat ≠ 92 then none else unqH (s.drop (i + 1))).map fun p => (b ++ p.1, i + p.2)) := by
            show _ = _
            rw [HUi.out, unqR_cons]
          have HC := Lib.hid hc
          obtain ⟨a2, c2, rfl, hcap, hnn, hrow, hlow⟩ := owns_clipC ho
          have HO := Lib.hid ho
          have HB := Lib.hid hbel
          clear hc hdr HUi ho hbel
          by_cases e34 : c.toNat = 34
          · have hcb : ((c.toNat : Int) == 34) = true := by rw [e34]; rfl
            have HY : Hid (UnqPost w s (.returned (.tuple #[.slice a2 b.length b.length, .int .i64 ((i : Int) + 1), .bool true])) wr) := by
              refine ⟨HB.out, .inr ⟨b, i + 1, a2, ?_, rfl, hrow.congr fun k hk => bV_cells b k hk, hlow⟩⟩
              rw [HUC.out, if_pos e34]; simp
            clear hrow hlow e34
            generalize c.toNat = cn at *
            go_wp2_with (go_at_call 60; refine (HCP.out _ a2 b.length c2 hcap hnn).mono ?_; rintro e w4 ⟨rfl, rfl⟩)
            go_ret3
            exact HY.out
          · have hcb : ((c.toNat : Int) == 34) = false := by rw [beq_eq_false_iff_ne]; omega
            by_cases ep : plainB c = true
            · have hpb : plainB c = true := ep
              clear hrow hlow
              have HN : Hid (unq s = (unqR (s.drop (i + 1))).map fun p => ((b ++ [c]) ++ p.1, (i + 1) + p.2)) := by
                show _ = _
                rw [HUC.out, if_neg e34, if_pos ep, Option.map_map]
                congr 1
                funext p
                simp only [Function.comp, List.append_assoc, List.singleton_append]
                congr 1; omega
              have HPC : Hid (∀ W, Calls Tryz.prog 26 #[.int .u8 (c.toNat : Int)] W fun e w' => e = .returned (.bool true) ∧ W = w') := fun W => by have := HPL.out W; rw [ep] at this; exact this
              have HBC : Hid (Lib.byteCells (b ++ [c]) = Lib.byteCells b ++ [.int .u8 (c.toNat : Int)]) := by show _ = _; unfold Lib.byteCells; simp
              clear ep hpb e34 HPL HUC
              have hs9 := HB.out.size
              generalize c.toNat = cn at *
              go_wp2_with (first
                | (go_at_call 26; refine (HPC.out _).mono ?_; rintro e w4 ⟨rfl, rfl⟩)
                | (at_builtin; refine wpList_append_lies _ rfl _ _ _ rfl w.heap.size 5 i8 _ 1 1 Tryz.underlying22 hi8 hx80 hx81 hx82 rfl (by omega) (.slice a2 b.length c2) b.length _ rfl (HO.out.alloc _) ⟨wr.heap.size, 0, none⟩ 1 1 [.int .u8 (cn : Int)] rfl rfl (cell_one_new _ _ _) (by simp [Value.oneCell']) (by omega) (by simp only [maxLen]; omega) (by omega) (by simp; omega) (wr.heap.size + 1) (by simp) ?_; intro gg cv' wq hown' hgrow hat hlt'; have hlo := HO.out.lt; have HOW' := Lib.hid hown'; have HB' : Hid (Below w.heap.size w wq) := (HB.out.alloc hs9 _).grown hgrow (by simp; omega) (fun g hg => (hlo g hg).1); clear hown' hgrow hat hlo))
              go_roundw
              case rel => exact ⟨i + 1, b ++ [c], by omega, by omega, by simp; omega, by go_num, by rw [List.length_append, HBC.out]; exact HOW'.out, HB'.out, HN.out⟩
              case measure => simp [intOf]; omega
            · clear hrow hlow
              have HPC : Hid (∀ W, Calls Tryz.prog 26 #[.int .u8 (c.toNat : Int)] W fun e w' => e = .returned (.bool false) ∧ W = w') := fun W => by have := HPL.out W; rw [Bool.eq_false_iff.2 ep] at this; exact this
              by_cases e92 : c.toNat = 92
              · have HU3 : Hid (unq s = (unqH (s.drop (i + 1))).map fun p => (b ++ p.1, i + p.2)) := by
                  show _ = _
                  rw [HUC.out, if_neg e34, if_neg ep, if_neg (by omega)]
                have hc92p : (c.toNat : Int) = 92 := by omega
                have HPQ := HPC.out
                rw [hc92p] at hx hcb HPQ
                have HPC := Lib.hid HPQ
                clear HPQ hc92p hcl
                by_cases h2 : i + 2 < s.length
                · have h2' : ¬ ((s.length : Nat) : Int) ≤ (i : Int) + 2 := by omega
                  have h2d : decide (((s.length : Nat) : Int) ≤ (i : Int) + 2) = false := by simp; omega
                  obtain ⟨x, hx'⟩ : ∃ x, s[i + 1]? = some x := ⟨s[i + 1], List.getElem?_eq_getElem (by omega)⟩
                  obtain ⟨y, hy'⟩ : ∃ y, s[i + 2]? = some y := ⟨s[i + 2], List.getElem?_eq_getElem h2⟩
                  have hd : s.drop (i + 1) = x :: y :: s.drop (i + 3) := by
                    rw [List.drop_eq_getElem_cons (by omega : i + 1 < s.length), List.drop_eq_getElem_cons h2]
                    rw [List.getElem?_eq_getElem (by omega)] at hx'
                    rw [List.getElem?_eq_getElem h2] at hy'
                    rw [Option.some.inj hx', Option.some.inj hy']
                  have hix1 := ixS s (i + 1) x hx' ((i : Int) + 1) (by omega)
                  have hix2 := ixS s (i + 2) y hy' ((i : Int) + 2) (by omega)
                  have HIX := Lib.hid (idx_any x)
                  have HIY := Lib.hid (idx_any y)
                  have HU4 : Hid (unq s = (if hexI x < 0 ∨ hexI y < 0 ∨ plainB (hexB x y) = true then none else (unqR (s.drop (i + 3))).map fun p => (hexB x y :: p.1, p.2 + 3)).map fun p => (b ++ p.1, i + p.2)) := by
                    show _ = _
                    rw [HU3.out, hd]; rfl
                  have hxl := x.toNat_lt
                  have hyl := y.toNat_lt
                  clear hd hx' hy' HU3 HUC HPL ep e34 e92
                  have hX := hexI_lt x
                  have hY := hexI_lt y
                  by_cases x0 : hexI x < 0
                  · have HY : Hid (∀ k, UnqPost w s (.returned (.tuple #[.slice none 0 0, .int .i64 0, .bool false])) (wr.drewN k)) := fun k => by
                      refine ⟨below_drewN HB.out k, .inl ⟨?_, rfl⟩⟩
                      rw [HU4.out, if_pos (.inl x0)]; rfl
                    clear HU4
                    generalize hexI x = X at *
                    generalize hexI y = Y at *
                    generalize x.toNat = xn at *
                    generalize y.toNat = yn at *
                    go_wp2_with (go_at_call 26; refine (HPC.out _).mono ?_; rintro e w4 ⟨rfl, rfl⟩)
                    go_quiet (first | (go_at_call 45; with_reducible exact Calls.quiet_of_same (HIX.out _)) | (go_at_call 45; with_reducible exact Calls.quiet_of_same (HIY.out _)))
                    go_wp2
                    go_ret3
                    exact HY.out _
                  · by_cases y0 : hexI y < 0
                    · have HY : Hid (∀ k, UnqPost w s (.returned (.tuple #[.slice none 0 0, .int .i64 0, .bool false])) (wr.drewN k)) := fun k => by
                        refine ⟨below_drewN HB.out k, .inl ⟨?_, rfl⟩⟩
                        rw [HU4.out, if_pos (.inr (.inl y0))]; rfl
                      clear HU4
                      generalize hexI x = X at *
                      generalize hexI y = Y at *
                      generalize x.toNat = xn at *
                      generalize y.toNat = yn at *
                      go_wp2_with (go_at_call 26; refine (HPC.out _).mono ?_; rintro e w4 ⟨rfl, rfl⟩)
                      go_quiet (first | (go_at_call 45; with_reducible exact Calls.quiet_of_same (HIX.out _)) | (go_at_call 45; with_reducible exact Calls.quiet_of_same (HIY.out _)))
                      go_wp2
                      go_ret3
                      exact HY.out _
                    · have HPZ := Lib.hid (plain_any (hexB x y))
                      obtain ⟨X, hXe⟩ : ∃ X : Nat, hexI x = (X : Int) := ⟨(hexI x).toNat, by omega⟩
                      obtain ⟨Y, hYe⟩ : ∃ Y : Nat, hexI y = (Y : Int) := ⟨(hexI y).toNat, by omega⟩
                      have hhb : hexB x y = UInt8.ofNat (16 * X + Y) := by unfold hexB; rw [hXe, hYe]; rfl
                      rw [hXe] at HIX
                      rw [hYe] at HIY
                      have hX15 : X ≤ 15 := by omega
                      have hY15 : Y ≤ 15 := by omega
                      have HU5 : Hid (unq s = (if plainB (hexB x y) = true then none else (unqR (s.drop (i + 3))).map fun p => (hexB x y :: p.1, p.2 + 3)).map fun p => (b ++ p.1, i + p.2)) := by
                        show _ = _
                        rw [HU4.out]
                        congr 1
                        by_cases e : plainB (hexB x y) = true
                        · rw [if_pos (.inr (.inr e)), if_pos e]
                        · rw [if_neg (by rintro (h | h | h); exact x0 h; exact y0 h; exact e h), if_neg e]
                      have hbn : (hexB x y).toNat = 16 * X + Y := by rw [hhb, UInt8.toNat_ofNat']; exact Nat.mod_eq_of_lt (by omega)
                      have hor : bits .or .i64 ((X : Int) * 16) (Y : Int) = ((16 * X + Y : Nat) : Int) := hex_or ⟨X, by omega⟩ ⟨Y, by omega⟩
                      rw [← hbn] at hor
                      have hz256 := (hexB x y).toNat_lt
                      have hmod : (((hexB x y).toNat : Nat) : Int) % 256 = (((hexB x y).toNat : Nat) : Int) := by omega
                      clear HU4 hX hY x0 y0 hXe hYe hhb hbn
                      generalize hexB x y = z at *
                      generalize x.toNat = xn at *
                      generalize y.toNat = yn at *
                      have HPZ2 : Hid (∀ W, Calls Tryz.prog 26 #[.int .u8 (z.toNat : Int)] W fun e w' => e = .returned (.bool (plainB z)) ∧ W = w') := HPZ.out
                      have HBC : Hid (Lib.byteCells (b ++ [z]) = Lib.byteCells b ++ [.int .u8 (z.toNat : Int)]) := by show _ = _; unfold Lib.byteCells; simp
                      clear HPZ
                      by_cases ez : plainB z = true
                      · rw [ez] at HPZ2
                        have HY : Hid (∀ k, UnqPost w s (.returned (.tuple #[.slice none 0 0, .int .i64 0, .bool false])) (wr.drewN k)) := fun k => by
                          refine ⟨below_drewN HB.out k, .inl ⟨?_, rfl⟩⟩
                          rw [HU5.out, if_pos ez]; rfl
                        clear HU5 ez HBC
                        generalize z.toNat = zn at *
                        go_wp2_with (go_at_call 26; refine (HPC.out _).mono ?_; rintro e w4 ⟨rfl, rfl⟩)
                        go_quiet (first | (go_at_call 45; with_reducible exact Calls.quiet_of_same (HIX.out _)) | (go_at_call 45; with_reducible exact Calls.quiet_of_same (HIY.out _)))
                        go_wp2_with (go_at_call 26; refine (HPZ2.out _).mono ?_; rintro e w4 ⟨rfl, rfl⟩)
                        go_ret3
                        exact HY.out _
                      · rw [Bool.eq_false_iff.2 ez] at HPZ2
                        have HN : Hid (unq s = (unqR (s.drop (i + 3))).map fun p => ((b ++ [z]) ++ p.1, (i + 3) + p.2)) := by
                          show _ = _
                          rw [HU5.out, if_neg ez, Option.map_map]
                          congr 1
                          funext p
                          simp only [Function.comp, List.append_assoc, List.singleton_append]
                          congr 1; omega
                        clear HU5 ez
                        have hs9 := HB.out.size
                        generalize z.toNat = zn at *
                        go_wp2_with (go_at_call 26; refine (HPC.out _).mono ?_; rintro e w4 ⟨rfl, rfl⟩)
                        go_quiet (first | (go_at_call 45; with_reducible exact Calls.quiet_of_same (HIX.out _)) | (go_at_call 45; with_reducible exact Calls.quiet_of_same (HIY.out _)))
                        obtain ⟨w5, hw5⟩ : ∃ w5, wr.drewN nq = w5 := ⟨_, rfl⟩
                        have HO5 : Hid (w5.ownsRow w.heap.size 5 1 (.slice a2 b.length c2) b.length (Lib.byteCells b)) := by rw [← hw5]; exact HO.out
                        have HB5 : Hid (Below w.heap.size w w5) := by rw [← hw5]; exact below_drewN HB.out _
                        have hs5 : w.heap.size ≤ w5.heap.size := HB5.out.size
                        rw [hw5]
                        clear hw5
                        go_wp2_with (first
                          | (go_at_call 26; refine (HPZ2.out _).mono ?_; rintro e w4 ⟨rfl, rfl⟩)
                          | (at_builtin; refine wpList_append_lies _ rfl _ _ _ rfl w.heap.size 5 i8 _ 1 1 Tryz.underlying22 hi8 hx80 hx81 hx82 rfl (by omega) (.slice a2 b.length c2) b.length _ rfl (HO5.out.alloc _) ⟨w5.heap.size, 0, none⟩ 1 1 [.int .u8 (zn : Int)] rfl rfl (cell_one_new _ _ _) (by simp [Value.oneCell']) (by omega) (by simp only [maxLen]; omega) (by omega) (by simp; omega) (w5.heap.size + 1) (by simp) ?_; intro gg cv' wq hown' hgrow hat hlt'; have hlo := HO5.out.lt; have HOW' := Lib.hid hown'; have HB' : Hid (Below w.heap.size w wq) := (HB5.out.alloc hs5 _).grown hgrow (by simp; omega) (fun g hg => (hlo g hg).1); clear hown' hgrow hat hlo))
                        go_roundw
                        case rel => exact ⟨i + 3, b ++ [z], by omega, by omega, by simp; omega, by go_num, by rw [List.length_append, HBC.out]; exact HOW'.out, HB'.out, HN.out⟩
                        case measure => simp [intOf]; omega
                · have h2' : ((s.length : Nat) : Int) ≤ (i : Int) + 2 := by omega
                  have HY : Hid (UnqPost w s (.returned (.tuple #[.slice none 0 0, .int .i64 0, .bool false])) wr) := by
                    refine ⟨HB.out, .inl ⟨?_, rfl⟩⟩
                    rw [HU3.out]
                    rcases hd : s.drop (i + 1) with _ | ⟨x, _ | ⟨y, t⟩⟩
                    · rfl
                    · rfl
                    · have := congrArg List.length hd; rw [List.length_drop] at this; simp at this; omega
                  clear e34 ep e92 HPL HUC HU3
                  go_wp2_with (go_at_call 26; refine (HPC.out _).mono ?_; rintro e w4 ⟨rfl, rfl⟩)
                  go_ret3
                  exact HY.out
              · have hc92 : ((c.toNat : Int) == 92) = false := by rw [beq_eq_false_iff_ne]; omega
                have hc92n : ((c.toNat : Int) != 92) = true := by rw [bne_iff_ne]; omega
                have hc92p : ¬ (c.toNat : Int) = 92 := by omega
                have HY : Hid (UnqPost w s (.returned (.tuple #[.slice none 0 0, .int .i64 0, .bool false])) wr) := by
                  refine ⟨HB.out, .inl ⟨?_, rfl⟩⟩
                  rw [HUC.out, if_neg e34, if_neg ep, if_pos e92]; rfl
                clear e34 ep e92 HPL HUC
                generalize c.toNat = cn at *
                go_wp2_with (go_at_call 26; refine (HPC.out _).mono ?_; rintro e w4 ⟨rfl, rfl⟩)
                go_ret3
                exact HY.out
        · obtain rfl : i = s.length := by omega
          have hd : decide ((s.length : Int) < (s.length : Int)) = false := by simp
          have HY : Hid (UnqPost w s (.returned (.tuple #[.slice none 0 0, .int .i64 0, .bool false])) wr) := by
            refine ⟨hbel, .inl ⟨?_, rfl⟩⟩
            have := HUi.out
            rw [List.drop_length, unqR_nil] at this
            exact this
          clear HUi ho hbel
          go_wp2
          go_ret3
          exact HY.out
    · have hqb : ((q.toNat : Int) == 34) = false := by rw [beq_eq_false_iff_ne]; omega
      have HE : Hid (UnqPost w (q :: r) (.returned (.tuple #[.slice none 0 0, .int .i64 0, .bool false])) w) := ⟨Below.refl _ _, .inl ⟨if_neg hq, rfl⟩⟩
      generalize q.toNat = qn at *
      generalize q :: r = s at *
      go_enter Tryz.func44, Tryz.ntmps44
      go_wp2
      go_ret3
      exact HE.out
end Go.Proofs.YtdcobmoeligdkaaGreatDoor
