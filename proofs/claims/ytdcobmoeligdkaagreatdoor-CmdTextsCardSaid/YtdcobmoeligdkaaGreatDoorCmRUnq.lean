/-
  concordanceref23.digit, concordanceref23.Unquote: at any string.
-/
import Derived.Test.YtdcobmoeligdkaaGreatDoorCmTokP
namespace Go.Proofs.YtdcobmoeligdkaaGreatDoor
open Go.RowKit Go.Shelf

theorem hexI_cases : ∀ n : Fin 256, hexI (UInt8.ofNat n.1) = if 48 ≤ n.1 ∧ n.1 ≤ 57 then (n.1 : Int) - 48 else if 97 ≤ n.1 ∧ n.1 ≤ 102 then (n.1 : Int) - 97 + 10 else -1 := by decide +kernel
theorem hexI_is (c : UInt8) : hexI c = if 48 ≤ c.toNat ∧ c.toNat ≤ 57 then (c.toNat : Int) - 48 else if 97 ≤ c.toNat ∧ c.toNat ≤ 102 then (c.toNat : Int) - 97 + 10 else -1 := by
  have h := hexI_cases ⟨c.toNat, c.toNat_lt⟩
  simp only [UInt8.ofNat_toNat] at h
  exact h
set_option maxRecDepth 100000 in
theorem digit_any (c : UInt8) (w : World) : Calls Tryz.prog 70 #[.int .u8 (c.toNat : Int)] w fun e w' => e = .returned (.int .i64 (hexI c)) ∧ w' = w := by
  have hc := c.toNat_lt
  have HH := Lib.hid (hexI_is c)
  generalize hexI c = r at *
  generalize c.toNat = n at *
  by_cases h1 : (48 : Int) ≤ (n : Int)
  · by_cases h2 : (n : Int) ≤ 57
    · have HR : Hid (r = (n : Int) - 48) := by show _ = _; rw [HH.out, if_pos (by omega)]
      have hw : IntKind.u8.wrap ((n : Int) - 48) = (n : Int) - 48 := IntWalk.u8_in _ (by omega)
      have hw2 : IntKind.i64.wrap ((n : Int) - 48) = (n : Int) - 48 := IntWalk.i64_in _ (by omega)
      clear HH
      go_enter Tryz.func70, Tryz.ntmps70
      go_wp2
      go_ret
      exact ⟨by rw [HR.out]; rfl, rfl⟩
    · by_cases h3 : (97 : Int) ≤ (n : Int)
      · by_cases h4 : (n : Int) ≤ 102
        · have HR : Hid (r = (n : Int) - 97 + 10) := by show _ = _; rw [HH.out, if_neg (by omega), if_pos (by omega)]
          have hw : IntKind.u8.wrap ((n : Int) - 97) = (n : Int) - 97 := IntWalk.u8_in _ (by omega)
          have hw2 : IntKind.i64.wrap ((n : Int) - 97) = (n : Int) - 97 := IntWalk.i64_in _ (by omega)
          clear HH
          go_enter Tryz.func70, Tryz.ntmps70
          go_wp2
          go_ret
          exact ⟨by rw [HR.out]; rfl, rfl⟩
        · have HR : Hid (r = -1) := by show _ = _; rw [HH.out, if_neg (by omega), if_neg (by omega)]
          clear HH
          go_enter Tryz.func70, Tryz.ntmps70
          go_wp2
          go_ret
          exact ⟨by rw [HR.out]; rfl, rfl⟩
      · have HR : Hid (r = -1) := by show _ = _; rw [HH.out, if_neg (by omega), if_neg (by omega)]
        clear HH
        go_enter Tryz.func70, Tryz.ntmps70
        go_wp2
        go_ret
        exact ⟨by rw [HR.out]; rfl, rfl⟩
  · have h3 : ¬ (97 : Int) ≤ (n : Int) := by omega
    have HR : Hid (r = -1) := by show _ = _; rw [HH.out, if_neg (by omega), if_neg (by omega)]
    clear HH
    go_enter Tryz.func70, Tryz.ntmps70
    go_wp2
    go_ret
    exact ⟨by rw [HR.out]; rfl, rfl⟩
def RUnqPost (w : World) (s : List UInt8) (e : Ending) (w' : World) : Prop :=
  Below w.heap.size w w' ∧ ((unq s = none ∧ e = .returned (.tuple #[.string ⟨#[]⟩, .int .i64 0, .bool false])) ∨
    ∃ b n, unq s = some (b, n) ∧ e = .returned (.tuple #[.string (uS b), .int .i64 (n : Int), .bool true]))
theorem plain_iff (c : UInt8) : plainB c = true ↔ 32 ≤ c.toNat ∧ c.toNat ≤ 126 ∧ c.toNat ≠ 34 ∧ c.toNat ≠ 92 := by
  unfold plainB
  simp only [Bool.and_eq_true, decide_eq_true_eq, Bool.not_eq_true', decide_eq_false_iff_not]
  constructor
  · rintro ⟨⟨⟨a, b⟩, c⟩, d⟩; exact ⟨a, b, c, d⟩
  · rintro ⟨a, b, c, d⟩; exact ⟨⟨⟨a, b⟩, c⟩, d⟩
set_option maxRecDepth 100000 in
set_option maxHeartbeats 4000000 in
theorem runquote_any (w : World) (s : List UInt8) (hs : s.length ≤ 100000) : Calls Tryz.prog 55 #[.string (uS s)] w (RUnqPost w s) := by
  have hsz := uS_size s
  cases s with
  | nil =>
    have HE : Hid (RUnqPost w [] (.returned (.tuple #[.string ⟨#[]⟩, .int .i64 0, .bool false])) w) := ⟨Below.refl _ _, .inl ⟨rfl, rfl⟩⟩
    have e0 : uS [] = ⟨#[]⟩ := rfl
    rw [e0]
    go_enter Tryz.func55, Tryz.ntmps55
    go_wp2
    go_ret3
    exact HE.out
  | cons q r =>
    have heq : ((uS (q :: r)).toList == ([] : List UInt8)) = false := by rw [uS_toList]; rfl
    have hx0 := ixS (q :: r) 0 q rfl 0 rfl
    by_cases hq : q.toNat = 34
    · have HU : Hid (unq (q :: r) = (unqR r).map fun p => (p.1, p.2 + 1)) := if_pos hq
      have HR : Hid ((q :: r).drop 1 = r) := rfl
      have hl1 : 1 ≤ (q :: r).length := by simp
      generalize hss : q :: r = s at *
      have hq1 : (q.toNat : Int) = 34 := by omega
      rw [hq1] at hx0
      obtain ⟨i8, hi8, hx80, hx81, hx82⟩ := info_parts info_u8c
      clear hss hq hq1
      go_enter Tryz.func55, Tryz.ntmps55
      go_wp2
      go_loopw [5, 6] (fun v2 v5 wr => ∃ (i : Nat) (b : List UInt8), 1 ≤ i ∧ i ≤ s.length ∧ b.length ≤ i ∧ v5 = .int .i64 ((i : Nat) : Int) ∧ wr.ownsRow w.heap.size 5 1 v2 b.length (Lib.byteCells b) ∧ Below w.heap.size w wr ∧ Hid (unq s = (unqR (s.drop i)).map fun p => (b ++ p.1, i + p.2))) (fun _ v5 _ => s.length - (intOf v5).toNat)
      case atStart => exact ⟨1, [], by omega, hl1, by simp, rfl, World.ownsRow_nil _ _ _ _, Below.refl _ _, by
        show _ = _
        rw [HR.out, HU.out]
        congr 1; funext p; rw [List.nil_append, Nat.add_comm]⟩
      case round =>
        obtain ⟨i, b, h1, hi, hb, rfl, ho, hbel, HUi⟩ := hrel
        by_cases hlt : i < s.length
        · obtain ⟨c, hc⟩ : ∃ c, s[i]? = some c := ⟨s[i], List.getElem?_eq_getElem hlt⟩
          have hdr : s.drop i = c :: s.drop (i + 1) := by
            rw [List.drop_eq_getElem_cons hlt]; congr 1
            exact Option.some.inj ((List.getElem?_eq_getElem hlt).symm.trans hc)
          rw [hdr] at HUi
          have hx := ixS s i c hc i rfl
          have hcl := c.toNat_lt
          have HUC : Hid (unq s = (if c.toNat = 34 then some ([], 1) else if plainB c = true then (unqR (s.drop (i + 1))).map fun p => (c :: p.1, p.2 + 1) else if c.toNat ≠ 92 then none else unqH (s.drop (i + 1))).map fun p => (b ++ p.1, i + p.2)) := by
            show _ = _
            rw [HUi.out, unqR_cons]
          obtain ⟨a2, c2, rfl, hcap, hnn, hrow, hlow⟩ := owns_clipC ho
          have HO := Lib.hid ho
          have HB := Lib.hid hbel
          have hcv := convA wr a2 b c2 (hrow.congr fun k hk => bV_cells b k hk)
          clear hc hdr HUi ho hbel hrow hlow hnn
          by_cases e34 : c.toNat = 34
          · have hcb : ((c.toNat : Int) == 34) = true := by rw [e34]; rfl
            have HY : Hid (RUnqPost w s (.returned (.tuple #[.string (uS b), .int .i64 ((i : Int) + 1), .bool true])) wr) := by
              refine ⟨HB.out, .inr ⟨b, i + 1, ?_, rfl⟩⟩
              rw [HUC.out, if_pos e34]; simp
            clear e34
            generalize c.toNat = cn at *
            go_wp2
            go_ret3
            exact HY.out
          · have hcb : ((c.toNat : Int) == 34) = false := by rw [beq_eq_false_iff_ne]; omega
            by_cases ep : plainB c = true
            · have hpp := (plain_iff c).1 ep
              have h1' : ¬ (c.toNat : Int) < 32 := by omega
              have h2' : ¬ (126 : Int) < (c.toNat : Int) := by omega
              have h92 : ((c.toNat : Int) == 92) = false := by rw [beq_eq_false_iff_ne]; omega
              have HN : Hid (unq s = (unqR (s.drop (i + 1))).map fun p => ((b ++ [c]) ++ p.1, (i + 1) + p.2)) := by
                show _ = _
                rw [HUC.out, if_neg e34, if_pos ep, Option.map_map]
                congr 1
                funext p
                simp only [Function.comp, List.append_assoc, List.singleton_append]
                congr 1; omega
              have HBC : Hid (Lib.byteCells (b ++ [c]) = Lib.byteCells b ++ [.int .u8 (c.toNat : Int)]) := by show _ = _; unfold Lib.byteCells; simp
              clear ep e34 HUC hcv hpp
              have hs9 := HB.out.size
              generalize c.toNat = cn at *
              go_wp2_with (at_builtin; refine wpList_append_lies _ rfl _ _ _ rfl w.heap.size 5 i8 _ 1 1 Tryz.underlying22 hi8 hx80 hx81 hx82 rfl (by omega) (.slice a2 b.length c2) b.length _ rfl (HO.out.alloc _) ⟨wr.heap.size, 0, none⟩ 1 1 [.int .u8 (cn : Int)] rfl rfl (cell_one_new _ _ _) (by simp [Value.oneCell']) (by omega) (by simp only [maxLen]; omega) (by omega) (by simp; omega) (wr.heap.size + 1) (by simp) ?_; intro gg cv' wq hown' hgrow hat hlt'; have hlo := HO.out.lt; have HOW' := Lib.hid hown'; have HB' : Hid (Below w.heap.size w wq) := (HB.out.alloc hs9 _).grown hgrow (by simp; omega) (fun g hg => (hlo g hg).1); clear hown' hgrow hat hlo)
              go_roundw
              case rel => exact ⟨i + 1, b ++ [c], by omega, by omega, by simp; omega, by go_num, by rw [List.length_append, HBC.out]; exact HOW'.out, HB'.out, HN.out⟩
              case measure => simp [intOf]; omega
            · by_cases e92 : c.toNat = 92
              · have HU3 : Hid (unq s = (unqH (s.drop (i + 1))).map fun p => (b ++ p.1, i + p.2)) := by
                  show _ = _
                  rw [HUC.out, if_neg e34, if_neg ep, if_neg (by omega)]
                have hc92p : (c.toNat : Int) = 92 := by omega
                rw [hc92p] at hx hcb
                clear hc92p hcl hcv
                by_cases h2 : i + 2 < s.length
                · have h2' : ¬ ((s.length : Nat) : Int) ≤ (i : Int) + 2 := by omega
                  have h2d : decide (((s.length : Nat) : Int) ≤ (i : Int) + 2) = false := by simp; omega
                  obtain ⟨x, hx'⟩ : ∃ x, s[i + 1]? = some x := ⟨s[i + 1], List.getElem?_eq_getElem (by omega)⟩
                  obtain ⟨y, hy'⟩ : ∃ y, s[i + 2]? = some y := ⟨s[i + 2], List.getElem?_eq_getElem h2⟩
                  have hd : s.drop (i + 1) = x :: y :: s.drop (i + 3) := by
                    rw [List.drop_eq_getElem_cons (by omega : i + 1 < s.length), List.drop_eq_getElem_cons h2]
                    rw [List.getElem?_eq_getElem (by omega)] at hx'
                    rw [List.getElem?_eq_getElem h2] at hy'
                    rw [Option.some.inj hx', Option.some.inj hy']
                  have hix1 := ixS s (i + 1) x hx' ((i : Int) + 1) (by omega)
                  have hix2 := ixS s (i + 2) y hy' ((i : Int) + 2) (by omega)
                  have HIX := Lib.hid (digit_any x)
                  have HIY := Lib.hid (digit_any y)
                  have HU4 : Hid (unq s = (if hexI x < 0 ∨ hexI y < 0 ∨ plainB (hexB x y) = true then none else (unqR (s.drop (i + 3))).map fun p => (hexB x y :: p.1, p.2 + 3)).map fun p => (b ++ p.1, i + p.2)) := by
                    show _ = _
                    rw [HU3.out, hd]; rfl
                  have hxl := x.toNat_lt
                  have hyl := y.toNat_lt
                  clear hd hx' hy' HU3 HUC ep e34 e92
                  have hX := hexI_lt x
                  have hY := hexI_lt y
                  by_cases x0 : hexI x < 0
                  · have HY : Hid (∀ k, RUnqPost w s (.returned (.tuple #[.string ⟨#[]⟩, .int .i64 0, .bool false])) (wr.drewN k)) := fun k => by
                      refine ⟨below_drewN HB.out k, .inl ⟨?_, rfl⟩⟩
                      rw [HU4.out, if_pos (.inl x0)]; rfl
                    clear HU4
                    generalize hexI x = X at *
                    generalize hexI y = Y at *
                    generalize x.toNat = xn at *
                    generalize y.toNat = yn at *
                    go_wp2
                    go_quiet (first | (go_at_call 70; with_reducible exact Calls.quiet_of_same (HIX.out _)) | (go_at_call 70; with_reducible exact Calls.quiet_of_same (HIY.out _)))
                    go_wp2
                    go_ret3
                    exact HY.out _
                  · by_cases y0 : hexI y < 0
                    · have HY : Hid (∀ k, RUnqPost w s (.returned (.tuple #[.string ⟨#[]⟩, .int .i64 0, .bool false])) (wr.drewN k)) := fun k => by
                        refine ⟨below_drewN HB.out k, .inl ⟨?_, rfl⟩⟩
                        rw [HU4.out, if_pos (.inr (.inl y0))]; rfl
                      clear HU4
                      generalize hexI x = X at *
                      generalize hexI y = Y at *
                      generalize x.toNat = xn at *
                      generalize y.toNat = yn at *
                      go_wp2
                      go_quiet (first | (go_at_call 70; with_reducible exact Calls.quiet_of_same (HIX.out _)) | (go_at_call 70; with_reducible exact Calls.quiet_of_same (HIY.out _)))
                      go_wp2
                      go_ret3
                      exact HY.out _
                    · obtain ⟨X, hXe⟩ : ∃ X : Nat, hexI x = (X : Int) := ⟨(hexI x).toNat, by omega⟩
                      obtain ⟨Y, hYe⟩ : ∃ Y : Nat, hexI y = (Y : Int) := ⟨(hexI y).toNat, by omega⟩
                      have hhb : hexB x y = UInt8.ofNat (16 * X + Y) := by unfold hexB; rw [hXe, hYe]; rfl
                      rw [hXe] at HIX
                      rw [hYe] at HIY
                      have hX15 : X ≤ 15 := by omega
                      have hY15 : Y ≤ 15 := by omega
                      have HU5 : Hid (unq s = (if plainB (hexB x y) = true then none else (unqR (s.drop (i + 3))).map fun p => (hexB x y :: p.1, p.2 + 3)).map fun p => (b ++ p.1, i + p.2)) := by
                        show _ = _
                        rw [HU4.out]
                        congr 1
                        by_cases e : plainB (hexB x y) = true
                        · rw [if_pos (.inr (.inr e)), if_pos e]
                        · rw [if_neg (by rintro (h | h | h); exact x0 h; exact y0 h; exact e h), if_neg e]
                      have hbn : (hexB x y).toNat = 16 * X + Y := by rw [hhb, UInt8.toNat_ofNat']; exact Nat.mod_eq_of_lt (by omega)
                      have hor : (X : Int) * 16 + (Y : Int) = (((hexB x y).toNat : Nat) : Int) := by omega
                      have hz256 := (hexB x y).toNat_lt
                      have hmod : (((hexB x y).toNat : Nat) : Int) % 256 = (((hexB x y).toNat : Nat) : Int) := by omega
                      have hwz : IntKind.u8.wrap (((hexB x y).toNat : Nat) : Int) = (((hexB x y).toNat : Nat) : Int) := IntWalk.u8_in _ (by omega)
                      have hwi : IntKind.i64.wrap (((hexB x y).toNat : Nat) : Int) = (((hexB x y).toNat : Nat) : Int) := IntWalk.i64_in _ (by omega)
                      clear HU4 hX hY x0 y0 hXe hYe hhb hbn
                      generalize hexB x y = z at *
                      generalize x.toNat = xn at *
                      generalize y.toNat = yn at *
                      have HBC : Hid (Lib.byteCells (b ++ [z]) = Lib.byteCells b ++ [.int .u8 (z.toNat : Int)]) := by show _ = _; unfold Lib.byteCells; simp
                      by_cases ez : plainB z = true
                      · have hpp := (plain_iff z).1 ez
                        have g1 : (32 : Int) ≤ (z.toNat : Int) := by omega
                        have g2 : (z.toNat : Int) ≤ 126 := by omega
                        have g3 : ((z.toNat : Int) != 34) = true := by rw [bne_iff_ne]; omega
                        have g4 : ((z.toNat : Int) != 92) = true := by rw [bne_iff_ne]; omega
                        have HY : Hid (∀ k, RUnqPost w s (.returned (.tuple #[.string ⟨#[]⟩, .int .i64 0, .bool false])) (wr.drewN k)) := fun k => by
                          refine ⟨below_drewN HB.out k, .inl ⟨?_, rfl⟩⟩
                          rw [HU5.out, if_pos ez]; rfl
                        clear HU5 ez HBC hpp
                        generalize z.toNat = zn at *
                        go_wp2
                        go_quiet (first | (go_at_call 70; with_reducible exact Calls.quiet_of_same (HIX.out _)) | (go_at_call 70; with_reducible exact Calls.quiet_of_same (HIY.out _)))
                        go_wp2
                        go_ret3
                        exact HY.out _
                      · have HN : Hid (unq s = (unqR (s.drop (i + 3))).map fun p => ((b ++ [z]) ++ p.1, (i + 3) + p.2)) := by
                          show _ = _
                          rw [HU5.out, if_neg ez, Option.map_map]
                          congr 1
                          funext p
                          simp only [Function.comp, List.append_assoc, List.singleton_append]
                          congr 1; omega
                        have hnp : ¬ (32 ≤ z.toNat ∧ z.toNat ≤ 126 ∧ z.toNat ≠ 34 ∧ z.toNat ≠ 92) := fun h => ez ((plain_iff z).2 h)
                        clear HU5 ez
                        have hs9 := HB.out.size
                        by_cases g1 : (32 : Int) ≤ (z.toNat : Int)
                        · by_cases g2 : (z.toNat : Int) ≤ 126
                          · by_cases g3 : z.toNat = 34
                            · have g3b : ((z.toNat : Int) != 34) = false := by rw [g3]; rfl
                              clear hnp
                              generalize z.toNat = zn at *
                              clear g3
                              go_wp2
                              go_quiet (first | (go_at_call 70; with_reducible exact Calls.quiet_of_same (HIX.out _)) | (go_at_call 70; with_reducible exact Calls.quiet_of_same (HIY.out _)))
                              obtain ⟨w5, hw5⟩ : ∃ w5, wr.drewN nq = w5 := ⟨_, rfl⟩
                              have HO5 : Hid (w5.ownsRow w.heap.size 5 1 (.slice a2 b.length c2) b.length (Lib.byteCells b)) := by rw [← hw5]; exact HO.out
                              have HB5 : Hid (Below w.heap.size w w5) := by rw [← hw5]; exact below_drewN HB.out _
                              have hs5 : w.heap.size ≤ w5.heap.size := HB5.out.size
                              rw [hw5]
                              clear hw5
                              go_wp2_with (at_builtin; refine wpList_append_lies _ rfl _ _ _ rfl w.heap.size 5 i8 _ 1 1 Tryz.underlying22 hi8 hx80 hx81 hx82 rfl (by omega) (.slice a2 b.length c2) b.length _ rfl (HO5.out.alloc _) ⟨w5.heap.size, 0, none⟩ 1 1 [.int .u8 (zn : Int)] rfl rfl (cell_one_new _ _ _) (by simp [Value.oneCell']) (by omega) (by simp only [maxLen]; omega) (by omega) (by simp; omega) (w5.heap.size + 1) (by simp) ?_; intro gg cv' wq hown' hgrow hat hlt'; have hlo := HO5.out.lt; have HOW' := Lib.hid hown'; have HB' : Hid (Below w.heap.size w wq) := (HB5.out.alloc hs5 _).grown hgrow (by simp; omega) (fun g hg => (hlo g hg).1); clear hown' hgrow hat hlo)
                              go_roundw
                              case rel => exact ⟨i + 3, b ++ [z], by omega, by omega, by simp; omega, by go_num, by rw [List.length_append, HBC.out]; exact HOW'.out, HB'.out, HN.out⟩
                              case measure => simp [intOf]; omega
                            · have g3b : ((z.toNat : Int) != 34) = true := by rw [bne_iff_ne]; omega
                              have g4 : z.toNat = 92 := by omega
                              have g4b : ((z.toNat : Int) != 92) = false := by rw [g4]; rfl
                              clear hnp g3
                              generalize z.toNat = zn at *
                              clear g4
                              go_wp2
                              go_quiet (first | (go_at_call 70; with_reducible exact Calls.quiet_of_same (HIX.out _)) | (go_at_call 70; with_reducible exact Calls.quiet_of_same (HIY.out _)))
                              obtain ⟨w5, hw5⟩ : ∃ w5, wr.drewN nq = w5 := ⟨_, rfl⟩
                              have HO5 : Hid (w5.ownsRow w.heap.size 5 1 (.slice a2 b.length c2) b.length (Lib.byteCells b)) := by rw [← hw5]; exact HO.out
                              have HB5 : Hid (Below w.heap.size w w5) := by rw [← hw5]; exact below_drewN HB.out _
                              have hs5 : w.heap.size ≤ w5.heap.size := HB5.out.size
                              rw [hw5]
                              clear hw5
                              go_wp2_with (at_builtin; refine wpList_append_lies _ rfl _ _ _ rfl w.heap.size 5 i8 _ 1 1 Tryz.underlying22 hi8 hx80 hx81 hx82 rfl (by omega) (.slice a2 b.length c2) b.length _ rfl (HO5.out.alloc _) ⟨w5.heap.size, 0, none⟩ 1 1 [.int .u8 (zn : Int)] rfl rfl (cell_one_new _ _ _) (by simp [Value.oneCell']) (by omega) (by simp only [maxLen]; omega) (by omega) (by simp; omega) (w5.heap.size + 1) (by simp) ?_; intro gg cv' wq hown' hgrow hat hlt'; have hlo := HO5.out.lt; have HOW' := Lib.hid hown'; have HB' : Hid (Below w.heap.size w wq) := (HB5.out.alloc hs5 _).grown hgrow (by simp; omega) (fun g hg => (hlo g hg).1); clear hown' hgrow hat hlo)
                              go_roundw
                              case rel => exact ⟨i + 3, b ++ [z], by omega, by omega, by simp; omega, by go_num, by rw [List.length_append, HBC.out]; exact HOW'.out, HB'.out, HN.out⟩
                              case measure => simp [intOf]; omega
                          · clear hnp
                            generalize z.toNat = zn at *
                            skip
                            go_wp2
                            go_quiet (first | (go_at_call 70; with_reducible exact Calls.quiet_of_same (HIX.out _)) | (go_at_call 70; with_reducible exact Calls.quiet_of_same (HIY.out _)))
                            obtain ⟨w5, hw5⟩ : ∃ w5, wr.drewN nq = w5 := ⟨_, rfl⟩
                            have HO5 : Hid (w5.ownsRow w.heap.size 5 1 (.slice a2 b.length c2) b.length (Lib.byteCells b)) := by rw [← hw5]; exact HO.out
                            have HB5 : Hid (Below w.heap.size w w5) := by rw [← hw5]; exact below_drewN HB.out _
                            have hs5 : w.heap.size ≤ w5.heap.size := HB5.out.size
                            rw [hw5]
                            clear hw5
                            go_wp2_with (at_builtin; refine wpList_append_lies _ rfl _ _ _ rfl w.heap.size 5 i8 _ 1 1 Tryz.underlying22 hi8 hx80 hx81 hx82 rfl (by omega) (.slice a2 b.length c2) b.length _ rfl (HO5.out.alloc _) ⟨w5.heap.size, 0, none⟩ 1 1 [.int .u8 (zn : Int)] rfl rfl (cell_one_new _ _ _) (by simp [Value.oneCell']) (by omega) (by simp only [maxLen]; omega) (by omega) (by simp; omega) (w5.heap.size + 1) (by simp) ?_; intro gg cv' wq hown' hgrow hat hlt'; have hlo := HO5.out.lt; have HOW' := Lib.hid hown'; have HB' : Hid (Below w.heap.size w wq) := (HB5.out.alloc hs5 _).grown hgrow (by simp; omega) (fun g hg => (hlo g hg).1); clear hown' hgrow hat hlo)
                            go_roundw
                            case rel => exact ⟨i + 3, b ++ [z], by omega, by omega, by simp; omega, by go_num, by rw [List.length_append, HBC.out]; exact HOW'.out, HB'.out, HN.out⟩
                            case measure => simp [intOf]; omega
                        · clear hnp
                          generalize z.toNat = zn at *
                          skip
                          go_wp2
                          go_quiet (first | (go_at_call 70; with_reducible exact Calls.quiet_of_same (HIX.out _)) | (go_at_call 70; with_reducible exact Calls.quiet_of_same (HIY.out _)))
                          obtain ⟨w5, hw5⟩ : ∃ w5, wr.drewN nq = w5 := ⟨_, rfl⟩
                          have HO5 : Hid (w5.ownsRow w.heap.size 5 1 (.slice a2 b.length c2) b.length (Lib.byteCells b)) := by rw [← hw5]; exact HO.out
                          have HB5 : Hid (Below w.heap.size w w5) := by rw [← hw5]; exact below_drewN HB.out _
                          have hs5 : w.heap.size ≤ w5.heap.size := HB5.out.size
                          rw [hw5]
                          clear hw5
                          go_wp2_with (at_builtin; refine wpList_append_lies _ rfl _ _ _ rfl w.heap.size 5 i8 _ 1 1 Tryz.underlying22 hi8 hx80 hx81 hx82 rfl (by omega) (.slice a2 b.length c2) b.length _ rfl (HO5.out.alloc _) ⟨w5.heap.size, 0, none⟩ 1 1 [.int .u8 (zn : Int)] rfl rfl (cell_one_new _ _ _) (by simp [Value.oneCell']) (by omega) (by simp only [maxLen]; omega) (by omega) (by simp; omega) (w5.heap.size + 1) (by simp) ?_; intro gg cv' wq hown' hgrow hat hlt'; have hlo := HO5.out.lt; have HOW' := Lib.hid hown'; have HB' : Hid (Below w.heap.size w wq) := (HB5.out.alloc hs5 _).grown hgrow (by simp; omega) (fun g hg => (hlo g hg).1); clear hown' hgrow hat hlo)
                          go_roundw
                          case rel => exact ⟨i + 3, b ++ [z], by omega, by omega, by simp; omega, by go_num, by rw [List.length_append, HBC.out]; exact HOW'.out, HB'.out, HN.out⟩
                          case measure => simp [intOf]; omega
                · have h2' : ((s.length : Nat) : Int) ≤ (i : Int) + 2 := by omega
                  have HY : Hid (RUnqPost w s (.returned (.tuple #[.string ⟨#[]⟩, .int .i64 0, .bool false])) wr) := by
                    refine ⟨HB.out, .inl ⟨?_, rfl⟩⟩
                    rw [HU3.out]
                    rcases hd : s.drop (i + 1) with _ | ⟨x, _ | ⟨y, t⟩⟩
                    · rfl
                    · rfl
                    · have := congrArg List.length hd; rw [List.length_drop] at this; simp at this; omega
                  clear e34 ep e92 HUC HU3
                  go_wp2
                  go_ret3
                  exact HY.out
              · have hc92 : ((c.toNat : Int) == 92) = false := by rw [beq_eq_false_iff_ne]; omega
                have HY : Hid (RUnqPost w s (.returned (.tuple #[.string ⟨#[]⟩, .int .i64 0, .bool false])) wr) := by
                  refine ⟨HB.out, .inl ⟨?_, rfl⟩⟩
                  rw [HUC.out, if_neg e34, if_neg ep, if_pos e92]; rfl
                have hnp : ¬ (32 ≤ c.toNat ∧ c.toNat ≤ 126) := fun h => ep ((plain_iff c).2 ⟨h.1, h.2, e34, e92⟩)
                clear e34 ep e92 HUC hcv
                generalize c.toNat = cn at *
                by_cases g1 : (cn : Int) < 32
                · clear hnp
                  go_wp2
                  go_ret3
                  exact HY.out
                · have g2 : (126 : Int) < (cn : Int) := by omega
                  clear hnp
                  go_wp2
                  go_ret3
                  exact HY.out
        · obtain rfl : i = s.length := by omega
          have hd : decide ((s.length : Int) < (s.length : Int)) = false := by simp
          have HY : Hid (RUnqPost w s (.returned (.tuple #[.string ⟨#[]⟩, .int .i64 0, .bool false])) wr) := by
            refine ⟨hbel, .inl ⟨?_, rfl⟩⟩
            have := HUi.out
            rw [List.drop_length, unqR_nil] at this
            exact this
          clear HUi ho hbel
          go_wp2
          go_ret3
          exact HY.out
    · have hqb : ((q.toNat : Int) != 34) = true := by rw [bne_iff_ne]; omega
      have HE : Hid (RUnqPost w (q :: r) (.returned (.tuple #[.string ⟨#[]⟩, .int .i64 0, .bool false])) w) := ⟨Below.refl _ _, .inl ⟨if_neg hq, rfl⟩⟩
      generalize q.toNat = qn at *
      generalize q :: r = s at *
      go_enter Tryz.func55, Tryz.ntmps55
      go_wp2
      go_ret3
      exact HE.out
end Go.Proofs.YtdcobmoeligdkaaGreatDoor
