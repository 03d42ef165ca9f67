/-
  Find's iterator: it ranges over text.In's; its contract.
-/
import Derived.Test.YtehgpggkicoddaaFindIn
import Derived.Test.YtehgpggkicoddaaTextNew
import Derived.Test.YtehgpggkicoddaaRefMath
namespace Go.Proofs.Ytehgpggkicoddaa
open Go.RowKit Go.Shelf
attribute [local go_sem] Oper.semAt_some

/-- the hits of the first documents -/
def fdTo (ds : List (List Nat)) (P : List Nat) (i : Nat) : List (Nat × Nat) := (List.range i).flatMap fun q => (inL P (ds.getD q [])).map fun k => (q, k)
theorem fdTo_zero (ds : List (List Nat)) (P : List Nat) : fdTo ds P 0 = [] := rfl
theorem fdTo_succ (ds : List (List Nat)) (P : List Nat) (i : Nat) : fdTo ds P (i + 1) = fdTo ds P i ++ (inL P (ds.getD i [])).map fun k => (i, k) := by
  unfold fdTo; rw [List.range_succ, List.flatMap_append]; simp
theorem fdTo_pre (ds : List (List Nat)) (P : List Nat) {k m : Nat} (h : k ≤ m) : fdTo ds P k <+: fdTo ds P m := by
  obtain ⟨t, rfl⟩ := Nat.le.dest h
  unfold fdTo
  rw [List.range_add, List.flatMap_append]
  exact List.prefix_append _ _
theorem fdTo_len (ds : List (List Nat)) (P : List Nat) : ∀ i, i ≤ ds.length → (fdTo ds P i).length ≤ startOf ds i
  | 0, _ => by rw [fdTo_zero]; exact Nat.zero_le _
  | i + 1, h => by
    have h1 := fdTo_len ds P i (by omega)
    have h2 := startOf_succ ds i (by omega)
    have h3 := inL_len P (ds.getD i [])
    rw [fdTo_succ, List.length_append, List.length_map]
    omega
attribute [irreducible] fdTo
def hitE (y : Nat × Nat) : Array Value := #[.int .i64 (y.1 : Int), .int .i64 (y.2 : Int)]
theorem tin_any (w : World) (ad ap : Option Addr) (n cd m cp : Nat) :
    Calls Try.prog 27 #[.slice ad n cd, .slice ap m cp] w fun e w' => e = .returned (.func (.func 30) #[] #[.pointer (some ⟨w.heap.size + 1, 0, none⟩), .pointer (some ⟨w.heap.size, 0, none⟩)]) ∧ w' = (w.alloc (.cells #[.slice ad n cd] 29)).alloc (.cells #[.slice ap m cp] 29) := by
  go_enter Try.func27, Try.ntmps27
  go_wp2
  go_ret
  exact ⟨rfl, rfl⟩
abbrev KeepAll (W W' : World) : Prop := KeepX (fun _ => True) W W'
theorem KeepAll.cell {W W' : World} (h : KeepAll W W') {p : Addr} {v : Value} (hc : W.cell? p = some v) : W'.cell? p = some v :=
  (World.cell?_of_block (h.block p.block (World.block_lt_of_cell? W _ hc) trivial)).trans hc
theorem KeepAll.row {W W' : World} (h : KeepAll W W') {a : Option Addr} {n : Nat} {f : Nat → Value} (hr : Row W a n f) : Row W' a n f := ⟨hr.at_, fun k hk => h.cell (hr.cell k hk)⟩
theorem KeepAll.step {K : Nat → Prop} {A W W' : World} (h : KeepAll A W) (hk : KeepX K W W') (hK : ∀ b, b < A.heap.size → K b) : KeepAll A W' :=
  ⟨Nat.le_trans h.size hk.size, fun b hb _ => (hk.block b (Nat.lt_of_lt_of_le hb h.size) (hK b hb)).trans (h.block b hb trivial)⟩
theorem KeepAll.below {A W W' : World} (h : KeepAll A W) (hb : Below W.heap.size W W') : KeepAll A W' :=
  ⟨Nat.le_trans h.size hb.size, fun b h' _ => (hb.block b (Nat.lt_of_lt_of_le h' h.size)).trans (h.block b h' trivial)⟩
theorem KeepAll.of_below {A W : World} (hb : Below A.heap.size A W) : KeepAll A W := KeepX.of_below hb
/-- what Find's iterator reads -/
structure FdAt (ws W : World) (B1 B2 bt : Nat) (ap : Option Addr) (cp : Nat) (P : List Nat) : Prop where
  all : KeepAll ws W
  c1 : W.cell? ⟨B1, 0, none⟩ = some (.pointer (some ⟨bt, 0, none⟩))
  c2 : W.cell? ⟨B2, 0, none⟩ = some (.slice ap P.length cp)
  pr : Row W ap P.length (byteV P)
structure FdK (K : Nat → Prop) (ws : World) (B1 B2 : Nat) (ap : Option Addr) (P : List Nat) : Prop where
  all : ∀ b, b < ws.heap.size → K b
  c1 : K B1
  c2 : K B2
  pr : P.length = 0 ∨ K (bOf ap)
theorem cell_keepX {K : Nat → Prop} {W W' : World} (kp : KeepX K W W') {p : Addr} {v : Value} (hx : K p.block) (hc : W.cell? p = some v) : W'.cell? p = some v :=
  (World.cell?_of_block (kp.block _ (World.block_lt_of_cell? W _ hc) hx)).trans hc
theorem FdAt.keepX {K : Nat → Prop} {ws W W' : World} {B1 B2 bt : Nat} {ap : Option Addr} {cp : Nat} {P : List Nat} (h : FdAt ws W B1 B2 bt ap cp P) (hk : FdK K ws B1 B2 ap P) (kp : KeepX K W W') : FdAt ws W' B1 B2 bt ap cp P :=
  ⟨h.all.step kp hk.all, cell_keepX kp hk.c1 h.c1, cell_keepX kp hk.c2 h.c2, ⟨h.pr.at_, fun k hk' => cell_keepX kp (p := ⟨bOf ap, oOf ap + k, none⟩) (hk.pr.resolve_left (by omega)) (h.pr.cell k hk')⟩⟩
theorem FdAt.kept {ws W W' : World} {B1 B2 bt : Nat} {ap : Option Addr} {cp : Nat} {P : List Nat} (h : FdAt ws W B1 B2 bt ap cp P) (hb : Below W.heap.size W W') : FdAt ws W' B1 B2 bt ap cp P :=
  h.keepX (K := fun _ => True) ⟨fun _ _ => trivial, trivial, trivial, .inr trivial⟩ (KeepX.of_below hb)
abbrev mkD (D : Nat) : Deferred := { target := .collected D, args := #[] }
/-- between two documents -/
structure FdRel (J : (Nat → Prop) → List (Nat × Nat) → World → Prop) (ws : World) (B1 B2 bt : Nat) (ap : Option Addr) (cp : Nat) (ds : List (List Nat)) (P : List Nat) (l By ty : Nat) (Ms : List Nat) (X : Nat → Prop) (i : Nat) (W : World) : Prop where
  le : i ≤ ds.length
  j : J X (fdTo ds P i) W
  at_ : FdAt ws W B1 B2 bt ap cp P
  y : Boxed W By ty (.func (.yield l) #[] #[]) ∧ X By
  nd : Ms.Nodup
  ms : ∀ D ∈ Ms, X D ∧ W.heap[D]? = some (.deferred (some []))
set_option maxRecDepth 100000 in
set_option maxHeartbeats 2000000 in
theorem find1_any (n : Nat) (hn : 2 ≤ n) (K : Nat → Prop) (ws w : World) (B1 B2 bt : Nat) (x : TxP) (ap : Option Addr) (cp : Nat) (ds : List (List Nat)) (P : List Nat) (ht : TextAt ws bt x ds) (hm : MaxCell ws) (hf : FdAt ws w B1 B2 bt ap cp P) (hK : FdK K ws B1 B2 ap P)
    (hok : NewOk ds) (hpb : ∀ c ∈ P, c < 256) (hPl : P.length ≤ 1000000) :
    SeqX Fence.wide n Try.prog 26 #[.pointer (some ⟨B1, 0, none⟩), .pointer (some ⟨B2, 0, none⟩)] hitE K (fun xs => xs = fdTo ds P ds.length) (fun pre => pre <+: fdTo ds P ds.length) (fdTo ds P ds.length).length w := by
  intro l J Jx W hW hJ hJx hY h0
  have hFd : FdAt ws W B1 B2 bt ap cp P := hf.kept hW
  have hwf : ∀ f, Fence.wide.fn f = True := fun _ => rfl
  refine callsIn_of_wp_marks Try.func26 rfl trivial ?_ rfl
  simp only [Try.ntmps26, List.size_toArray, List.length_cons, List.length_nil, Nat.reduceAdd, Nat.reduceSub, Array.replicate_succ, Array.replicate_zero, List.push_toArray, List.append_toArray, List.nil_append, List.cons_append]
  have hix := run_ix (P := Try.prog) 22 (by kernel_rfl) size_bytes x.ad ds.length x.cd ht.docs.top.at_ .i64
  have HY := Lib.hid hY
  have HJ := Lib.hid hJ
  have HJX := Lib.hid hJx
  have HK := Lib.hid hK
  have HT := Lib.hid ht
  have HM := Lib.hid hm
  have HPB := Lib.hid hpb
  have HOK := Lib.hid hok
  have h500 := hok.many
  have c1 : (W.alloc (.cells #[.func (.yield l) #[] #[]] 57)).cell? ⟨B1, 0, none⟩ = some (.pointer (some ⟨bt, 0, none⟩)) := (Below.cell ((Below.refl _ W).alloc (Nat.le_refl _) _) (p := ⟨B1, 0, none⟩) (World.block_lt_of_cell? W _ hFd.c1)).trans hFd.c1
  have hbw : Below W.heap.size W (W.alloc (.cells #[.func (.yield l) #[] #[]] 57)) := (Below.refl _ W).alloc (Nat.le_refl _) _
  have c3 : (W.alloc (.cells #[.func (.yield l) #[] #[]] 57)).cell? ⟨bt, 0, none⟩ = some (.slice x.ad ds.length x.cd) := (hFd.all.below hbw).cell ht.c0
  have HR : Hid (FdRel J ws B1 B2 bt ap cp ds P l W.heap.size 57 [] (fun b => b = W.heap.size) 0 (W.alloc (.cells #[.func (.yield l) #[] #[]] 57))) :=
    ⟨Nat.zero_le _, by rw [fdTo_zero]; exact hJ _ _ _ _ _ h0 (StepX.of_below hbw) (fun b hb => .inr (by rw [World.size_alloc]; omega)), hFd.kept hbw, ⟨Boxed.new _ _ _, rfl⟩, List.nodup_nil, fun D h => by cases h⟩
  clear hY hJ hJx hK h0 hFd hf hW hpb hm ht hok hbw
  gi_wp2
  obtain ⟨By, hBy⟩ : ∃ By, By = W.heap.size := ⟨_, rfl⟩
  clear c1 c3
  refine wpIn_loop (fun a' w' => ∃ (Ms : List Nat) (X : Nat → Prop) (i : Nat) (v4 v5 v6 v13 v14 v15 v16 v17 v18 v19 v20 v21 v22 v23 v24 v25 v26 : Value), FdRel J ws B1 B2 bt ap cp ds P l W.heap.size 57 Ms X i w' ∧
    a' = { tmps := #[.func (.yield l) #[] #[], .pointer (some ⟨B1, 0, none⟩), .pointer (some ⟨B2, 0, none⟩), .pointer (some ⟨W.heap.size, 0, none⟩), v4, v5, v6, .pointer (some ⟨bt, 0, none⟩), .pointer (some ⟨bt, 0, none⟩), .pointer (some ⟨bt, 0, none⟩), .slice x.ad ds.length x.cd, .int .i64 (ds.length : Int), .int .i64 (i : Int), v13, v14, v15, v16, v17, v18, v19, v20, v21, v22, v23, v24, v25, v26], defers := Ms.map mkD }) (fun a' _ => ds.length - (intOf (a'.tmps.getD 12 undef)).toNat) ⟨[], _, 0, _, _, _, _, _, _, _, _, _, _, _, _, _, _, _, _, _, HR.out, rfl⟩ ?_
  rintro a' wr ⟨Ms, X, i, v4, v5, v6, v13, v14, v15, v16, v17, v18, v19, v20, v21, v22, v23, v24, v25, v26, hrel, rfl⟩
  have hle := hrel.le
  have HRL := Lib.hid hrel
  have c1 := hrel.at_.c1
  have c2 := hrel.at_.c2
  have c3 : wr.cell? ⟨bt, 0, none⟩ = some (.slice x.ad ds.length x.cd) := hrel.at_.all.cell HT.out.c0
  rw [← hBy] at HRL ⊢
  clear hBy
  by_cases hlt : i < ds.length
  · have hdm := doc_mem hlt
    have hdl := HOK.out.long _ hdm
    have HDB := Lib.hid (HOK.out.byte _ hdm)
    have HSUC := Lib.hid (fdTo_succ ds P i)
    have HDR := Lib.hid (HT.out.docs.each i hlt)
    have hcc := HT.out.caps i hlt
    have c4 : wr.cell? ⟨bOf x.ad, oOf x.ad + i, none⟩ = some (.slice (x.A i) (ds.getD i []).length (x.C i)) := hrel.at_.all.cell (HT.out.docs.top.cell i hlt)
    have HFT := Lib.hid (fdTo_pre ds P (show i + 1 ≤ ds.length from hlt))
    have hx := fun W => hix W i hlt
    have hbi : Below wr.heap.size wr (wr.alloc (.cells #[.int .i64 (i : Int)] 3)) := (Below.refl _ wr).alloc (Nat.le_refl _) _
    have c5 : (wr.alloc (.cells #[.int .i64 (i : Int)] 3)).cell? ⟨B2, 0, none⟩ = some (.slice ap P.length cp) := (hbi.cell (p := ⟨B2, 0, none⟩) (World.block_lt_of_cell? wr _ c2)).trans c2
    clear hrel HR hdm hix hbi
    generalize hd : ds.getD i [] = d at *
    have HD := Lib.hid hd
    clear hd
    have HMX := Lib.hid (fun W (h : KeepAll ws W) => HM.out.block (h.block _ HM.out.lt trivial))
    have hwa : Below wr.heap.size wr (((wr.alloc (.cells #[.int .i64 (i : Int)] 3)).alloc (.cells #[.slice (x.A i) d.length d.length] 29)).alloc (.cells #[.slice ap P.length cp] 29)) := (((Below.refl _ wr).alloc (Nat.le_refl _) _).alloc (by simp) _).alloc (by simp; omega) _
    have HS3 := Lib.hid (show (((wr.alloc (.cells #[.int .i64 (i : Int)] 3)).alloc (.cells #[.slice (x.A i) d.length d.length] 29)).alloc (.cells #[.slice ap P.length cp] 29)).heap.size = wr.heap.size + 3 by simp)
    have BI := ((Boxed.new wr 3 (.int .i64 (i : Int))).alloc (.cells #[.slice (x.A i) d.length d.length] 29)).alloc (.cells #[.slice ap P.length cp] 29)
    have BD := (Boxed.new (wr.alloc (.cells #[.int .i64 (i : Int)] 3)) 29 (.slice (x.A i) d.length d.length)).alloc (.cells #[.slice ap P.length cp] 29)
    have BP := Boxed.new ((wr.alloc (.cells #[.int .i64 (i : Int)] 3)).alloc (.cells #[.slice (x.A i) d.length d.length] 29)) 29 (.slice ap P.length cp)
    simp only [World.size_alloc] at BD BP
    have HWA := Lib.hid hwa
    have HBI := Lib.hid BI
    have HBD := Lib.hid BD
    have HBP := Lib.hid BP
    clear hwa BI BD BP
    gi_wp2
    refine ⟨fun _ => by omega, (callsIn_wide.2 (tin_any _ (x.A i) ap d.length d.length P.length cp)).mono ?_⟩
    rintro e wa ⟨rfl, rfl⟩
    simp only [World.size_alloc]
    gi_wp2
    clear c1 c2 c3 c4 c5 hx hcc
    generalize (((wr.alloc (.cells #[.int .i64 (i : Int)] 3)).alloc (.cells #[.slice (x.A i) d.length d.length] 29)).alloc (.cells #[.slice ap P.length cp] 29)) = wa at *
    have hs3 := HS3.out
    -- the sets
    obtain ⟨X1, hX1⟩ : ∃ X1 : Nat → Prop, X1 = fun b => X b ∨ (wr.heap.size ≤ b ∧ b < wa.heap.size) := ⟨_, rfl⟩
    obtain ⟨K1, hK1⟩ : ∃ K1 : Nat → Prop, K1 = fun b => K b ∨ X1 b := ⟨_, rfl⟩
    have x1x : ∀ b, X b → X1 b := fun b h => by rw [hX1]; exact .inl h
    have x1n : ∀ b, wr.heap.size ≤ b → b < wa.heap.size → X1 b := fun b h1 h2 => by rw [hX1]; exact .inr ⟨h1, h2⟩
    have k1k : ∀ b, K b → K1 b := fun b h => by rw [hK1]; exact .inl h
    have k1x : ∀ b, X1 b → K1 b := fun b h => by rw [hK1]; exact .inr h
    have HFA := Lib.hid (HRL.out.at_.kept HWA.out)
    have HIN : Hid (InAt wa (wr.heap.size + 1 + 1) (wr.heap.size + 1) (x.A i) ap d.length cp d P) := ⟨HBP.out.cell, HBD.out.cell, HFA.out.all.row HDR.out, HFA.out.pr, HMX.out wa HFA.out.all⟩
    have HINK : Hid (InK (fun b => K1 b ∧ b < wa.heap.size) (wr.heap.size + 1 + 1) (wr.heap.size + 1) (x.A i) ap d P) := by
      refine ⟨⟨k1x _ (x1n _ (by omega) (by omega)), by omega⟩, ⟨k1x _ (x1n _ (by omega) (by omega)), by omega⟩, ?_, ?_, ⟨k1k _ (HK.out.all _ HM.out.lt), HIN.out.mx.lt⟩⟩
      · rcases Nat.eq_zero_or_pos d.length with h | h
        · exact .inl h
        · exact .inr ⟨k1k _ (HK.out.all _ (HDR.out.lt h)), HIN.out.dr.lt h⟩
      · rcases Nat.eq_zero_or_pos P.length with h | h
        · exact .inl h
        · exact .inr ⟨k1k _ (HK.out.pr.resolve_left (by omega)), HIN.out.pr.lt h⟩
    have HJ0 : Hid (J (fun b => X1 b ∨ False) (fdTo ds P i ++ ([] : List Nat).map fun k => (i, k)) wa) := by
      rw [List.map_nil, List.append_nil]
      exact HJ.out _ _ _ _ _ HRL.out.j (StepX.of_below HWA.out) (fun b hb => by rw [hX1] at hb; simp at hb; exact hb)
    have HKT : ∀ {A B : World}, KeepX K1 wa A → KeepX K A B → KeepX X1 A B → KeepX K1 wa B := fun {A B} h h1 h2 => h.trans ⟨h1.size, fun b hb hk => by rw [hK1] at hk; exact hk.elim (h1.block b hb) (h2.block b hb)⟩
    have HBY : Hid (∀ W, KeepX K1 wa W → Boxed W By 57 (.func (.yield l) #[] #[]) ∧ Boxed W wr.heap.size 3 (.int .i64 (i : Int))) := fun W h => by
      have y := HRL.out.y
      have hl := y.1.lt
      exact ⟨(h.block By (by omega) (k1x _ (x1x _ y.2))).trans ((HWA.out.block By hl).trans y.1), (h.block _ (by omega) (k1x _ (x1n _ (Nat.le_refl _) (by omega)))).trans HBI.out⟩
    have HLEN : Hid (∀ m, m < (inL P d).length → (fdTo ds P i).length + m < (fdTo ds P ds.length).length) := fun m hm => by
      have h1 := congrArg List.length HSUC.out
      have h2 := HFT.out.length_le
      rw [List.length_append, List.length_map] at h1
      omega

    refine wpIn_rangeFunc_X rfl (by omega) (gf := 30) (lb := #[.pointer (some ⟨wr.heap.size + 1 + 1, 0, none⟩), .pointer (some ⟨wr.heap.size + 1, 0, none⟩)]) rfl trivial (enters_of Try.func30 (by kernel_rfl) rfl)
      (in1_any (n - 1) (by omega) (fun b => K1 b ∧ b < wa.heap.size) wa (wr.heap.size + 1 + 1) (wr.heap.size + 1) (x.A i) ap d.length cp d P HIN.out HINK.out HDB.out HPB.out (by omega) hPl (Nat.le_refl _))
      (fun b h => h.2) (Below.refl _ _) (fun _ => rfl)
      (fun Xi (pre : List Nat) W => J (fun b => X1 b ∨ Xi b) (fdTo ds P i ++ pre.map fun k => (i, k)) W ∧ (KeepX K1 wa W ∧ ∀ b, Xi b → wa.heap.size ≤ b))
      (fun c Xi (pre : List Nat) W => (Jx (fun b => X1 b ∨ Xi b) (fdTo ds P i ++ pre.map fun k => (i, k)) W ∧ (KeepX K1 wa W ∧ ∀ b, Xi b → wa.heap.size ≤ b)) ∧ c = .ret)
      (Fr.and (Fr.or HJ.out X1 (fun pre : List Nat => fdTo ds P i ++ pre.map fun k => (i, k))) (Fr.keep K1 wa))
      (fun c => Fr.and (Fr.and (Fr.or HJX.out X1 (fun pre : List Nat => fdTo ds P i ++ pre.map fun k => (i, k))) (Fr.keep K1 wa)) (Fr.pure (fun _ => c = .ret)))
      ⟨HJ0.out, KeepX.refl _ _, fun b h => h.elim⟩
      (fun k => { tmps := #[.func (.yield l) #[] #[], .pointer (some ⟨B1, 0, none⟩), .pointer (some ⟨B2, 0, none⟩), .pointer (some ⟨By, 0, none⟩), .pointer (some ⟨wr.heap.size, 0, none⟩), .slice (x.A i) d.length d.length, .int .i64 (k : Int), .pointer (some ⟨bt, 0, none⟩), .pointer (some ⟨bt, 0, none⟩), .pointer (some ⟨bt, 0, none⟩), .slice x.ad ds.length x.cd, .int .i64 (ds.length : Int), .int .i64 (i : Int), .bool true, .int .i64 (i : Int), .pointer (some ⟨bOf x.ad, oOf x.ad + i, none⟩), .slice (x.A i) d.length d.length, .slice (x.A i) d.length d.length, .slice ap P.length cp, .func (.func 30) #[] #[.pointer (some ⟨wr.heap.size + 1 + 1, 0, none⟩), .pointer (some ⟨wr.heap.size + 1, 0, none⟩)], .int .i64 (k : Int), v21, v22, v23, v24, v25, v26], defers := [] }) ?assign ?body ?done ?stop
    case assign =>
      intro l' k W G hG
      gi_wp2
      exact hG
    case body =>
      rintro l' Xi pre k W' - hXl ⟨hj, hkp, hge⟩ hlen
      obtain ⟨by1, by2⟩ := HBY.out W' hkp
      have hc1 := by1.cell
      have hc2 := by2.cell
      obtain ⟨fn, tmps, assign, body, hy, hR⟩ := HY.out (fun b => X1 b ∨ Xi b) _ (i, k) W' hj (by rw [List.length_append, List.length_map]; exact HLEN.out _ hlen)
      have HYR := Lib.hid hR
      have HKP := Lib.hid hkp
      have HGE := Lib.hid hge
      unfold hitE at hy
      simp only at hy
      clear hR by1 by2 hkp hge hj
      gi_wp2
      refine ⟨(fun h => by cases h), (roundIn_wide HYR.out).mono ?_⟩
      rintro e0 W3 ⟨hkx, hkk, hor⟩
      have HKX : Hid (KeepX Xi W' W3) := hkx.mono fun b _ h => .inr h
      have HKA : Hid (KeepX K1 wa W3) := HKT HKP.out hkk (hkx.mono fun b _ h => .inl h)
      have HKN : Hid (KeepX (fun b => K1 b ∧ b < wa.heap.size) W' W3) := ⟨hkk.size, fun b hb hk => by
        have h1 := hk.1
        rw [hK1] at h1
        exact h1.elim (hkk.block b hb) (fun h => hkx.block b hb (.inl h))⟩
      have HEQ : Hid (fdTo ds P i ++ List.map (fun k => (i, k)) pre ++ [(i, k)] = fdTo ds P i ++ (pre ++ [k]).map fun k => (i, k)) := by
        show _ = _
        rw [List.map_append, List.append_assoc]; rfl
      clear hkx hkk hy
      rcases hor with ⟨rfl, hj3⟩ | ⟨rfl, hj3⟩
      · rw [HEQ.out] at hj3
        have HJ3 := Lib.hid hj3
        clear hj3
        gi_wp2
        exact ⟨HKX.out, HKN.out, HJ3.out, HKA.out, HGE.out⟩
      · rw [HEQ.out] at hj3
        have HJ3 := Lib.hid hj3
        clear hj3
        gi_wp2
        exact ⟨HKX.out, HKN.out, ⟨HJ3.out, HKA.out, HGE.out⟩, rfl⟩
    case done =>
      rintro D Xd xs W2 hD hXD rfl ⟨hj, hkp, hge⟩ hk
      have HJ2 := Lib.hid hj
      have HKP := Lib.hid hkp
      have HGE := Lib.hid hge
      have HDK := Lib.hid hk
      clear hj hkp hge hk
      gi_wp2
      refine ⟨⟨D :: Ms, fun b => X1 b ∨ Xd b, i + 1, _, _, _, _, _, _, _, _, _, _, _, _, _, _, _, _, _, ⟨hlt, by rw [HSUC.out]; exact HJ2.out, HFA.out.keepX HK.out (HKP.out.mono fun b _ h => k1k b h), ⟨(HBY.out W2 HKP.out).1, .inl (x1x _ HRL.out.y.2)⟩, ?_, ?_⟩, rfl⟩, by simp [intOf]; omega⟩
      · refine List.nodup_cons.2 ⟨fun h => ?_, HRL.out.nd⟩
        have := (Array.getElem?_eq_some_iff.1 (HRL.out.ms D h).2).1
        omega
      · intro E hE
        rcases List.mem_cons.1 hE with e | hE
        · subst e; exact ⟨.inr hXD, HDK.out⟩
        · obtain ⟨h1, h2⟩ := HRL.out.ms E hE
          have hl := (Array.getElem?_eq_some_iff.1 h2).1
          exact ⟨.inl (x1x _ h1), (HKP.out.block E (by omega) (k1x _ (x1x _ h1))).trans ((HWA.out.block E hl).trans h2)⟩
    case stop =>
      rintro D Xd c pre W2 hD hXD hpre ⟨⟨hj, hkp, hge⟩, rfl⟩ hk
      have HPR : Hid ((fdTo ds P i ++ pre.map fun k => (i, k)) <+: fdTo ds P ds.length) := by
        refine List.IsPrefix.trans ?_ HFT.out
        obtain ⟨t, ht⟩ := hpre
        rw [HSUC.out, ← ht, List.map_append, ← List.append_assoc]
        exact List.prefix_append _ _
      have HJ2 := Lib.hid hj
      have HKP := Lib.hid hkp
      have HDK := Lib.hid hk
      clear hj hkp hge hk
      gi_wp2
      refine leaves_marks (fun b => X1 b ∨ Xd b) (fun W => Jx (fun b => X1 b ∨ Xd b) (fdTo ds P i ++ pre.map fun k => (i, k)) W) (fun A B h st => HJX.out.step h st) (fun A h => ?_) (D :: Ms) W2 ?_ ?_ HJ2.out
      · exact ⟨_, results_none rfl _ _ _, ⟨_, rfl⟩, .inr ⟨_, _, HPR.out, h⟩⟩
      · refine List.nodup_cons.2 ⟨fun h => ?_, HRL.out.nd⟩
        have := (Array.getElem?_eq_some_iff.1 (HRL.out.ms D h).2).1
        omega
      · intro E hE
        rcases List.mem_cons.1 hE with e | hE
        · subst e; exact ⟨.inr hXD, HDK.out⟩
        · obtain ⟨h1, h2⟩ := HRL.out.ms E hE
          have hl := (Array.getElem?_eq_some_iff.1 h2).1
          exact ⟨.inl (x1x _ h1), (HKP.out.block E (by omega) (k1x _ (x1x _ h1))).trans ((HWA.out.block E hl).trans h2)⟩
  · obtain rfl : i = ds.length := by omega
    clear c1 c2 c3 hrel HR hix
    gi_wp2
    refine leaves_marks X (fun W => J X (fdTo ds P ds.length) W) (fun A B h st => HJ.out.step h st) (fun A h => ?_) Ms wr HRL.out.nd HRL.out.ms HRL.out.j
    exact ⟨_, results_none rfl _ _ _, ⟨_, rfl⟩, .inl ⟨_, _, rfl, h⟩⟩
end Go.Proofs.Ytehgpggkicoddaa
