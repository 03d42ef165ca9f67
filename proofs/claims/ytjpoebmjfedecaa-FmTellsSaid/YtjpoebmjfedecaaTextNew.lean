/-
  text.New: documents in new memory, where each begins, the row of symbols.
-/
import Derived.Test.YtjpoebmjfedecaaTextWalk
import Derived.Deep.RegionHeld3
import Derived.Deep.AppendLies
import Derived.Deep.RegionLaw
import Derived.Deep.DeepCutAuto
namespace Go.Proofs.Ytjpoebmjfedecaa
open Go.RowKit

theorem getD_mem' {l : List Nat} {i : Nat} (h : i < l.length) : l.getD i 0 ∈ l := by
  rw [List.getD_eq_getElem?_getD, List.getElem?_eq_getElem h]; exact List.getElem_mem _
/-- where a Text's slices lie -/
structure TxP where
  ad : Option Addr
  aa : Option Addr
  ar : Option Addr
  cd : Nat
  ca : Nat
  cr : Nat
  A : Nat → Option Addr
  C : Nat → Nat
structure TextAt (w : World) (bt : Nat) (x : TxP) (ds : List (List Nat)) : Prop where
  c0 : w.cell? ⟨bt, 0, none⟩ = some (.slice x.ad ds.length x.cd)
  c1 : w.cell? ⟨bt, 1, none⟩ = some (.slice x.aa ds.length x.ca)
  c2 : w.cell? ⟨bt, 2, none⟩ = some (.slice x.ar (rowOf ds).length x.cr)
  docs : DocsAt w x.ad x.A x.C ds
  at_ : Row w x.aa ds.length (fun r => .int .i64 ((startOf ds r : Nat) : Int))
  row : Row w x.ar (rowOf ds).length (fun p => .int .u16 (((rowOf ds).getD p 0 : Nat) : Int))
  cap : (rowOf ds).length ≤ x.cr
  caps : ∀ r, r < ds.length → x.C r = (ds.getD r []).length
theorem TextAt.kept {w w' : World} {bt : Nat} {x : TxP} {ds : List (List Nat)} (h : TextAt w bt x ds) (hb : Below w.heap.size w w') : TextAt w' bt x ds :=
  have hl : bt < w.heap.size := World.block_lt_of_cell? w _ h.c0
  ⟨(hb.cell (p := ⟨bt, 0, none⟩) hl).trans h.c0, (hb.cell (p := ⟨bt, 1, none⟩) hl).trans h.c1, (hb.cell (p := ⟨bt, 2, none⟩) hl).trans h.c2, h.docs.kept hb, h.at_.kept hb, h.row.kept hb, h.cap, h.caps⟩
theorem TextAt.drewN {w : World} {bt : Nat} {x : TxP} {ds : List (List Nat)} (h : TextAt w bt x ds) (k : Nat) : TextAt (w.drewN k) bt x ds := ⟨h.c0, h.c1, h.c2, h.docs.drewN k, h.at_.drewN k, h.row.drewN k, h.cap, h.caps⟩
/-- documents that New takes -/
structure NewOk (ds : List (List Nat)) : Prop where
  many : ds.length ≤ 500
  long : ∀ d ∈ ds, d.length ≤ 2000
  all : (rowOf ds).length ≤ 60000
  byte : ∀ d ∈ ds, ∀ c ∈ d, c < 256
theorem FewP.ok {ds : List (List Nat)} (h : FewP ds) : NewOk ds := ⟨by have := h.many; omega, h.long, by have := h.all; omega, h.byte⟩

theorem info_int' : (Try.prog.info? 3).map (fun i => (i.zero, i.size, i.bytes)) = some (some (.int .i64 0), 1, 8) := by kernel_rfl
def txE : Nat → TypeId := fun j => if j = 0 then 22 else if j = 1 then 3 else 110
theorem txE0 : txE 0 = 22 := rfl
theorem txE1 : txE 1 = 3 := rfl
theorem txE2 : txE 2 = 110 := rfl
abbrev docV (ds : List (List Nat)) (A : Nat → Option Addr) (C : Nat → Nat) : Nat → Value := fun j => .slice (A j) (ds.getD j []).length (C j)
/-- a Text in the making -/
structure TN (w : World) (ds : List (List Nat)) (A : Nat → Option Addr) (C : Nat → Nat) (rd ra : Nat) (L : List Nat) (V : Nat → Value) (X : Nat → List Value) (wr : World) : Prop where
  fam : Fam wr w.heap.size (w.heap.size + 1) 123 3 txE V X (fun b => ∃ j, j < rd ∧ 0 < (ds.getD j []).length ∧ b = bOf (A j))
  x0 : X 0 = (List.range rd).map (docV ds A C)
  x1 : X 1 = (List.range ra).map fun q => .int .i64 ((startOf ds q : Nat) : Int)
  x2 : X 2 = L.map fun c : Nat => .int .u16 (c : Int)
  each : ∀ j, j < rd → Row wr (A j) (ds.getD j []).length (byteV (ds.getD j []))
  bel : Below w.heap.size w wr
  caps : ∀ j, j < rd → C j = (ds.getD j []).length
theorem TN.kept {w : World} {ds : List (List Nat)} {A : Nat → Option Addr} {C : Nat → Nat} {rd ra : Nat} {L : List Nat} {V : Nat → Value} {X : Nat → List Value} {wr w' : World} (h : TN w ds A C rd ra L V X wr) (hb : Below wr.heap.size wr w') : TN w ds A C rd ra L V X w' :=
  ⟨h.fam.kept hb, h.x0, h.x1, h.x2, fun j hj => (h.each j hj).kept hb, below_next h.bel hb h.bel.size, h.caps⟩
theorem TN.drew {w : World} {ds : List (List Nat)} {A : Nat → Option Addr} {C : Nat → Nat} {rd ra : Nat} {L : List Nat} {V : Nat → Value} {X : Nat → List Value} {wr : World} (h : TN w ds A C rd ra L V X wr) : TN w ds A C rd ra L V X wr.drew :=
  ⟨h.fam.drew, h.x0, h.x1, h.x2, fun j hj => (h.each j hj).drew, h.bel.drew, h.caps⟩
theorem TN.own0 {w : World} {ds : List (List Nat)} {A : Nat → Option Addr} {C : Nat → Nat} {rd ra : Nat} {L : List Nat} {V : Nat → Value} {X : Nat → List Value} {wr : World} (h : TN w ds A C rd ra L V X wr) : wr.ownsRow w.heap.size 22 1 (V 0) rd ((List.range rd).map (docV ds A C)) := by
  have := h.fam.own 0 (by omega)
  rw [h.x0, txE0] at this; simpa using this
theorem TN.own1 {w : World} {ds : List (List Nat)} {A : Nat → Option Addr} {C : Nat → Nat} {rd ra : Nat} {L : List Nat} {V : Nat → Value} {X : Nat → List Value} {wr : World} (h : TN w ds A C rd ra L V X wr) : wr.ownsRow w.heap.size 3 1 (V 1) ra ((List.range ra).map fun q => .int .i64 ((startOf ds q : Nat) : Int)) := by
  have := h.fam.own 1 (by omega)
  rw [h.x1, txE1] at this; simpa using this
theorem TN.own2 {w : World} {ds : List (List Nat)} {A : Nat → Option Addr} {C : Nat → Nat} {rd ra : Nat} {L : List Nat} {V : Nat → Value} {X : Nat → List Value} {wr : World} (h : TN w ds A C rd ra L V X wr) : wr.ownsRow w.heap.size 110 1 (V 2) L.length (L.map fun c : Nat => .int .u16 (c : Int)) := by
  have := h.fam.own 2 (by omega)
  rw [h.x2, txE2] at this; simpa using this
theorem row_of_block {w w' : World} {a : Option Addr} {n : Nat} {f : Nat → Value} (h : Row w a n f) (e : n = 0 ∨ w'.heap[bOf a]? = w.heap[bOf a]?) : Row w' a n f := by
  refine ⟨h.at_, fun k hk => ?_⟩
  rcases e with e | e
  · omega
  · exact (World.cell?_of_block (w := w) (a := ⟨bOf a, oOf a + k, none⟩) e).trans (h.cell k hk)
theorem TN.keepEach {w : World} {ds : List (List Nat)} {A : Nat → Option Addr} {C : Nat → Nat} {rd ra : Nat} {L : List Nat} {V : Nat → Value} {X : Nat → List Value} {wr w' : World} (h : TN w ds A C rd ra L V X wr) (i : Nat) (hi : i < 3)
    (hblk : ∀ b, b < wr.heap.size → b ≠ w.heap.size + 1 → (V i).ownBlock ≠ some b → w'.heap[b]? = wr.heap[b]?) : ∀ j, j < rd → Row w' (A j) (ds.getD j []).length (byteV (ds.getD j [])) := fun j hj => by
  refine row_of_block (h.each j hj) ?_
  rcases Nat.eq_zero_or_pos (ds.getD j []).length with e | e
  · exact .inl e
  · obtain ⟨k1, k2, k3⟩ := h.fam.keep _ ⟨j, hj, e, rfl⟩
    exact .inr (hblk _ k1 k2 (k3 i hi))
theorem TN.sz {w : World} {ds : List (List Nat)} {A : Nat → Option Addr} {C : Nat → Nat} {rd ra : Nat} {L : List Nat} {V : Nat → Value} {X : Nat → List Value} {wr : World} (h : TN w ds A C rd ra L V X wr) : w.heap.size + 1 < wr.heap.size := h.fam.cells.lt
/-- a place more -/
theorem TN.more1 {w : World} {ds : List (List Nat)} {A : Nat → Option Addr} {C : Nat → Nat} {rd ra : Nat} {L : List Nat} {V : Nat → Value} {X : Nat → List Value} {wr w1 : World} (h : TN w ds A C rd ra L V X wr) {tmp : Obj} {v' : Value}
    (hown : w1.ownsRow w.heap.size 3 1 v' (ra + 1) ((List.range ra).map (fun q => Value.int .i64 ((startOf ds q : Nat) : Int)) ++ [.int .i64 ((startOf ds ra : Nat) : Int)])) (hgrow : (wr.alloc tmp).grownBy w1 (V 1).ownBlock) (hat : v'.ownBlock = (V 1).ownBlock ∨ v'.ownBlock = some (wr.alloc tmp).heap.size) :
    ∃ X', TN w ds A C rd (ra + 1) L (upd V 1 v') X' (w1.setCell ⟨w.heap.size + 1, 1, none⟩ v') := by
  obtain ⟨hf, hblk, hbel⟩ := h.fam.app 1 (by omega) hown (by simp) hgrow hat
  refine ⟨_, hf, ?_, ?_, ?_, h.keepEach 1 (by omega) hblk, h.bel.trans (hbel _ (Nat.le_refl _) (by omega)), h.caps⟩
  · rw [upd_ne _ _ _ (by omega)]; exact h.x0
  · rw [upd_self, List.range_succ, List.map_append]; rfl
  · rw [upd_ne _ _ _ (by omega)]; exact h.x2
/-- a symbol more -/
theorem TN.more2 {w : World} {ds : List (List Nat)} {A : Nat → Option Addr} {C : Nat → Nat} {rd ra : Nat} {L : List Nat} {V : Nat → Value} {X : Nat → List Value} {wr w1 : World} (h : TN w ds A C rd ra L V X wr) {tmp : Obj} {v' : Value} (c : Nat)
    (hown : w1.ownsRow w.heap.size 110 1 v' (L.length + 1) (L.map (fun c : Nat => Value.int .u16 (c : Int)) ++ [.int .u16 (c : Int)])) (hgrow : (wr.alloc tmp).grownBy w1 (V 2).ownBlock) (hat : v'.ownBlock = (V 2).ownBlock ∨ v'.ownBlock = some (wr.alloc tmp).heap.size) :
    ∃ X', TN w ds A C rd ra (L ++ [c]) (upd V 2 v') X' (w1.setCell ⟨w.heap.size + 1, 2, none⟩ v') := by
  obtain ⟨hf, hblk, hbel⟩ := h.fam.app 2 (by omega) hown (by simp) hgrow hat
  refine ⟨_, hf, ?_, ?_, ?_, h.keepEach 2 (by omega) hblk, h.bel.trans (hbel _ (Nat.le_refl _) (by omega)), h.caps⟩
  · rw [upd_ne _ _ _ (by omega)]; exact h.x0
  · rw [upd_ne _ _ _ (by omega)]; exact h.x1
  · rw [upd_self, List.map_append]; rfl
/-- a document more, whose copy has just been made -/
theorem TN.more0 {w : World} {ds : List (List Nat)} {A : Nat → Option Addr} {C : Nat → Nat} {rd ra : Nat} {L : List Nat} {V : Nat → Value} {X : Nat → List Value} {wr w0 w1 : World} (h : TN w ds A C rd ra L V X w0) (hb0 : Below w0.heap.size w0 wr) (a' : Option Addr) (n : Nat) (hn : n = (ds.getD rd []).length)
    (hr : Row wr a' n (byteV (ds.getD rd []))) (hlow : n = 0 ∨ w0.heap.size ≤ bOf a') {tmp : Obj} {v' : Value}
    (hown : w1.ownsRow w.heap.size 22 1 v' (rd + 1) ((List.range rd).map (docV ds A C) ++ [.slice a' n n])) (hgrow : (wr.alloc tmp).grownBy w1 (V 0).ownBlock) (hat : v'.ownBlock = (V 0).ownBlock ∨ v'.ownBlock = some (wr.alloc tmp).heap.size) :
    ∃ X', TN w ds (upd A rd a') (upd C rd n) (rd + 1) ra L (upd V 0 v') X' (w1.setCell ⟨w.heap.size + 1, 0, none⟩ v') := by
  subst hn
  have hk := h.kept hb0
  have hfam : Fam wr w.heap.size (w.heap.size + 1) 123 3 txE V X (fun b => ∃ j, j < rd + 1 ∧ 0 < (ds.getD j []).length ∧ b = bOf (upd A rd a' j)) := by
    rcases hlow with e | e
    · refine hk.fam.fewer ?_
      rintro b ⟨j, h1, h2, h3⟩
      have hne : j ≠ rd := fun e2 => by subst e2; omega
      rw [upd_ne _ _ _ hne] at h3
      exact ⟨j, by omega, h2, h3⟩
    · rcases Nat.eq_zero_or_pos (ds.getD rd []).length with e0 | e0
      · refine hk.fam.fewer ?_
        rintro b ⟨j, h1, h2, h3⟩
        have hne : j ≠ rd := fun e2 => by subst e2; omega
        rw [upd_ne _ _ _ hne] at h3
        exact ⟨j, by omega, h2, h3⟩
      · refine (h.fam.more hb0 (bOf a') e (hr.lt e0)).fewer ?_
        rintro b ⟨j, h1, h2, h3⟩
        by_cases e2 : j = rd
        · subst e2; rw [upd_self] at h3; exact .inr h3
        · rw [upd_ne _ _ _ e2] at h3; exact .inl ⟨j, by omega, h2, h3⟩
  obtain ⟨hf, hblk, hbel⟩ := hfam.app 0 (by omega) hown (by simp) hgrow hat
  refine ⟨_, hf, ?_, ?_, ?_, fun j hj => ?_, hk.bel.trans (hbel _ (Nat.le_refl _) (by omega)), fun j hj => ?_⟩
  · rw [upd_self, List.range_succ, List.map_append]
    congr 1
    · refine List.map_congr_left fun j hj => ?_
      have := List.mem_range.1 hj
      show docV ds A C j = docV ds (upd A rd a') (upd C rd _) j
      unfold docV
      rw [upd_ne _ _ _ (by omega), upd_ne _ _ _ (by omega)]
    · simp [docV, upd_self]
  · rw [upd_ne _ _ _ (by omega)]; exact hk.x1
  · rw [upd_ne _ _ _ (by omega)]; exact hk.x2
  · have key : Row wr (upd A rd a' j) (ds.getD j []).length (byteV (ds.getD j [])) := by
      by_cases e2 : j = rd
      · subst e2; rw [upd_self]; exact hr
      · rw [upd_ne _ _ _ e2]; exact hk.each j (by omega)
    refine row_of_block key ?_
    rcases Nat.eq_zero_or_pos (ds.getD j []).length with e | e
    · exact .inl e
    · obtain ⟨k1, k2, k3⟩ := hfam.keep _ ⟨j, hj, e, rfl⟩
      exact .inr (hblk _ k1 k2 (k3 0 (by omega)))
  · by_cases e2 : j = rd
    · subst e2; rw [upd_self]
    · rw [upd_ne _ _ _ e2]; exact h.caps j (by omega)

theorem make_cap16 (N : Nat) (h : N ≤ 1000000) : ∀ W : World, (Instr.makeSlice 70 (.int .i64 0) (.int .i64 (N : Int))).run Try.prog W = .ok (.slice (some ⟨W.heap.size, 0, none⟩) 0 N) (W.alloc (.cells (madeCells #[.int .u16 0] N) 110)) := by
  intro W
  obtain ⟨i0, hi, hz0, hz1, hz2⟩ := info_parts info_u16
  have := run_make (P := Try.prog) W 70 110 i0 _ Try.underlying70 hi hz0 .i64 .i64 0 N (by omega) (by omega) (by rw [hz2]; omega) (by omega)
  rw [hz1] at this
  simpa [Value.cells] using this
theorem tn_start (w : World) (ds : List (List Nat)) (N : Nat) (hN : N ≤ 1000000) :
    ∃ V X, V 0 = .slice none 0 0 ∧ V 1 = .slice none 0 0 ∧ V 2 = .slice (some ⟨w.heap.size, 0, none⟩) 0 N ∧
      TN w ds (fun _ => none) (fun _ => 0) 0 0 [] V X ((w.alloc (.cells (madeCells #[.int .u16 0] N) 110)).alloc (.cells #[.slice none 0 0, .slice none 0 0, .slice (some ⟨w.heap.size, 0, none⟩) 0 N] 123)) := by
  let V : Nat → Value := fun j => if j = 0 then .slice none 0 0 else if j = 1 then .slice none 0 0 else .slice (some ⟨w.heap.size, 0, none⟩) 0 N
  refine ⟨V, fun _ => [], rfl, rfl, rfl, ⟨?_, fun j hj => ?_, ?_, ?_, ?_, ?_⟩, rfl, rfl, rfl, fun j hj => by omega, ((Below.refl _ w).alloc (Nat.le_refl _) _).alloc (by simp) _, fun j hj => by omega⟩
  · have h := World.rowIs_alloc (w.alloc (.cells (madeCells #[.int .u16 0] N) 110)) #[.slice none 0 0, .slice none 0 0, .slice (some ⟨w.heap.size, 0, none⟩) 0 N] 123 V (by
      intro i hi
      match i, hi with
      | 0, _ => rfl
      | 1, _ => rfl
      | 2, _ => rfl)
    simpa using h
  · by_cases e0 : j = 0
    · subst e0; exact World.ownsRow_nil _ _ _ _
    · by_cases e1 : j = 1
      · subst e1; exact World.ownsRow_nil _ _ _ _
      · obtain rfl : j = 2 := by omega
        exact (World.ownsRow_made w _ N (Nat.le_refl _) (by simp only [maxLen]; omega) (by rw [size_madeCells, Nat.mul_one])).alloc _
  · intro i j hi hj hij
    have hn : ∀ k, k < 2 → (V k).ownBlock = none := fun k hk => by
      match k, hk with
      | 0, _ => rfl
      | 1, _ => rfl
    by_cases hi2 : i < 2
    · exact .inl (hn i hi2)
    · exact .inr (.inl (hn j (by omega)))
  · intro j hj e
    match j, hj with
    | 0, _ => cases e
    | 1, _ => cases e
    | 2, _ =>
      have : w.heap.size = w.heap.size + 1 := by injection e
      omega
  · rintro b ⟨j, hj, _⟩; omega
  · simp; omega

def NewPost (w : World) (ds : List (List Nat)) (e : Ending) (w' : World) : Prop :=
  ∃ bt x, e = .returned (.tuple #[.pointer (some ⟨bt, 0, none⟩), .int .i64 0]) ∧ TextAt w' bt x ds ∧ Below w.heap.size w w'
theorem TN.done {w : World} {ds : List (List Nat)} {A : Nat → Option Addr} {C : Nat → Nat} {V : Nat → Value} {X : Nat → List Value} {wr : World} (h : TN w ds A C ds.length ds.length (rowOf ds) V X wr) : NewPost w ds (.returned (.tuple #[.pointer (some ⟨w.heap.size + 1, 0, none⟩), .int .i64 0])) wr := by
  obtain ⟨a0, k0, e0, _, r0, _⟩ := Row.of_owns h.own0
  obtain ⟨a1, k1, e1, _, r1, _⟩ := Row.of_owns h.own1
  obtain ⟨a2, k2, e2, c2, r2, _⟩ := Row.of_owns h.own2
  refine ⟨w.heap.size + 1, ⟨a0, a1, a2, k0, k1, k2, A, C⟩, rfl, ⟨?_, ?_, ?_, ⟨?_, h.each⟩, ?_, ?_, c2, h.caps⟩, h.bel⟩
  · rw [h.fam.cells.cell (i := 0) (by omega), e0]
  · rw [h.fam.cells.cell (i := 1) (by omega), e1]
  · rw [h.fam.cells.cell (i := 2) (by omega), e2]
  · exact r0.congr fun k hk => by simp [List.getD_eq_getElem?_getD, hk]
  · exact r1.congr fun k hk => by simp [List.getD_eq_getElem?_getD, hk]
  · exact r2.congr fun k hk => by simp [List.getD_eq_getElem?_getD, hk]
set_option maxRecDepth 100000 in
set_option maxHeartbeats 2000000 in
theorem tnew_any (w : World) (a : Option Addr) (cap : Nat) (A0 : Nat → Option Addr) (C0 : Nat → Nat) (ds : List (List Nat)) (h : DocsAt w a A0 C0 ds) (hok : NewOk ds) :
    Calls Try.prog 52 #[.slice a ds.length cap] w (NewPost w ds) := by
  have hix := run_ix (P := Try.prog) 25 (by kernel_rfl) size_bytes a ds.length cap h.top.at_ .i64
  have HD := Lib.hid h
  have HLONG := Lib.hid hok.long
  have HBYTE := Lib.hid hok.byte
  have hmany := hok.many
  have hall := hok.all
  have HST0 := Lib.hid (startOf_zero ds)
  have HSTL := Lib.hid (startOf_all ds)
  have HSTM := Lib.hid (fun (x y : Nat) (h : x ≤ y) (hb : y ≤ ds.length) => startOf_mono ds h hb)
  clear h hok
  have h500 : ¬ (500 : Int) < (ds.length : Int) := by omega
  go_enter Try.func52, Try.ntmps52
  go_wp2
  go_loop [4, 17] (fun n i => ∃ r : Nat, r ≤ ds.length ∧ i = .int .i64 r ∧ n = .int .i64 ((startOf ds r : Nat) : Int)) (fun _ i => ds.length - (intOf i).toNat)
  case atStart => exact ⟨0, by omega, rfl, by rw [HST0.out]; rfl⟩
  case round =>
    obtain ⟨r, hr, rfl, rfl⟩ := hrel
    by_cases hlt : r < ds.length
    · have d0 := HD.out.top.cell r hlt
      have hst := startOf_succ ds r hlt
      have hm1 := HSTM.out (r + 1) ds.length (by omega) (Nat.le_refl _)
      rw [HSTL.out] at hm1
      have hlong := HLONG.out _ (doc_mem hlt)
      have h2000 : ¬ (2000 : Int) < ((ds.getD r []).length : Int) := by omega
      have HST := Lib.hid hst
      have hsr : startOf ds r ≤ 60000 := by omega
      clear hst hm1
      generalize (ds.getD r []).length = n at *
      generalize startOf ds r = s at *
      go_wp2
      go_round
      case rel => exact ⟨r + 1, by omega, by go_num, by (rw [HST.out]) <;> go_num⟩
      case measure => simp [intOf]; omega
    · obtain rfl : r = ds.length := by omega
      have hd : decide ((ds.length : Int) < ds.length) = false := by simp
      rw [HSTL.out]
      obtain ⟨N, hN⟩ : ∃ N, N = (rowOf ds).length := ⟨_, rfl⟩
      rw [← hN]
      rw [← hN] at hall
      have h60 : ¬ (60000 : Int) < (N : Int) := by omega
      have hmk := make_cap16 N (by omega)
      obtain ⟨V, X, hv0, hv1, hv2, htn⟩ := tn_start w ds N (by omega)
      have HV := Lib.hid (And.intro hv0 (And.intro hv1 hv2))
      have HTN := Lib.hid htn
      have HN := Lib.hid hN
      clear hr hlt hN hv0 hv1 hv2 htn
      go_wp2
      clear hmk hd h60
      go_loopw [38] (fun i wr => ∃ (r : Nat) (A : Nat → Option Addr) (C : Nat → Nat) (V : Nat → Value) (X : Nat → List Value), r ≤ ds.length ∧ i = .int .i64 r ∧ TN w ds A C r r (rowOf (ds.take r)) V X wr) (fun i _ => ds.length - (intOf i).toNat)
      case atStart => exact ⟨0, _, _, V, X, by omega, rfl, HTN.out⟩
      case round =>
        obtain ⟨r, A, C, V, X, hr, rfl, htn⟩ := hrel
        by_cases hlt : r < ds.length
        · have hs := htn.sz
          have d0 := (HD.out.kept (htn.bel.mono (Nat.le_refl _))).top.cell r hlt
          have hlong := HLONG.out _ (doc_mem hlt)
          have hrd := (HD.out.kept (htn.bel.mono (Nat.le_refl _))).each r hlt
          obtain ⟨n, hn⟩ : ∃ n, n = (ds.getD r []).length := ⟨_, rfl⟩
          rw [← hn] at d0 hrd hlong
          have HNd := Lib.hid hn
          have HRD := Lib.hid hrd
          have HT := Lib.hid htn
          have c0 : wr.cell? ⟨w.heap.size + 1, 0, none⟩ = some (V 0) := htn.fam.cells.cell (i := 0) (by omega)
          have HV0 := Lib.hid HV
          clear HV HTN hn hrd htn
          obtain ⟨i1, hi1, hza1, hzb1, hzc1⟩ := info_parts info_bytes
          clear HV0
          go_upto_region 17 with fail
          go_cut [9] (fun s9 wx => s9 = .slice (A0 r) n (C0 r) ∧ ∃ (A : Nat → Option Addr) (C : Nat → Nat) (V : Nat → Value) (X : Nat → List Value), TN w ds A C (r + 1) r (rowOf (ds.take r)) V X wx)
          case first =>
            go_region_law
              (first
                | ((refine step_append_lies _ (by rfl) _ _ _ (by rfl) w.heap.size 22 i1 _ 1 24 Try.underlying25 hi1 hza1 hzb1 hzc1 rfl (by omega) (V 0) r _ (by rfl) (HT1.out.own0.alloc _) ⟨w1.heap.size, 0, none⟩ 1 1 [.slice a' n n] (by rfl) (by rfl) (World.news_of_block (cs := #[.slice a' n n]) (t := 22) (fr := (0, 0)) (heap_alloc_new w1 _)) (by simp [Value.oneCell']) (by omega) (by simp only [maxLen]; omega) (by omega) (by have := HT1.out.sz; simp; omega) (w1.heap.size + 1) (by simp) ?_; intro gg cv' w2 hown' hgrow hat hlt'; have hmid := HT1.out.fam.mid 0 (by omega) hgrow; have e1 := hmid.cell (i := 0) (by omega); have e2 := hmid.frozen 0; have HOW := Lib.hid hown'; have HGR := Lib.hid hgrow; have HAT := Lib.hid hat; clear hown' hgrow hat hmid))
                | ((go_simp; go_at_call 68; refine (own_any _ (A0 r) n (C0 r) _ (by omega) (fun _ _ => rfl) HRD.out.drew).mono ?_; rintro e w1 ⟨a', rfl, hr1, hb1, hlow1⟩; have HR1 := Lib.hid hr1; have HB1 := Lib.hid hb1; have HL1 := Lib.hid hlow1; have HT1 := Lib.hid (HT.out.drew.kept hb1); have e0 : w1.cell? ⟨w.heap.size + 1, 0, none⟩ = some (V 0) := HT1.out.fam.cells.cell (i := 0) (by omega); have e0' : ∀ o : Obj, (w1.alloc o).cell? ⟨w.heap.size + 1, 0, none⟩ = some (V 0) := fun o => (HT1.out.fam.cells.alloc o).cell (i := 0) (by omega); clear hr1 hb1 hlow1)))
            all_goals
              have hat2 : (Value.slice (some ⟨gg, 0, none⟩) (r + 1) cv').ownBlock = (V 0).ownBlock ∨ (Value.slice (some ⟨gg, 0, none⟩) (r + 1) cv').ownBlock = some (w1.alloc (.cells #[.slice a' n n] 22)).heap.size := by
                rcases HAT.out with h | h
                · exact .inl h.symm
                · exact .inr (by rw [World.size_alloc, h]; rfl)
              have hT2 := HT.out.drew.more0 HB1.out a' n HNd.out HR1.out HL1.out HOW.out HGR.out hat2
              clear e0 e0' e1 e2 c0
              go_wp2_with fail
              go_meet
              obtain ⟨X2, hT2⟩ := hT2
              exact ⟨rfl, _, _, _, X2, hT2⟩
          case rest =>
            clear HT c0 A C V X
            obtain ⟨rfl, A, C, V, X, htn⟩ := hcut
            obtain ⟨L, hL⟩ : ∃ L, L = rowOf (ds.take r) := ⟨_, rfl⟩
            rw [← hL] at htn
            have hLs : L.length = startOf ds r := by rw [hL]; rfl
            have hst := startOf_succ ds r hlt
            have hm1 := HSTM.out (r + 1) ds.length (by omega) (Nat.le_refl _)
            rw [HSTL.out, ← HN.out] at hm1
            rw [← HNd.out] at hst
            have hLb : L.length + n + 1 ≤ 60000 := by omega
            obtain ⟨a2, cc2, hv2, _⟩ := Row.of_owns htn.own2
            have c1 : wc.cell? ⟨w.heap.size + 1, 1, none⟩ = some (V 1) := htn.fam.cells.cell (i := 1) (by omega)
            have c2 : wc.cell? ⟨w.heap.size + 1, 2, none⟩ = some (.slice a2 L.length cc2) := (htn.fam.cells.cell (i := 2) (by omega)).trans (by rw [hv2])
            have HL := Lib.hid hL
            have HLs := Lib.hid hLs
            have HT := Lib.hid htn
            have hs2 := htn.sz
            clear hL hLs hst hm1 hv2 htn hi1 hza1 hzb1 hzc1
            obtain ⟨i2, hi2, hza2, hzb2, hzc2⟩ := info_parts info_int'
            go_upto_region 18 with fail
            go_cut [9] (fun s9 wx => s9 = .slice (A0 r) n (C0 r) ∧ ∃ (V : Nat → Value) (X : Nat → List Value), TN w ds A C (r + 1) (r + 1) L V X wx)
            case first =>
              go_region_law
                (first
                  | ((refine step_append_lies _ (by rfl) _ _ _ (by rfl) w.heap.size 3 i2 _ 1 8 Try.underlying30 hi2 hza2 hzb2 hzc2 rfl (by omega) (V 1) r _ (by rfl) (HT.out.drew.own1.alloc _) ⟨wc.heap.size, 0, none⟩ 1 1 [.int .i64 (L.length : Int)] (by rfl) (by rfl) (World.news_of_block (cs := #[.int .i64 (L.length : Int)]) (t := 3) (fr := (0, 0)) (heap_alloc_new wc.drew _)) (by simp [Value.oneCell']) (by omega) (by simp only [maxLen]; omega) (by omega) (by simp; omega) (wc.heap.size + 1) (by simp) ?_; intro gg cv' w2 hown' hgrow hat hlt'; have hmid := HT.out.drew.fam.mid 1 (by omega) hgrow; have e1 := hmid.cell (i := 1) (by omega); have e2 := hmid.frozen 1; have HOW := Lib.hid hown'; have HGR := Lib.hid hgrow; have HAT := Lib.hid hat; clear hown' hgrow hat hmid)))
              all_goals
                have hat2 : (Value.slice (some ⟨gg, 0, none⟩) (r + 1) cv').ownBlock = (V 1).ownBlock ∨ (Value.slice (some ⟨gg, 0, none⟩) (r + 1) cv').ownBlock = some (wc.drew.alloc (.cells #[.int .i64 (L.length : Int)] 3)).heap.size := by
                  rcases HAT.out with h | h
                  · exact .inl h.symm
                  · exact .inr (by rw [World.size_alloc, h]; rfl)
                have hT2 := HT.out.drew.more1 (by rw [← HLs.out]; exact HOW.out) HGR.out hat2
                clear e1 e2 c1 c2
                go_wp2_with fail
                go_meet
                obtain ⟨X2, hT2⟩ := hT2
                exact ⟨rfl, _, X2, hT2⟩
            case rest =>
              clear HT c1 c2 V X
              obtain ⟨rfl, V, X, htn⟩ := hcut
              clear hi2 hza2 hzb2 hzc2
              obtain ⟨i3, hi3, hza3, hzb3, hzc3⟩ := info_parts info_u16
              obtain ⟨d, hd⟩ : ∃ d, d = ds.getD r [] := ⟨_, rfl⟩
              have hnd : n = d.length := by rw [hd]; exact HNd.out
              have HDW := Lib.hid (fun (W : World) (hW : Below w.heap.size w W) => (HD.out.kept hW).each r hlt)
              have HBY := Lib.hid (HBYTE.out _ (doc_mem hlt))
              rw [← hd] at HDW HBY
              have HDD := Lib.hid hd
              clear hd
              subst hnd
              have hixd := run_ix (P := Try.prog) 22 (by kernel_rfl) size_u8 (A0 r) d.length (C0 r) (HDW.out wc htn.bel).at_ .i64
              have HT0 := Lib.hid htn
              clear htn
              go_wp2_with fail
              go_loopw [69] (fun i wr => ∃ (k : Nat) (V : Nat → Value) (X : Nat → List Value), k ≤ d.length ∧ i = .int .i64 k ∧ TN w ds A C (r + 1) (r + 1) (L ++ (d.take k).map (· + 1)) V X wr) (fun i _ => d.length - (intOf i).toNat)
              case atStart => exact ⟨0, V, X, by omega, rfl, by simpa using HT0.out⟩
              case round =>
                obtain ⟨k, V, X, hk, rfl, htn⟩ := hrel
                have hs3 := htn.sz
                have c2 : wr.cell? ⟨w.heap.size + 1, 2, none⟩ = some (V 2) := htn.fam.cells.cell (i := 2) (by omega)
                by_cases hkl : k < d.length
                · have dd : wr.cell? ⟨bOf (A0 r), oOf (A0 r) + k, none⟩ = some (.int .u8 ((d.getD k 0 : Nat) : Int)) := (HDW.out wr htn.bel).cell k hkl
                  have hcb := HBY.out _ (getD_mem' hkl)
                  have hnx : L ++ (d.take (k + 1)).map (· + 1) = (L ++ (d.take k).map (· + 1)) ++ [d.getD k 0 + 1] := by rw [take_succ_getD d k hkl, List.map_append, List.append_assoc]; rfl
                  have hll : (L ++ (d.take k).map (· + 1)).length ≤ 60000 := by simp; omega
                  have HNX := Lib.hid hnx
                  generalize d.getD k 0 = c at *
                  generalize L ++ (d.take k).map (· + 1) = L1 at *
                  have x1 : IntKind.u16.wrap (c : Int) = (c : Int) := IntWalk.u16_in _ (by omega)
                  have x2 : IntKind.u16.wrap ((c : Int) + 1) = ((c + 1 : Nat) : Int) := by rw [IntWalk.u16_in _ (by omega)]; omega
                  have HT := Lib.hid htn
                  clear htn hnx
                  go_wp2_with (at_builtin; refine wpList_append_lies _ rfl _ _ _ rfl w.heap.size 110 i3 _ 1 2 Try.underlying70 hi3 hza3 hzb3 hzc3 rfl (by omega) (V 2) L1.length _ rfl (HT.out.own2.alloc _) ⟨wr.heap.size, 0, none⟩ 1 1 [.int .u16 ((c + 1 : Nat) : Int)] rfl rfl (cell_one_new _ _ _) (by simp [Value.oneCell']) (by omega) (by simp only [maxLen]; omega) (by omega) (by simp; omega) (wr.heap.size + 1) (by simp) ?_; intro gg cv' w2 hown' hgrow hat hlt'; have hmid := HT.out.fam.mid 2 (by omega) hgrow; have e1 := hmid.cell (i := 2) (by omega); have e2 := hmid.frozen 2; have HOW := Lib.hid hown'; have HGR := Lib.hid hgrow; have HAT := Lib.hid hat; clear hown' hgrow hat hmid)
                  obtain ⟨X2, hT2⟩ := HT.out.more2 (c + 1) HOW.out HGR.out (by
                    rcases HAT.out with h | h
                    · exact .inl h.symm
                    · exact .inr (by rw [World.size_alloc, h]; rfl))
                  go_roundw
                  case rel => exact ⟨k + 1, _, X2, by omega, by go_num, by rw [HNX.out]; exact hT2⟩
                  case measure => simp [intOf]; omega
                · obtain rfl : k = d.length := by omega
                  have hdd : decide ((d.length : Int) < d.length) = false := by simp
                  rw [List.take_length] at htn
                  have hnx : rowOf (ds.take (r + 1)) = (L ++ d.map (· + 1)) ++ [0] := by rw [rowOf_take ds r hlt, ← HDD.out, ← HL.out, List.append_assoc]
                  have hll : (L ++ d.map (· + 1)).length ≤ 60000 := by simp; omega
                  have HNX := Lib.hid hnx
                  generalize L ++ d.map (· + 1) = L1 at *
                  have HT := Lib.hid htn
                  clear htn hnx
                  go_wp2_with (at_builtin; refine wpList_append_lies _ rfl _ _ _ rfl w.heap.size 110 i3 _ 1 2 Try.underlying70 hi3 hza3 hzb3 hzc3 rfl (by omega) (V 2) L1.length _ rfl (HT.out.own2.alloc _) ⟨wr.heap.size, 0, none⟩ 1 1 [.int .u16 0] rfl rfl (cell_one_new _ _ _) (by simp [Value.oneCell']) (by omega) (by simp only [maxLen]; omega) (by omega) (by simp; omega) (wr.heap.size + 1) (by simp) ?_; intro gg cv' w2 hown' hgrow hat hlt'; have hmid := HT.out.fam.mid 2 (by omega) hgrow; have e1 := hmid.cell (i := 2) (by omega); have e2 := hmid.frozen 2; have HOW := Lib.hid hown'; have HGR := Lib.hid hgrow; have HAT := Lib.hid hat; clear hown' hgrow hat hmid)
                  obtain ⟨X2, hT2⟩ := HT.out.more2 0 HOW.out HGR.out (by
                    rcases HAT.out with h | h
                    · exact .inl h.symm
                    · exact .inr (by rw [World.size_alloc, h]; rfl))
                  go_roundw
                  case rel => exact ⟨r + 1, A, C, _, X2, by omega, by go_num, by rw [HNX.out]; exact hT2⟩
                  case measure => simp [intOf]; omega
        · obtain rfl : r = ds.length := by omega
          rw [List.take_length] at htn
          have hd : decide ((ds.length : Int) < ds.length) = false := by simp
          have HT := Lib.hid htn
          clear htn HV HTN
          go_wp2
          go_ret2
          exact HT.out.done
end Go.Proofs.Ytjpoebmjfedecaa
