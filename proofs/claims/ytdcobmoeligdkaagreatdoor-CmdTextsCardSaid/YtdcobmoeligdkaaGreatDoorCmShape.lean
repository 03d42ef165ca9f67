/-
  cmd.shapes: the words of the commands and what they need; the closure that looks for a word.
-/
import Derived.Test.YtdcobmoeligdkaaGreatDoorCmUnq
import Derived.Great.BuildSlice
import Derived.Great.Walk
namespace Go.Proofs.YtdcobmoeligdkaaGreatDoor
open Go.RowKit Go.Shelf

/-- the words, and what they need -/
def shL : List (List UInt8 × List UInt8) := [([], []), ([97, 100, 100], [116]), ([100, 101, 108, 101, 116, 101], [110]), ([103, 101, 116], [110]), ([99, 111, 117, 110, 116], [116]), ([108, 111, 99, 97, 116, 101], [116, 110]), ([105, 100, 115], []), ([115, 121, 110, 99], []), ([102, 108, 117, 115, 104], []), ([115, 116, 101, 112], []), ([114, 101, 115, 116], [110]), ([115, 116, 97, 116, 115], []), ([102, 105, 110, 100], [113]), ([108, 105, 110, 101, 115], [116, 110, 110, 110]), ([115, 116, 111, 112], [110]), ([99, 114, 97, 115, 104], [110, 110]), ([99, 104, 101, 99, 107], []), ([102, 105, 108, 101, 115], [])]
def encS (x : List UInt8 × List UInt8) : List Value := [.string (uS x.1), .string (uS x.2)]
def shA : Array Value := (shL.flatMap encS).toArray
def shV : Value := .agg shA
theorem shL_len : shL.length = 18 := rfl
theorem below_setRowS {B : Nat} {a w : World} (h : Below B a w) {g : Nat} (hg : B ≤ g) (cs : Array Value) : Below B a (w.setRow g cs) :=
  ⟨h.os, h.tape, h.output, by simpa using h.size, fun i hi => (setRow_other w g i cs (by omega)).trans (h.block i hi)⟩
theorem results_cellS {fn : Func} {p : Tmp} {ty : TypeId} (h : fn.results = #[.cell p ty]) (tmps : Array Value) (P : Program) (w : World) :
    (results fn tmps).run P w = ((asAddr (tmps.getD p undef)).run P w).andThen fun a w₁ => (loadVar ty a).run P w₁ := by
  simp only [results, h]
  simp [Sem.run_bind, Result.andThen]
def zeroS : Array Value := (Array.range 36).map fun _ => .string ⟨#[]⟩
set_option maxRecDepth 100000 in
set_option maxHeartbeats 2000000 in
theorem shapes_any (w : World) : Calls Tryz.prog 11 #[] w fun e w' => e = .returned shV ∧ Below w.heap.size w w' := by
  refine calls_of_wp Tryz.func11 rfl ?_
  apply wp_seq_k; intro K0 hK0
  apply wp_region_lit
  refine Great.wpList_runTo rfl (some 0) rfl (.pointer (some ⟨w.heap.size, 0, none⟩)) (w.alloc (.cells zeroS 42)) (by as_aux_lemma => kernel_rfl) ?_
  apply wpList_nil
  refine hK0 _ _ ?_
  clear hK0
  apply wp_seq_k; intro K1 hK1
  apply wp_region_lit
  refine Go.wpList_buildTo rfl 41 _ rfl (some 1) rfl #[.string ⟨#[97, 100, 100]⟩, .string ⟨#[116]⟩] (by as_aux_lemma => kernel_rfl) ?_
  refine Go.wpList_buildTo rfl 41 _ rfl (some 2) rfl #[.string ⟨#[100, 101, 108, 101, 116, 101]⟩, .string ⟨#[110]⟩] (by as_aux_lemma => kernel_rfl) ?_
  refine Go.wpList_buildTo rfl 41 _ rfl (some 3) rfl #[.string ⟨#[103, 101, 116]⟩, .string ⟨#[110]⟩] (by as_aux_lemma => kernel_rfl) ?_
  refine Go.wpList_buildTo rfl 41 _ rfl (some 4) rfl #[.string ⟨#[99, 111, 117, 110, 116]⟩, .string ⟨#[116]⟩] (by as_aux_lemma => kernel_rfl) ?_
  refine Go.wpList_buildTo rfl 41 _ rfl (some 5) rfl #[.string ⟨#[108, 111, 99, 97, 116, 101]⟩, .string ⟨#[116, 110]⟩] (by as_aux_lemma => kernel_rfl) ?_
  refine Go.wpList_buildTo rfl 41 _ rfl (some 6) rfl #[.string ⟨#[105, 100, 115]⟩, .string ⟨#[]⟩] (by as_aux_lemma => kernel_rfl) ?_
  refine Go.wpList_buildTo rfl 41 _ rfl (some 7) rfl #[.string ⟨#[115, 121, 110, 99]⟩, .string ⟨#[]⟩] (by as_aux_lemma => kernel_rfl) ?_
  refine Go.wpList_buildTo rfl 41 _ rfl (some 8) rfl #[.string ⟨#[102, 108, 117, 115, 104]⟩, .string ⟨#[]⟩] (by as_aux_lemma => kernel_rfl) ?_
  refine Go.wpList_buildTo rfl 41 _ rfl (some 9) rfl #[.string ⟨#[115, 116, 101, 112]⟩, .string ⟨#[]⟩] (by as_aux_lemma => kernel_rfl) ?_
  refine Go.wpList_buildTo rfl 41 _ rfl (some 10) rfl #[.string ⟨#[114, 101, 115, 116]⟩, .string ⟨#[110]⟩] (by as_aux_lemma => kernel_rfl) ?_
  refine Go.wpList_buildTo rfl 41 _ rfl (some 11) rfl #[.string ⟨#[115, 116, 97, 116, 115]⟩, .string ⟨#[]⟩] (by as_aux_lemma => kernel_rfl) ?_
  refine Go.wpList_buildTo rfl 41 _ rfl (some 12) rfl #[.string ⟨#[102, 105, 110, 100]⟩, .string ⟨#[113]⟩] (by as_aux_lemma => kernel_rfl) ?_
  refine Go.wpList_buildTo rfl 41 _ rfl (some 13) rfl #[.string ⟨#[108, 105, 110, 101, 115]⟩, .string ⟨#[116, 110, 110, 110]⟩] (by as_aux_lemma => kernel_rfl) ?_
  refine Go.wpList_buildTo rfl 41 _ rfl (some 14) rfl #[.string ⟨#[115, 116, 111, 112]⟩, .string ⟨#[110]⟩] (by as_aux_lemma => kernel_rfl) ?_
  refine Go.wpList_buildTo rfl 41 _ rfl (some 15) rfl #[.string ⟨#[99, 114, 97, 115, 104]⟩, .string ⟨#[110, 110]⟩] (by as_aux_lemma => kernel_rfl) ?_
  refine Go.wpList_buildTo rfl 41 _ rfl (some 16) rfl #[.string ⟨#[99, 104, 101, 99, 107]⟩, .string ⟨#[]⟩] (by as_aux_lemma => kernel_rfl) ?_
  refine Go.wpList_buildTo rfl 41 _ rfl (some 17) rfl #[.string ⟨#[102, 105, 108, 101, 115]⟩, .string ⟨#[]⟩] (by as_aux_lemma => kernel_rfl) ?_
  refine Go.wpList_buildTo rfl 42 _ rfl (some 18) rfl shA (by as_aux_lemma => kernel_rfl) ?_
  refine Go.wpList_store_rowTo rfl 42 _ _ rfl rfl w.heap.size shA (by as_aux_lemma => kernel_rfl) (by as_aux_lemma => kernel_rfl) 42 zeroS (World.alloc_heap_new _ _) (by as_aux_lemma => kernel_rfl) (by as_aux_lemma => kernel_rfl) (by as_aux_lemma => kernel_rfl) ?_
  apply wpList_nil
  refine hK1 _ _ ?_
  clear hK1
  refine wp_ret ?_
  refine bodyPost_ret (v := shV) ?_ ?_ ?_
  · exact results_cell_row (p := 0) (by as_aux_lemma => kernel_rfl) _ _ w.heap.size 42 shA (0, 0) _ (by as_aux_lemma => kernel_rfl) (setRow_heap _ _ zeroS _ _ _ (World.alloc_heap_new _ _)) Tryz.underlying42 rfl (by as_aux_lemma => kernel_rfl)
  · as_aux_lemma => kernel_rfl
  · exact ⟨rfl, below_setRowS ((Below.refl _ _).alloc (Nat.le_refl _) _) (Nat.le_refl _) _⟩
theorem enc_at (l : List (List UInt8 × List UInt8)) : ∀ k, k < l.length → (l.flatMap encS)[2 * k]? = some (.string (uS (l.getD k ([], [])).1)) ∧ (l.flatMap encS)[2 * k + 1]? = some (.string (uS (l.getD k ([], [])).2)) := by
  induction l with
  | nil => intro k hk; simp at hk
  | cons v l ih =>
    intro k hk
    have e : (v :: l).flatMap encS = .string (uS v.1) :: .string (uS v.2) :: l.flatMap encS := rfl
    rw [e]
    cases k with
    | zero => exact ⟨rfl, rfl⟩
    | succ k =>
      have h := ih k (by simpa using hk)
      rw [show 2 * (k + 1) = 2 * k + 1 + 1 by omega]
      simpa using h
theorem shA_at (k : Nat) (hk : k < 18) : shA[2 * k]? = some (.string (uS (shL.getD k ([], [])).1)) ∧ shA[2 * k + 1]? = some (.string (uS (shL.getD k ([], [])).2)) := by
  have h := enc_at shL k hk
  unfold shA
  rw [List.getElem?_toArray, List.getElem?_toArray]
  exact h
attribute [irreducible] shA zeroS

def wordP (word : List UInt8) (x : List UInt8 × List UInt8) : Bool := decide (x.1 = word)
/-- the kind of a word; 0: there is none -/
def kindI (word : List UInt8) : Int := Lib.idxBy (fun _ y => wordP word y) ((shL.drop 1).take 17) default + 1
set_option maxRecDepth 100000 in
theorem isWord_any (w W : World) (bw : Nat) (word : List UInt8) (hw : W.cell? ⟨bw, 0, none⟩ = some (.string (uS word))) (x : List UInt8 × List UInt8) :
    Calls Tryz.prog 21 (#[.agg (encS x).toArray] ++ #[.pointer (some ⟨bw, 0, none⟩)]) W fun e w' => e = .returned (.bool (wordP word x)) ∧ Below W.heap.size W w' := by
  obtain ⟨x1, x2⟩ := x
  have he := uS_eq x1 word
  have HB : Hid (Below W.heap.size W (W.alloc (.cells #[.string (uS x1), .string (uS x2)] 41))) := (Below.refl _ _).alloc (Nat.le_refl _) _
  have hbw := World.block_lt_of_cell? W _ hw
  have c1 : (W.alloc (.cells #[.string (uS x1), .string (uS x2)] 41)).cell? ⟨bw, 0, none⟩ = some (.string (uS word)) := (HB.out.cell (p := ⟨bw, 0, none⟩) hbw).trans hw
  have hwp : wordP word (x1, x2) = decide (x1 = word) := rfl
  rw [hwp]
  have e0 : #[Value.agg (encS (x1, x2)).toArray] ++ #[Value.pointer (some ⟨bw, 0, none⟩)] = #[.agg #[.string (uS x1), .string (uS x2)], .pointer (some ⟨bw, 0, none⟩)] := rfl
  rw [e0]
  clear e0 hwp
  generalize decide (x1 = word) = bb at *
  go_enter Tryz.func21, Tryz.ntmps21
  go_wp2
  go_ret
  exact ⟨rfl, HB.out⟩
theorem find_any (w : World) (b bw : Nat) (word : List UInt8) (hb : w.heap[b]? = some (.cells shA 42 (0, 0))) (hw : w.cell? ⟨bw, 0, none⟩ = some (.string (uS word))) :
    Calls Tryz.prog 20 #[.slice (some ⟨b, 2, none⟩) 17 17, .func (.func 21) #[] #[.pointer (some ⟨bw, 0, none⟩)]] w fun e w' => e = .returned (.int .i64 (kindI word - 1)) ∧ Below w.heap.size w w' := by
  have hbl := (Array.getElem?_eq_some_iff.1 hb).1
  have h := AnyQ.slices_IndexFunc Tryz.cmFind 2 (by intro W; kernel_rfl) (by intro W; kernel_rfl) encS (fun _ => rfl) (wordP word) 21 #[.pointer (some ⟨bw, 0, none⟩)] (enters_of Tryz.func21 (by kernel_rfl) rfl) b 2 17 17 (shL.drop 1) w
    (fun W x hW => (isWord_any w W bw word ((hW.cell (World.block_lt_of_cell? w _ hw)).trans hw) x).mono fun e w' ⟨h1, h2⟩ => ⟨h1, hW.trans (h2.mono hW.size)⟩)
    (by decide) (by omega) hbl ?_
  · refine h.mono fun e w' ⟨h1, h2⟩ => ⟨?_, h2⟩
    rw [h1]; unfold kindI; rw [Int.add_sub_cancel]
  · intro j hj i v hi
    rw [cell_of_row w b _ shA _ _ hb]
    have hj' : j < 17 := hj
    have hi' : i < 2 := by have := (List.getElem?_eq_some_iff.1 hi).1; exact this
    have hd : (shL.drop 1)[j]! = shL.getD (j + 1) ([], []) := by
      rw [List.getElem!_eq_getElem?_getD, List.getElem?_drop, List.getD_eq_getElem?_getD, Nat.add_comm]; rfl
    rw [hd] at hi
    have h2 := shA_at (j + 1) (by omega)
    rcases Nat.lt_or_ge i 1 with h | h
    · obtain rfl : i = 0 := by omega
      rw [show 2 + j * 2 + 0 = 2 * (j + 1) by omega, h2.1]; exact hi
    · obtain rfl : i = 1 := by omega
      rw [show 2 + j * 2 + 1 = 2 * (j + 1) + 1 by omega, h2.2]; exact hi
theorem kind_rest : kindI [114, 101, 115, 116] = 10 := by decide
theorem kind_locate : kindI [108, 111, 99, 97, 116, 101] = 5 := by decide
end Go.Proofs.YtdcobmoeligdkaaGreatDoor
