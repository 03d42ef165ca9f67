/-
  A disk's state behind a loss of power keeps to what a disk's state keeps to.
  Files that a set lacks are struck out of a row of them.
-/
import Derived.Test.YtelndbjjkhlacaaDkVisit
import Derived.Shelf.SlicesE.DeleteFunc
import Derived.Lib.OwnBridge
namespace Go.Proofs.Ytelndbjjkhlacaa
open Go.RowKit Go.Maps

theorem NamesOk.lead {D : DT} {F : List Nat} (h : NamesOk D F) (hT : Tidy D) (t : Turn) (ht : ∀ f, t.f = some f → f ∈ F) (hk : t.k = 0 → t.f ≠ none) : NamesOk (leadD D t) F := by
  unfold leadD
  split
  · next h0 =>
    cases hf : t.f with
    | none => exact absurd hf (hk h0)
    | some f => exact h.put hT.isMap t.a (ht f hf)
  split
  · split
    · next f hf => exact (h.del _).put (hT.del _).isMap _ (h.file hf)
    · exact h
  split
  · exact h.del _
  · exact h
theorem now_props (F : List Nat) : ∀ (ts : List Turn) (bs : List Bool) (D : DT), Tidy D → NamesOk D F → (∀ t ∈ ts, ∀ f, t.f = some f → f ∈ F) → (∀ t ∈ ts, t.k = 0 → t.f ≠ none) →
    Tidy (nowD D ts bs) ∧ NamesOk (nowD D ts bs) F ∧ size (nowD D ts bs) ≤ size D + ts.length
  | [], bs, D, hT, hN, _, _ => by rw [nowD_nil]; exact ⟨hT, hN, Nat.le_refl _⟩
  | t :: ts, [], D, hT, hN, h1, h2 => by
    obtain ⟨k1, k2, k3⟩ := now_props F ts [] (leadD D t) (tidy_lead hT t) (hN.lead hT t (h1 t (.head _)) (h2 t (.head _))) (fun u hu => h1 u (.tail _ hu)) (fun u hu => h2 u (.tail _ hu))
    have := size_lead hT t
    exact ⟨k1, k2, by show size (nowD (leadD D t) ts []) ≤ _; simp only [List.length_cons]; omega⟩
  | t :: ts, b :: bs, D, hT, hN, h1, h2 => by
    have hs := size_lead hT t
    cases b with
    | true =>
      obtain ⟨k1, k2, k3⟩ := now_props F ts bs (leadD D t) (tidy_lead hT t) (hN.lead hT t (h1 t (.head _)) (h2 t (.head _))) (fun u hu => h1 u (.tail _ hu)) (fun u hu => h2 u (.tail _ hu))
      exact ⟨k1, k2, by show size (nowD (leadD D t) ts bs) ≤ _; simp only [List.length_cons]; omega⟩
    | false =>
      obtain ⟨k1, k2, k3⟩ := now_props F ts bs D hT hN (fun u hu => h1 u (.tail _ hu)) (fun u hu => h2 u (.tail _ hu))
      exact ⟨k1, k2, by show size (nowD D ts bs) ≤ _; simp only [List.length_cons]; omega⟩
theorem inD_at {D : DT} (hc : Canon D) {k : Lit} {f : Nat} (hh : has D k = true) (ha : ∀ z, D.atKey k z = enc f) : inD D f = true := by
  have hT : Tidy D := by obtain ⟨es, rfl, hs, hk⟩ := hc; exact ⟨es, rfl, apart_of_rising hs⟩
  have hK : ∀ es, D = .map es → ∀ p ∈ es, WideAt.IsKeyLit p.1 := by
    obtain ⟨es, rfl, hs, hk⟩ := hc
    intro es' e p hp
    cases e
    exact hk p hp
  exact (inD_iff hT hK f).2 ⟨k, hh, by rw [ha, decF_enc]⟩
theorem NamesOk.only {D : DT} {F : List Nat} (h : NamesOk D F) (hc : Canon D) : NamesOk D (F.filter (inD D)) := fun k hk => by
  obtain ⟨f, hf, ha⟩ := h k hk
  exact ⟨f, List.mem_filter.2 ⟨hf, inD_at hc hk ha⟩, ha⟩
theorem crash_len (S : DSt) (h : DOk S) (fs : List Int) {f : Nat} (hf : f ∈ S.files) (l : List Nat) : ∃ k, S.fl f ≤ k ∧ k ≤ (S.fb f).length ∧ truncL S.fl l fs S.fb f = (S.fb f).take k := truncL_pre S.fl l fs S.fb f (h.lasts f hf)
theorem crash_ok {S : DSt} (h : DOk S) (fs : List Int) (bs : List Bool) (hT : Tidy S.last) (hc : Canon (nowD S.last S.turns bs)) : DOk (crashS S fs bs) := by
  obtain ⟨k1, k2, k3⟩ := now_props S.files S.turns bs S.last hT h.last h.turns h.tkind
  have hn := k2.only hc
  have hsub : ∀ f, f ∈ S.files.filter (inD (nowD S.last S.turns bs)) → f ∈ S.files ∧ inD (nowD S.last S.turns bs) f = true := fun f hf => List.mem_filter.1 hf
  have hfew := h.few
  have hlen : (S.files.filter (inD (nowD S.last S.turns bs))).length ≤ S.files.length := List.length_filter_le _ _
  refine ⟨h.nodup.filter _, hn, hn, fun t ht => (by cases ht), ?_, ?_, ?_, fun t ht => (by cases ht), fun t ht => (by cases ht), ⟨?_, ?_, ?_⟩, ?_⟩
  · intro f hf
    obtain ⟨h1, h2⟩ := hsub f hf
    obtain ⟨k, a, b, e⟩ := crash_len S h fs h1 (S.files.filter (openB S))
    show (truncL S.fl (S.files.filter (openB S)) fs S.fb f).length ≤ _
    rw [e, List.length_take]
    have := h.long f h1
    omega
  · intro f hf
    obtain ⟨h1, h2⟩ := hsub f hf
    show (if inD (nowD S.last S.turns bs) f = true then (truncL S.fl (S.files.filter (openB S)) fs S.fb f).length else S.fl f) ≤ (truncL S.fl (S.files.filter (openB S)) fs S.fb f).length
    rw [if_pos h2]
    exact Nat.le_refl _
  · intro f hf c hm
    obtain ⟨h1, h2⟩ := hsub f hf
    obtain ⟨k, a, b, e⟩ := crash_len S h fs h1 (S.files.filter (openB S))
    change c ∈ truncL S.fl (S.files.filter (openB S)) fs S.fb f at hm
    rw [e] at hm
    exact h.byte f h1 c (List.mem_of_mem_take hm)
  · show ((S.files.filter (inD (nowD S.last S.turns bs))).length : Int) ≤ S.calls
    omega
  · show (size (nowD S.last S.turns bs) : Int) ≤ S.calls
    omega
  · show ((size (nowD S.last S.turns bs) + ([] : List Turn).length : Nat) : Int) ≤ S.calls
    simp only [List.length_nil, Nat.add_zero]
    omega
  · exact ⟨h.nums.1, h.nums.2.1, h.nums.2.2.1, h.nums.2.2.2.1, Int.le_refl (-1), (by omega : (-1 : Int) ≤ 1000000), Int.le_refl 0, (by omega : (0 : Int) ≤ 1000000)⟩
/-- a slice that is cut shorter, in its own row -/
theorem owns_cut {w : World} {B : Nat} {e : TypeId} {a : Option Addr} {n c : Nat} {xs : List Value} (h : w.ownsRow B e 1 (.slice a n c) n xs) (k : Nat) (hk : k ≤ n) : w.ownsRow B e 1 (.slice a k c) k (xs.take k) := by
  obtain ⟨h1, h2⟩ := h
  refine ⟨by rw [List.length_take]; omega, ?_⟩
  rcases h2 with ⟨h3, h4⟩ | ⟨g, cap, cur, h3, h4, h5, h6, h7, h8, h9⟩
  · injection h3 with e1 e2 e3
    exact .inl ⟨by rw [e1, e3, show k = 0 by omega], by omega⟩
  · injection h3 with e1 e2 e3
    subst e1 e3
    refine .inr ⟨g, _, cur, rfl, h4, h5, by omega, h7, h8, ?_⟩
    rw [← h9, List.take_take]
    congr 1
    omega
end Go.Proofs.Ytelndbjjkhlacaa
namespace Go.Proofs.Ytelndbjjkhlacaa
open Go.RowKit Go.Maps Go.Shelf

def inO (l : List Nat) : Option Nat → Bool
  | some f => decide (f ∈ l)
  | none => false
theorem not_bool : ∀ (x : Bool) (w : World), (Op.unary .not (.bool x)).run Try.prog w = .ok (.bool (!x)) w := fun _ _ => rfl
set_option maxRecDepth 100000 in
theorem crash1_any (W : World) (bx b : Nat) (l : List Nat) (hx : W.cell? ⟨bx, 0, none⟩ = some (.map (some b))) (hs : PSet W b l) (hl : ∀ y ∈ l, CellB W y) (x : Option Nat) (hc : ∀ f, x = some f → CellB W f) :
    Calls Try.prog 45 (#[pF x] ++ #[.pointer (some ⟨bx, 0, none⟩)]) W fun e w' => e = .returned (.bool (!inO l x)) ∧ ∃ q, w' = W.drewN q := by
  have hlk : (Instr.lookup 77 (.map (some b)) (pF x) false).run Try.prog W = .ok (.bool (inO l x)) W := by
    cases x with
    | none => exact hs.look_nil W Try.underlying77 Try.underlying62 (zeroBool W)
    | some f => exact set_look W hs hl (hc f rfl)
  have hnot := not_bool
  generalize inO l x = t at *
  generalize pF x = v at *
  clear hs hl hc
  go_enter Try.func45, Try.ntmps45
  go_wp2
  go_ret
  exact ⟨rfl, 0, rfl⟩
def encO (F : List Nat) (x : Option {f // f ∈ F}) : Value := pF (x.map (·.1))
theorem gb_putRow {α : Type} [Inhabited α] (enc : α → Value) (W : World) (g q : Nat) (d : Array α) : W.grownBy (Sort.putRow enc (Sort.ahead W q) g 0 d) (some g) :=
  ⟨rfl, rfl, rfl, by simp [Sort.putRow, Sort.mapBlock, Sort.ahead], fun b _ hn => by
    have : g ≠ b := fun e => hn (by rw [e])
    simp [Sort.putRow, Sort.mapBlock, Sort.ahead, Array.getElem?_modify, this]⟩
theorem gb_sortWorld {α : Type} [Inhabited α] (enc : α → Value) (W : World) (g n : Nat) (d : Array α) (os : Array Obj) : W.grownBy (sortWorld enc W g 0 n d os) (some g) := by
  have h := gb_putRow enc W g n d
  refine ⟨h.os, h.tape, h.output, ?_, fun b hb hn => ?_⟩
  · have := h.size
    unfold sortWorld Sort.grow
    simp only [Array.size_append]
    omega
  · have hs := h.size
    rw [← h.block b hb hn]
    unfold sortWorld Sort.grow
    exact Array.getElem?_append_left (by omega)
theorem filter_attach (F l : List Nat) : ((F.attach.map some).filter fun x : Option {f // f ∈ F} => !(fun y => !inO l (y.map (·.1))) x).map (encO F) = (F.filter fun f => decide (f ∈ l)).map ptrB := by
  have h : ∀ (G : List {f // f ∈ F}), ((G.map some).filter fun x : Option {f // f ∈ F} => !(fun y => !inO l (y.map (·.1))) x).map (encO F) = ((G.map (·.1)).filter fun f => decide (f ∈ l)).map ptrB := by
    intro G
    induction G with
    | nil => rfl
    | cons x G ih =>
      simp only [List.map_cons, List.filter_cons, Option.map_some, inO, Bool.not_not] at ih ⊢
      by_cases hm : x.1 ∈ l
      · simp only [hm, decide_true, if_true, List.map_cons]
        rw [ih]
        rfl
      · simp only [hm, decide_false, Bool.false_eq_true, if_false]
        exact ih
  rw [h, List.attach_map_subtype_val]
def DelPost (W : World) (B : Nat) (vf : Value) (F l : List Nat) (e : Ending) (w' : World) : Prop :=
  ∃ g cap, vf = .slice (some ⟨g, 0, none⟩) F.length cap ∧ e = .returned (.slice (some ⟨g, 0, none⟩) (F.filter fun f => decide (f ∈ l)).length cap) ∧
    w'.ownsRow B 62 1 (.slice (some ⟨g, 0, none⟩) (F.filter fun f => decide (f ∈ l)).length cap) (F.filter fun f => decide (f ∈ l)).length ((F.filter fun f => decide (f ∈ l)).map ptrB) ∧ W.grownBy w' (some g)
set_option maxRecDepth 100000 in
set_option maxHeartbeats 1000000 in
theorem del_any (B : Nat) (W : World) (F l : List Nat) (hne : 0 < F.length) (hlen : F.length ≤ 100000) (vf : Value) (hown : W.ownsRow B 62 1 vf F.length (F.map ptrB)) (bx b : Nat) (hx : W.cell? ⟨bx, 0, none⟩ = some (.map (some b))) (hs : PSet W b l)
    (hl : ∀ y ∈ l, CellB W y) (hF : ∀ f ∈ F, CellB W f) (hap : ∀ g, vf.ownBlock = some g → g ≠ bx ∧ g ≠ b ∧ (∀ f ∈ F, g ≠ f) ∧ ∀ y ∈ l, g ≠ y) :
    Calls Try.prog 44 #[vf, .func (.func 45) #[] #[.pointer (some ⟨bx, 0, none⟩)]] W (DelPost W B vf F l) := by
  have hmap : (F.attach.map some).map (encO F) = F.map ptrB := by
    rw [List.map_map]
    have : (encO F ∘ some) = (fun f => ptrB f) ∘ (fun x : {f // f ∈ F} => x.1) := rfl
    rw [this, ← List.map_map, List.attach_map_subtype_val]
  have hown2 : W.ownsRow B 62 1 vf F.length ((F.attach.map some).map (encO F)) := by rw [hmap]; exact hown
  obtain ⟨g, cap, rfl, hB, hg, hcap, hmx, hzl, hold⟩ := Lib.holds_of_ownsRow hown2 (fun e => by
    rcases hown.2 with ⟨_, h⟩ | ⟨g, c, cur, rfl, _⟩
    · omega
    · cases e)
  obtain ⟨h1, h2, h3, h4⟩ := hap g rfl
  have hbx := World.block_lt_of_cell? W _ hx
  simp only at hbx
  have hgives : ∀ (W' : World) (x : Option {f // f ∈ F}), (W'.cell? ⟨bx, 0, none⟩ = some (.map (some b))) → PSet W' b l → (∀ y ∈ l, CellB W' y) → (∀ f ∈ F, CellB W' f) → FnGives Try.prog 45 #[.pointer (some ⟨bx, 0, none⟩)] #[encO F x] (.bool ((fun y : Option {f // f ∈ F} => !inO l (y.map (·.1))) x)) W' := fun W' x k1 k2 k3 k4 =>
    (crash1_any W' bx b l k1 k2 k3 (x.map (fun y : {f // f ∈ F} => y.1)) (fun f hf => by
      cases x with
      | none => cases hf
      | some y => exact k4 f (by cases hf; exact y.2)))
  have hp : PredAt Try.prog 45 #[.pointer (some ⟨bx, 0, none⟩)] (encO F) (fun y : Option {f // f ∈ F} => !inO l (y.map (·.1))) W := fun W' x hb =>
    hgives W' x ((hb.cell (p := ⟨bx, 0, none⟩) hbx).trans hx) (hs.of_block (hb.block b hs.lt)) (fun y hy => by obtain ⟨c, t, h⟩ := hl y hy; exact ⟨c, t, (hb.block y (Array.getElem?_eq_some_iff.1 h).1).trans h⟩) (fun y hy => by obtain ⟨c, t, h⟩ := hF y hy; exact ⟨c, t, (hb.block y (Array.getElem?_eq_some_iff.1 h).1).trans h⟩)
  have hpo : PredOver Try.prog 45 #[.pointer (some ⟨bx, 0, none⟩)] (encO F) (fun y : Option {f // f ∈ F} => !inO l (y.map (·.1))) g 0 (F.attach.map some).toArray.size W := fun n os dk x _ => by
    have hgb := gb_sortWorld (encO F) W g n dk os
    have hk : ∀ k, k < W.heap.size → g ≠ k → (sortWorld (encO F) W g 0 n dk os).heap[k]? = W.heap[k]? := fun k hk hn => hgb.block k hk (fun e => hn (Option.some.inj e).symm)
    refine hgives _ x ((World.cell?_of_block (a := ⟨bx, 0, none⟩) (hk bx hbx h1)).trans hx) (hs.of_block (hk b hs.lt h2)) (fun y hy => ?_) (fun y hy => ?_)
    · obtain ⟨c, t, h⟩ := hl y hy; exact ⟨c, t, (hk y (Array.getElem?_eq_some_iff.1 h).1 (h4 y hy)).trans h⟩
    · obtain ⟨c, t, h⟩ := hF y hy; exact ⟨c, t, (hk y (Array.getElem?_eq_some_iff.1 h).1 (h3 y hy)).trans h⟩
  have hO : OneCell (encO F) := by
    intro x
    cases x <;> rfl
  have hsz : (F.attach.map some).toArray.size = F.length := by simp
  have hcon := AnyE.slices_DeleteFunc Try.delFunc (encO F) hO (fun y : Option {f // f ∈ F} => !inO l (y.map (·.1))) 45 #[.pointer (some ⟨bx, 0, none⟩)] (enters_of Try.func45 (by kernel_rfl) rfl) none (fun w => zeroF w) g 0 cap (F.attach.map some).toArray W hp hpo hold (by rw [hsz]; omega) (by rw [hsz]; exact hcap)
  rw [hsz] at hcon
  change Calls Try.prog 44 _ _ _ at hcon
  have hkl : (((F.attach.map some).toArray.toList.filter fun x => !(fun y : Option {f // f ∈ F} => !inO l (y.map (·.1))) x)).length = (F.filter fun f => decide (f ∈ l)).length := by
    have := congrArg List.length (filter_attach F l)
    simpa using this
  refine hcon.mono ?_
  rintro e w' ⟨rfl, q, rfl⟩
  rw [hkl]
  have hfl : (F.filter fun f => decide (f ∈ l)).length ≤ F.length := List.length_filter_le _ _
  refine ⟨g, cap, rfl, rfl, ?_, gb_putRow _ _ _ _ _⟩
  have hup := Lib.ownsRow_putRow (k := (F.filter fun f => decide (f ∈ l)).length) (q := q) hown2 (ys := ((F.attach.map some).toArray.toList.filter fun x => !(fun y : Option {f // f ∈ F} => !inO l (y.map (·.1))) x) ++ List.replicate (F.length - (F.filter fun f => decide (f ∈ l)).length) none) (by rw [List.length_append, hkl, List.length_replicate]; omega) hfl
  rw [List.take_append_of_le_length (by rw [hkl]; exact Nat.le_refl _), List.take_of_length_le (by rw [hkl]; exact Nat.le_refl _), List.toList_toArray, filter_attach] at hup
  simpa using hup
end Go.Proofs.Ytelndbjjkhlacaa
