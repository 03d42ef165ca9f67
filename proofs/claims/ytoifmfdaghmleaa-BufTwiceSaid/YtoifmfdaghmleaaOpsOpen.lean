/-
  Arguments opened: a script that came in, a row of structs of three numbers and a text.
-/
import Derived.Lib.SmallJoins
import Derived.Deep.Slices
import Derived.Test.YtoifmfdaghmleaaRowOpen
namespace Go.Proofs.Ytoifmfdaghmleaa
open Go.Joins Go.ChangeShapes Go.WideShapes Go.ChangeAt Go.RowKit Go.Deep

/-- a call: its kind, a number, another one, a text -/
abbrev OpV := Int × Int × Int × ByteArray
structure OpsAt (w : World) (a : Option Addr) (n : Nat) (O : Nat → OpV) : Prop where
  at_ : n = 0 ∨ a = some ⟨bOf a, oOf a, none⟩
  c0 : ∀ k, k < n → w.cell? ⟨bOf a, oOf a + k * 4, none⟩ = some (.int .i64 (O k).1)
  c1 : ∀ k, k < n → w.cell? ⟨bOf a, oOf a + k * 4 + 1, none⟩ = some (.int .i64 (O k).2.1)
  c2 : ∀ k, k < n → w.cell? ⟨bOf a, oOf a + k * 4 + 2, none⟩ = some (.int .i64 (O k).2.2.1)
  c3 : ∀ k, k < n → w.cell? ⟨bOf a, oOf a + k * 4 + 3, none⟩ = some (.string (O k).2.2.2)
  wf : ∀ k, k < n → (Lit.int .i64 (O k).1).wf = true ∧ (Lit.int .i64 (O k).2.1).wf = true ∧ (Lit.int .i64 (O k).2.2.1).wf = true ∧ (O k).2.2.2.size ≤ maxLen
theorem cell_kept {w w' : World} {b o : Nat} {v : Value} (hb : Below w.heap.size w w') (h : w.cell? ⟨b, o, none⟩ = some v) : w'.cell? ⟨b, o, none⟩ = some v :=
  (World.cell?_of_block (a := ⟨b, o, none⟩) (hb.block _ (World.block_lt_of_cell? w _ h))).trans h
theorem OpsAt.kept {w w' : World} {a : Option Addr} {n : Nat} {O : Nat → OpV} (h : OpsAt w a n O) (hb : Below w.heap.size w w') : OpsAt w' a n O :=
  ⟨h.at_, fun k hk => cell_kept hb (h.c0 k hk), fun k hk => cell_kept hb (h.c1 k hk), fun k hk => cell_kept hb (h.c2 k hk), fun k hk => cell_kept hb (h.c3 k hk), h.wf⟩
theorem run_ixN {P : Program} (t : TypeId) (m : Nat) (hu : P.underlying t = some (.slice (P.elem t))) (hsz : ∀ w, (sizeOf (P.elem t)).run P w = .ok m w) (a : Option Addr) (n cap : Nat) (h : n = 0 ∨ a = some ⟨bOf a, oOf a, none⟩) :
    ∀ (w : World) (k : Nat), k < n → (Instr.indexAt t (.slice a n cap) (.int .i64 (k : Int))).run P w = .ok (.pointer (some ⟨bOf a, oOf a + k * m, none⟩)) w := by
  intro w k hk
  rcases h with e | e
  · omega
  · rw [e, run_indexAt_slice _ _ _ _ _ _ _ hu, if_pos (by omega), hsz]
    simp [bOf, oOf, Addr.add]
section
variable {H : Type} {enc : TypeId × Value → H} {P : Program} {w : World} {base : Nat} {held : Bool}
theorem open_ops {t e : TypeId} {f0 f1 f2 f3 : Field} {r : Reach} {b0 : Nat} {v : Value} {d : DataW H} {p : List MemPlace} (ht : P.underlying t = some (.slice e)) (he : P.underlying e = some (.struct #[f0, f1, f2, f3])) (hone : oneCellFields P #[f0, f1, f2, f3] = true) (hC : P.cellsOf e = 4)
    (k0 : P.underlying f0.type = some (.int .i64)) (k1 : P.underlying f1.type = some (.int .i64)) (k2 : P.underlying f2.type = some (.int .i64)) (k3 : P.underlying f3.type = some .string)
    (hv : Value.okWide P w r b0 t v) (h : DataW.Trod enc P w base (fun _ => true) held t v d p) :
    ∃ (a : Option Addr) (len cap : Nat) (O : Nat → OpV), v = .slice a len cap ∧ len ≤ maxLen ∧ OpsAt w a len O := by
  obtain ⟨a0, len, cap, rfl⟩ := okWide_slice ht hv
  obtain ⟨fuel, hf⟩ := h
  rcases open_slice ht hf with ⟨hcs, _⟩ | ⟨a, l, c, m, q, D, Pl, hcs, _, hl, hm, hmm, _, hel⟩
  · simp [Value.cells] at hcs
    obtain ⟨rfl, rfl, rfl⟩ := hcs
    exact ⟨none, 0, 0, fun _ => (0, 0, 0, ByteArray.empty), rfl, Nat.zero_le _, ⟨.inl rfl, fun k hk => by omega, fun k hk => by omega, fun k hk => by omega, fun k hk => by omega, fun k hk => by omega⟩⟩
  · simp [Value.cells] at hcs
    obtain ⟨rfl, rfl, rfl⟩ := hcs
    simp only [if_true] at hmm
    obtain ⟨o0, z0⟩ := hone_of hone 0 f0 rfl
    obtain ⟨o1, z1⟩ := hone_of hone 1 f1 rfl
    obtain ⟨o2, z2⟩ := hone_of hone 2 f2 rfl
    obtain ⟨o3, z3⟩ := hone_of hone 3 f3 rfl
    have each : ∀ i, i < len → ∃ o : OpV, w.cell? (a.add (i * 4)) = some (.int .i64 o.1) ∧ w.cell? (a.add (i * 4 + 1)) = some (.int .i64 o.2.1) ∧ w.cell? (a.add (i * 4 + 2)) = some (.int .i64 o.2.2.1) ∧ w.cell? (a.add (i * 4 + 3)) = some (.string o.2.2.2) ∧
        ((Lit.int .i64 o.1).wf = true ∧ (Lit.int .i64 o.2.1).wf = true ∧ (Lit.int .i64 o.2.2.1).wf = true ∧ o.2.2.2.size ≤ maxLen) := fun i hi => by
      obtain ⟨cs', h1, h2⟩ := hel i (by omega)
      rw [hC] at h1
      obtain ⟨_, hlen, hcell⟩ := World.cells?_some h1
      obtain ⟨y0, y1, y2, y3, n, _, _, t0, t1, t2, t3⟩ := trod_struct4 he h2
      match cs', hlen with
      | [u0, u1, u2, u3], _ =>
        rw [o0, z0] at t0
        rw [o1, z1] at t1
        rw [o2, z2] at t2
        rw [o3, z3] at t3
        obtain ⟨n0, e0, _, w0⟩ := DataW.trod_int k0 t0
        obtain ⟨n1, e1, _, w1⟩ := DataW.trod_int k1 t1
        obtain ⟨n2, e2, _, w2⟩ := DataW.trod_int k2 t2
        obtain ⟨s3, e3, _, w3⟩ := DataW.trod_string k3 t3
        simp at e0 e1 e2 e3
        subst e0 e1 e2 e3
        have hadd : ∀ j, (a.add (i * 4)).add j = a.add (i * 4 + j) := fun j => Addr.add_add a (i * 4) j
        have q0 := hcell 0 (by omega)
        have q1 := hcell 1 (by omega)
        have q2 := hcell 2 (by omega)
        have q3 := hcell 3 (by omega)
        rw [hadd] at q0 q1 q2 q3
        exact ⟨(n0, n1, n2, s3), by simpa using q0, by simpa using q1, by simpa using q2, by simpa using q3, w0, w1, w2, w3⟩
    haveI : Inhabited OpV := ⟨(0, 0, 0, ByteArray.empty)⟩
    obtain ⟨O, hO⟩ := choose_lt (α := OpV) each
    obtain ⟨b, off, spot⟩ := a
    have ha : len = 0 ∨ (some (⟨b, off, spot⟩ : Addr)) = some ⟨bOf (some ⟨b, off, spot⟩), oOf (some ⟨b, off, spot⟩), none⟩ := by
      rcases Nat.eq_zero_or_pos len with e | e
      · exact .inl e
      · have hc := (hO 0 e).1
        have hspot : spot = none := by simpa [Addr.add] using World.cell?_spot hc
        subst hspot
        exact .inr rfl
    have hs : ∀ k, k < len → spot = none := fun k hk => by
      have hc := (hO 0 (by omega)).1
      simpa [Addr.add] using World.cell?_spot hc
    refine ⟨some ⟨b, off, spot⟩, len, cap, O, rfl, by omega, ⟨ha, fun k hk => ?_, fun k hk => ?_, fun k hk => ?_, fun k hk => ?_, fun k hk => (hO k hk).2.2.2.2⟩⟩
    · obtain rfl := hs k hk
      have q := (hO k hk).1
      rw [Addr.add_lit] at q
      exact q
    · obtain rfl := hs k hk
      have q := (hO k hk).2.1
      rw [Addr.add_lit] at q
      exact q
    · obtain rfl := hs k hk
      have q := (hO k hk).2.2.1
      rw [Addr.add_lit] at q
      exact q
    · obtain rfl := hs k hk
      have q := (hO k hk).2.2.2.1
      rw [Addr.add_lit] at q
      exact q
end
end Go.Proofs.Ytoifmfdaghmleaa
