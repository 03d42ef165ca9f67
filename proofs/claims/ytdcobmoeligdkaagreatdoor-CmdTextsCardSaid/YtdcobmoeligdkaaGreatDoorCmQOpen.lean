/-
  Arguments opened: a command that came in, with its query.
-/
import Derived.Deep.Fields
import Derived.Deep.Slices
import Derived.Test.YtdcobmoeligdkaaGreatDoorRowOpen
import Derived.Test.YtdcobmoeligdkaaGreatDoorCmQTree
namespace Go.Proofs.YtdcobmoeligdkaaGreatDoor
open Go.ChangeShapes Go.WideShapes Go.ChangeAt Go.RowKit Go.Deep

theorem bytes_u8 {w : World} {a1 : Option Addr} {len : Nat} {f : Nat → Int} (hr : Row w a1 len (fun k => .int .u8 (f k)) ∧ ∀ k, k < len → (Lit.int .u8 (f k)).wf = true) :
    ∃ d : List UInt8, d.length = len ∧ Row w a1 d.length (bV d) := by
  obtain ⟨hr, hwf⟩ := hr
  refine ⟨(List.range len).map fun k => UInt8.ofNat (f k).toNat, by simp, ?_⟩
  simp only [List.length_map, List.length_range]
  refine hr.congr fun k hk => ?_
  have := bounds_u8 (hwf k hk)
  have h2 : (f k).toNat < 256 := by omega
  have h3 : (f k).toNat % 256 = (f k).toNat := Nat.mod_eq_of_lt h2
  simp [bV, List.getD_eq_getElem?_getD, hk, h3]; omega
theorem qat_mk {W : World} {G : Nat → Prop} (k : Int) (t : List UInt8) (l : List QT) (a1 : Option Addr) (c1 : Nat) (a2 : Option Addr) (c2 : Nat) (V : Nat → Value) {tn ln : Nat} (ht : t.length = tn) (hl : l.length = ln)
    (h1 : Row W a1 t.length (bV t)) (g1 : t.length = 0 ∨ G (bOf a1)) (m1 : tn ≤ maxLen) (h2 : Row W a2 (ln * 3) V) (g2 : ln = 0 ∨ G (bOf a2)) (m2 : ln ≤ maxLen)
    (hs : ∀ i (h : i < l.length), QAt W G l[i] (V (i * 3)) (V (i * 3 + 1)) (V (i * 3 + 2))) : QAt W G (.node k t l) (.int .i64 k) (.slice a1 tn c1) (.slice a2 ln c2) := by
  subst ht
  subst hl
  exact .mk k t l a1 c1 a2 c2 V h1 g1 m1 h2 g2 m2 hs
section
variable {H : Type} {enc : TypeId × Value → H} {P : Program} {w : World} {base : Nat} {held : Bool}
/-- a slice of bytes that was read -/
theorem open_u8 {t e : TypeId} {fuel : Nat} {cs : List Value} {x : DataW H × List MemPlace} (ht : P.underlying t = some (.slice e)) (he : P.underlying e = some (.int .u8)) (hc : P.cellsOf e = 1)
    (h : DataW.trod enc P w base (fun _ => true) held fuel t cs = some x) : ∃ (a : Option Addr) (cap : Nat) (d : List UInt8), cs = [.slice a d.length cap] ∧ d.length ≤ maxLen ∧ Row w a d.length (bV d) := by
  rcases open_ints ht he hc h with ⟨rfl, _⟩ | ⟨a, l, c, zs, rfl, _, hl, hm, hz, _, hcell, hwz⟩
  · exact ⟨none, 0, [], rfl, Nat.zero_le _, Row.nil _ _ _⟩
  · have hz' : zs.length = c := by simpa using hz
    obtain ⟨d, hd, hr⟩ := bytes_u8 (w := w) (a1 := some a) (len := l) (f := fun k => zs.getD k 0) ⟨row_of_cells fun i hi => hcell i (by omega), fun k hk => hwz _ (by
      show zs.getD k 0 ∈ zs
      rw [List.getD_eq_getElem?_getD, List.getElem?_eq_getElem (by omega)]
      exact List.getElem_mem _)⟩
    exact ⟨some a, c, d, by rw [hd], by omega, hr⟩
theorem open_qt {qT eT : TypeId} {f0 f1 f2 : Field} (hq : P.underlying qT = some (.struct #[f0, f1, f2])) (hone : oneCellFields P #[f0, f1, f2] = true) (hC : P.cellsOf qT = 3) (k0 : P.underlying f0.type = some (.int .i64)) (k1 : P.underlying f1.type = some (.slice eT)) (ke : P.underlying eT = some (.int .u8)) (hce : P.cellsOf eT = 1) (k2 : P.underlying f2.type = some (.slice qT)) :
    ∀ (fuel : Nat) (cs : List Value) (x : DataW H × List MemPlace), DataW.trod enc P w base (fun _ => true) held fuel qT cs = some x → ∃ (q : QT) (u0 u1 u2 : Value), cs = [u0, u1, u2] ∧ QAt w (fun _ => True) q u0 u1 u2 := by
  obtain ⟨o0, z0⟩ := hone_of hone 0 f0 rfl
  obtain ⟨o1, z1⟩ := hone_of hone 1 f1 rfl
  obtain ⟨o2, z2⟩ := hone_of hone 2 f2 rfl
  intro fuel
  induction fuel using Nat.strongRecOn with
  | _ fuel ih =>
  intro cs x h
  obtain ⟨xs, n, rfl, rfl, hl, hlen, hf⟩ := DataW.trod_struct hq h
  rw [hC] at hl
  match cs, hl, xs, hlen with
  | [u0, u1, u2], _, [y0, y1, y2], _ =>
    have t0 := hf 0 f0 rfl
    have t1 := hf 1 f1 rfl
    have t2 := hf 2 f2 rfl
    rw [o0, z0] at t0
    rw [o1, z1] at t1
    rw [o2, z2] at t2
    have t0' : DataW.trod enc P w base (fun _ => true) held n f0.type [u0] = some y0 := t0
    have t1' : DataW.trod enc P w base (fun _ => true) held n f1.type [u1] = some y1 := t1
    have t2' : DataW.trod enc P w base (fun _ => true) held n f2.type [u2] = some y2 := t2
    obtain ⟨k, e0, _, _⟩ := DataW.trod_int k0 t0'
    obtain ⟨a1, c1, d, e1, hd, hrow⟩ := open_u8 k1 ke hce t1'
    obtain rfl : u0 = .int .i64 k := by simpa using e0
    obtain rfl : u1 = .slice a1 d.length c1 := by simpa using e1
    rcases DataW.trod_slice k2 t2' with ⟨e2, _⟩ | ⟨a, len, cap, elems, rest, n2, rfl, e2, _, _, hlc, hcm, hel, hgo, _, _⟩
    · obtain rfl : u2 = .slice none 0 0 := by simpa using e2
      exact ⟨.node k d [], _, _, _, rfl, qat_mk k d [] a1 c1 none 0 (fun _ => undef) rfl rfl hrow (.inr trivial) hd (Row.nil _ _ _) (.inl rfl) (Nat.zero_le _) (fun i hi => absurd hi (Nat.not_lt_zero i))⟩
    · obtain rfl : u2 = .slice (some a) len cap := by simpa using e2
      rw [hC] at hgo
      have each : ∀ i, i < len → ∃ o : QT × Value × Value × Value, w.cell? (a.add (i * 3)) = some o.2.1 ∧ w.cell? (a.add (i * 3 + 1)) = some o.2.2.1 ∧ w.cell? (a.add (i * 3 + 2)) = some o.2.2.2 ∧ QAt w (fun _ => True) o.1 o.2.1 o.2.2.1 o.2.2.2 := fun i hi => by
        have h1 := hgo i hi
        rw [List.getElem?_eq_getElem (by omega)] at h1
        obtain ⟨cs', h2, h3⟩ := Option.bind_eq_some_iff.1 h1
        obtain ⟨q, v0, v1, v2, rfl, hqa⟩ := ih n2 (by omega) cs' _ h3
        obtain ⟨_, _, hcell⟩ := World.cells?_some h2
        have hadd : ∀ j, (a.add (i * 3)).add j = a.add (i * 3 + j) := fun j => Addr.add_add a (i * 3) j
        have q0 := hcell 0 (by omega)
        have q1 := hcell 1 (by omega)
        have q2 := hcell 2 (by omega)
        rw [hadd] at q0 q1 q2
        exact ⟨(q, v0, v1, v2), by simpa using q0, by simpa using q1, by simpa using q2, hqa⟩
      haveI : Inhabited (QT × Value × Value × Value) := ⟨(q0, undef, undef, undef)⟩
      obtain ⟨O, hO⟩ := choose_lt (α := QT × Value × Value × Value) each
      let V : Nat → Value := fun i => if i % 3 = 0 then (O (i / 3)).2.1 else if i % 3 = 1 then (O (i / 3)).2.2.1 else (O (i / 3)).2.2.2
      have hV0 : ∀ i, V (i * 3) = (O i).2.1 := fun i => by
        show (if (i * 3) % 3 = 0 then _ else _) = _
        rw [if_pos (by omega), show i * 3 / 3 = i by omega]
      have hV1 : ∀ i, V (i * 3 + 1) = (O i).2.2.1 := fun i => by
        show (if (i * 3 + 1) % 3 = 0 then _ else if (i * 3 + 1) % 3 = 1 then _ else _) = _
        rw [if_neg (by omega), if_pos (by omega), show (i * 3 + 1) / 3 = i by omega]
      have hV2 : ∀ i, V (i * 3 + 2) = (O i).2.2.2 := fun i => by
        show (if (i * 3 + 2) % 3 = 0 then _ else if (i * 3 + 2) % 3 = 1 then _ else _) = _
        rw [if_neg (by omega), if_neg (by omega), show (i * 3 + 2) / 3 = i by omega]
      have hrow2 : Row w (some a) (len * 3) V := row_of_cells fun j hj => by
        have hr : j = j / 3 * 3 ∨ j = j / 3 * 3 + 1 ∨ j = j / 3 * 3 + 2 := by omega
        have hlt : j / 3 < len := by omega
        rcases hr with e | e | e
        · rw [e, hV0]; exact (hO _ hlt).1
        · rw [e, hV1]; exact (hO _ hlt).2.1
        · rw [e, hV2]; exact (hO _ hlt).2.2.1
      refine ⟨.node k d ((List.range len).map fun i => (O i).1), _, _, _, rfl, qat_mk k d _ a1 c1 (some a) cap V rfl (by simp) hrow (.inr trivial) hd hrow2 (.inr trivial) (by omega) (fun i hi => ?_)⟩
      have hi' : i < len := by simpa using hi
      rw [List.getElem_map, List.getElem_range, hV0, hV1, hV2]
      exact (hO i hi').2.2.2
theorem open_cmd {cT qT eT : TypeId} {g0 g1 g2 g3 g4 g5 f0 f1 f2 : Field} {r : Reach} {b0 : Nat} {v : Value} {dd : DataW H} {p : List MemPlace} (hc : P.underlying cT = some (.struct #[g0, g1, g2, g3, g4, g5])) (hCC : P.cellsOf cT = 8)
    (o0 : g0.offset = 0) (o1 : g1.offset = 1) (o2 : g2.offset = 2) (o3 : g3.offset = 3) (o4 : g4.offset = 4) (o5 : g5.offset = 5) (z0 : P.cellsOf g0.type = 1) (z1 : P.cellsOf g1.type = 1) (z2 : P.cellsOf g2.type = 1) (z3 : P.cellsOf g3.type = 1) (z4 : P.cellsOf g4.type = 1)
    (i0 : P.underlying g0.type = some (.int .i64)) (i1 : P.underlying g1.type = some (.slice eT)) (i2 : P.underlying g2.type = some (.int .i64)) (i3 : P.underlying g3.type = some (.int .i64)) (i4 : P.underlying g4.type = some (.int .i64)) (i5 : g5.type = qT)
    (hq : P.underlying qT = some (.struct #[f0, f1, f2])) (hone : oneCellFields P #[f0, f1, f2] = true) (hC : P.cellsOf qT = 3) (k0 : P.underlying f0.type = some (.int .i64)) (k1 : P.underlying f1.type = some (.slice eT)) (ke : P.underlying eT = some (.int .u8)) (hce : P.cellsOf eT = 1) (k2 : P.underlying f2.type = some (.slice qT))
    (hv : Value.okWide P w r b0 cT v) (h : DataW.Trod enc P w base (fun _ => true) held cT v dd p) :
    ∃ (K N M C : Int) (a : Option Addr) (cap : Nat) (d : List UInt8) (q : QT) (u0 u1 u2 : Value), v = .agg #[.int .i64 K, .slice a d.length cap, .int .i64 N, .int .i64 M, .int .i64 C, u0, u1, u2] ∧ d.length ≤ maxLen ∧ Row w a d.length (bV d) ∧ QAt w (fun _ => True) q u0 u1 u2 ∧
      (Lit.int .i64 K).wf = true ∧ (Lit.int .i64 N).wf = true ∧ (Lit.int .i64 M).wf = true ∧ (Lit.int .i64 C).wf = true := by
  obtain ⟨⟨cs⟩, rfl, hsz⟩ := okWide_struct hc hv
  obtain ⟨fuel, hf⟩ := h
  have hf' : DataW.trod enc P w base (fun _ => true) held fuel cT cs = some (dd, p) := hf
  obtain ⟨xs, n, rfl, _, hl, hlen, hg⟩ := DataW.trod_struct hc hf'
  rw [hCC] at hl
  match cs, hl, xs, hlen with
  | [v0, v1, v2, v3, v4, v5, v6, v7], _, [y0, y1, y2, y3, y4, y5], _ =>
    have t0 := hg 0 g0 rfl
    have t1 := hg 1 g1 rfl
    have t2 := hg 2 g2 rfl
    have t3 := hg 3 g3 rfl
    have t4 := hg 4 g4 rfl
    have t5 := hg 5 g5 rfl
    rw [o0, z0] at t0
    rw [o1, z1] at t1
    rw [o2, z2] at t2
    rw [o3, z3] at t3
    rw [o4, z4] at t4
    rw [o5, i5, hC] at t5
    have t0' : DataW.trod enc P w base (fun _ => true) held n g0.type [v0] = some y0 := t0
    have t1' : DataW.trod enc P w base (fun _ => true) held n g1.type [v1] = some y1 := t1
    have t2' : DataW.trod enc P w base (fun _ => true) held n g2.type [v2] = some y2 := t2
    have t3' : DataW.trod enc P w base (fun _ => true) held n g3.type [v3] = some y3 := t3
    have t4' : DataW.trod enc P w base (fun _ => true) held n g4.type [v4] = some y4 := t4
    have t5' : DataW.trod enc P w base (fun _ => true) held n qT [v5, v6, v7] = some y5 := t5
    obtain ⟨K, e0, _, w0⟩ := DataW.trod_int i0 t0'
    obtain ⟨a, cap, d, e1, hd, hrow⟩ := open_u8 i1 ke hce t1'
    obtain ⟨N, e2, _, w2⟩ := DataW.trod_int i2 t2'
    obtain ⟨M, e3, _, w3⟩ := DataW.trod_int i3 t3'
    obtain ⟨C, e4, _, w4⟩ := DataW.trod_int i4 t4'
    obtain ⟨q, u0, u1, u2, e5, hqa⟩ := open_qt hq hone hC k0 k1 ke hce k2 n _ _ t5'
    simp only [List.cons.injEq, and_true] at e0 e1 e2 e3 e4 e5
    obtain ⟨rfl, rfl, rfl⟩ := e5
    subst e0 e1 e2 e3 e4
    exact ⟨K, N, M, C, a, cap, d, q, v5, v6, v7, rfl, hd, hrow, hqa, w0, w2, w3, w4⟩
end
end Go.Proofs.YtdcobmoeligdkaaGreatDoor
