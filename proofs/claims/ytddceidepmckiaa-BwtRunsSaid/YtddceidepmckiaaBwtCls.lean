/-
  A row of symbols, sorted out: of documents, with too great a symbol, or of none; the program's and the document's answers in one form.
-/
import Derived.Test.YtddceidepmckiaaBwtAwake
import Derived.Test.YtddceidepmckiaaRefDocs
namespace Go.Proofs.Ytddceidepmckiaa
open Go.RowKit

def Cls (L : List Nat) (z : Int) (es : List (List Nat)) : Prop :=
  (z = 0 ∧ anyGreat L = false ∧ DocsL L es) ∨ (z = 1 ∧ anyGreat L = true ∧ es = []) ∨ (z = 3 ∧ anyGreat L = false ∧ es = [] ∧ ∀ ds, ¬ DocsL L ds)
theorem Cls.one {L : List Nat} {z z' : Int} {es es' : List (List Nat)} (h : Cls L z es) (g : Cls L z' es') : z = z' ∧ es = es' := by
  rcases h with ⟨h1, h2, h3⟩ | ⟨h1, h2, h3⟩ | ⟨h1, h2, h3, h4⟩ <;> rcases g with ⟨g1, g2, g3⟩ | ⟨g1, g2, g3⟩ | ⟨g1, g2, g3, g4⟩
  · exact ⟨by rw [h1, g1], h3.one g3⟩
  · rw [h2] at g2; cases g2
  · exact (g4 _ h3).elim
  · rw [h2] at g2; cases g2
  · exact ⟨by rw [h1, g1], by rw [h3, g3]⟩
  · rw [h2] at g2; cases g2
  · exact (h4 _ g3).elim
  · rw [h2] at g2; cases g2
  · exact ⟨by rw [h1, g1], by rw [h3, g3]⟩
theorem Cls.ok {L : List Nat} {es : List (List Nat)} (h : Cls L 0 es) : DocsL L es ∧ anyGreat L = false := by
  rcases h with ⟨h1, h2, h3⟩ | ⟨h1, h2, h3⟩ | ⟨h1, h2, h3, h4⟩
  · exact ⟨h3, h2⟩
  · omega
  · omega
theorem Cls.not {L : List Nat} {z : Int} {es : List (List Nat)} (h : Cls L z es) (hz : z ≠ 0) : anyGreat L = true ∨ ∀ ds, ¬ DocsL L ds := by
  rcases h with ⟨h1, h2, h3⟩ | ⟨h1, h2, h3⟩ | ⟨h1, h2, h3, h4⟩
  · exact (hz h1).elim
  · exact .inl h2
  · exact .inr h4
def ClsPost (w : World) (L : List Nat) (e : Ending) (w' : World) : Prop :=
  ∃ z a A cap es, e = .returned (.tuple #[.slice a es.length cap, .int .i64 z]) ∧ DocsAt w' a A (fun j => (es.getD j []).length) es ∧ Cls L z es ∧ NewOk es ∧ Below w.heap.size w w'
theorem ok_nil : NewOk [] := ⟨by decide, fun d hd => (by cases hd), by decide, fun d hd => (by cases hd)⟩
theorem docs_nil (w : World) (a : Option Addr) (A : Nat → Option Addr) (C : Nat → Nat) : DocsAt w a A C [] := ⟨Row.nil _ _ _, fun r hr => by simp at hr⟩
theorem docs_cls (w : World) (a : Option Addr) (cap : Nat) (L : List Nat) (h6 : L.length ≤ 60000) (h5 : stC L 1 ≤ 500) (hr : Row w a L.length (symV L)) :
    Calls Try.prog 34 #[.slice a L.length cap] w (ClsPost w L) := by
  refine (docs_any w a cap L h6 h5 hr).mono ?_
  rintro e w1 (⟨a1, A, es, rfl, hd, hl, hok, hg, hb⟩ | ⟨rfl, hg, hb⟩ | ⟨rfl, hg, hno, hb⟩)
  · exact ⟨0, a1, A, es.length, es, rfl, hd, .inl ⟨rfl, hg, hl⟩, hok, hb⟩
  · exact ⟨1, none, fun _ => none, 0, [], rfl, docs_nil _ _ _ _, .inr (.inl ⟨rfl, hg, rfl⟩), ok_nil, hb⟩
  · exact ⟨3, none, fun _ => none, 0, [], rfl, docs_nil _ _ _ _, .inr (.inr ⟨rfl, hg, rfl, hno⟩), ok_nil, hb⟩
def RClsPost (w : World) (L : List Nat) (z : Int) (es : List (List Nat)) (e : Ending) (w' : World) : Prop :=
  ∃ a cap, e = .returned (.tuple #[.slice a es.length cap, .int .i64 z]) ∧ Row w' a es.length (strV es) ∧ Below w.heap.size w w'
theorem refdocs_cls (w : World) (a : Option Addr) (cap : Nat) (L : List Nat) (h6 : L.length ≤ 60000) (h5 : stC L 1 ≤ 500) (hr : Row w a L.length (symV L)) (hm : ∀ c ∈ L, c < 65536) (z : Int) (es : List (List Nat)) (hc : Cls L z es) :
    Calls Try.prog 42 #[.slice a L.length cap] w (RClsPost w L z es) := by
  refine (refdocs_any w a cap L h6 h5 hr hm).mono ?_
  rintro e w1 (⟨a1, c1, fs, rfl, hd, hl, hok, hg, hb⟩ | ⟨rfl, hg, hb⟩ | ⟨rfl, hg, hno, hb⟩)
  · obtain ⟨rfl, rfl⟩ := hc.one (.inl ⟨rfl, hg, hl⟩)
    exact ⟨a1, c1, rfl, hd, hb⟩
  · obtain ⟨rfl, rfl⟩ := hc.one (.inr (.inl ⟨rfl, hg, rfl⟩))
    exact ⟨none, 0, rfl, Row.nil _ _ _, hb⟩
  · obtain ⟨rfl, rfl⟩ := hc.one (.inr (.inr ⟨rfl, hg, rfl, hno⟩))
    exact ⟨none, 0, rfl, Row.nil _ _ _, hb⟩
theorem ok_cls (w : World) (a : Option Addr) (cap : Nat) (L : List Nat) (h6 : L.length ≤ 60000) (h5 : stC L 1 ≤ 500) (hr : Row w a L.length (symV L)) (z : Int) (es : List (List Nat)) (hc : Cls L z es) :
    Calls Try.prog 41 #[.slice a L.length cap] w fun e w' => e = .returned (.bool (z == 0)) ∧ Below w.heap.size w w' := by
  refine (ok_any w a cap L h6 h5 hr).mono ?_
  rintro e w1 ⟨⟨b, rfl, hyes, hno⟩, hb⟩
  refine ⟨?_, hb⟩
  congr 2
  by_cases hz : z = 0
  · subst hz
    obtain ⟨h1, h2⟩ := hc.ok
    cases b with
    | true => rfl
    | false =>
      rcases hno rfl with h | h
      · rw [h2] at h; cases h
      · exact (h _ h1).elim
  · have hzf : (z == 0) = false := by rw [beq_eq_false_iff_ne]; exact hz
    rw [hzf]
    cases b with
    | false => rfl
    | true =>
      obtain ⟨h1, ds, h2⟩ := hyes rfl
      rcases hc.not hz with h | h
      · rw [h1] at h; cases h
      · exact (h ds h2).elim
/-- symbols that came in, as a list -/
theorem syms_list {w : World} {a1 : Option Addr} {len : Nat} {f : Nat → Int} (hr : Row w a1 len (fun k => .int .u16 (f k)) ∧ ∀ k, k < len → (Lit.int .u16 (f k)).wf = true) :
    ∃ L : List Nat, len = L.length ∧ Row w a1 L.length (symV L) ∧ ∀ c ∈ L, c < 65536 := by
  obtain ⟨hr, hwf⟩ := hr
  refine ⟨(List.range len).map fun k => (f k).toNat, by simp, ?_, fun c hc => ?_⟩
  · simp only [List.length_map, List.length_range]
    refine hr.congr fun k hk => ?_
    have := bounds_u16 (hwf k hk)
    simp [symV, List.getD_eq_getElem?_getD, hk]; omega
  · obtain ⟨k, hk, rfl⟩ := List.mem_map.1 hc
    have := bounds_u16 (hwf k (List.mem_range.1 hk))
    omega
end Go.Proofs.Ytddceidepmckiaa
