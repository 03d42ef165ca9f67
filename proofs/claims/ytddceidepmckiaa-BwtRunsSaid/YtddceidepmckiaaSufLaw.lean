/-
  The statements' helpers on the order of places: made, awake; suffix.Sort.
-/
import Derived.Test.YtddceidepmckiaaSufArray
import Derived.Test.YtddceidepmckiaaTextOrd
import Derived.Test.YtddceidepmckiaaDocsOpen
import Derived.Lib.SmallJoins
namespace Go.Proofs.Ytddceidepmckiaa
open Go.RowKit

theorem len_filter_lt (l : List Nat) (n m : Nat) (hn : l.Nodup) (hm : ∀ x, x ∈ l ↔ x < m) (h : n ≤ m) : (l.filter fun x => decide (x < n)).length = n :=
  len_of_mem _ n (hn.filter _) (fun x => by
    rw [List.mem_filter, hm, decide_eq_true_eq]
    exact ⟨fun h => h.2, fun h' => ⟨by omega, h'⟩⟩)
theorem nodup_ltS {s : Nat → Int} {sa : List Nat} (hp : sa.Pairwise (ltS s)) : sa.Nodup := hp.imp (fun h e => by subst e; exact ltS_asymm h h)
/-- bytes that came in, as a list -/
theorem bytes_list {w : World} {a1 : Option Addr} {len : Nat} {f : Nat → Int} (hr : Row w a1 len (fun k => .int .u8 (f k)) ∧ ∀ k, k < len → (Lit.int .u8 (f k)).wf = true) :
    ∃ d : List Nat, len = d.length ∧ Row w a1 d.length (byteV d) ∧ ∀ c ∈ d, c < 256 := by
  obtain ⟨hr, hwf⟩ := hr
  refine ⟨(List.range len).map fun k => (f k).toNat, by simp, ?_, fun c hc => ?_⟩
  · simp only [List.length_map, List.length_range]
    refine hr.congr fun k hk => ?_
    have := bounds_u8 (hwf k hk)
    simp [byteV, List.getD_eq_getElem?_getD, hk]; omega
  · obtain ⟨k, hk, rfl⟩ := List.mem_map.1 hc
    have := bounds_u8 (hwf k (List.mem_range.1 hk))
    omega
abbrev ordS (ds : List (List Nat)) : Nat → Int := symS (rowOf ds) ds.length
def MadePost (w : World) (ds : List (List Nat)) (e : Ending) (w' : World) : Prop :=
  ∃ bt x, e = .returned (.pointer (some ⟨bt, 0, none⟩)) ∧ TextAt w' bt x ds ∧ Below w.heap.size w w'
theorem made_any (w : World) (a : Option Addr) (cap : Nat) (A : Nat → Option Addr) (C : Nat → Nat) (ds : List (List Nat)) (h : DocsAt w a A C ds) (hok : NewOk ds) :
    Calls Try.prog 17 #[.slice a ds.length cap] w (MadePost w ds) := by
  have HN := Lib.hid (tnew_any w a cap A C ds h hok)
  clear h hok
  go_enter Try.func17, Try.ntmps17
  go_wp2_with fail
  refine HN.out.mono ?_
  rintro e w1 ⟨bt, x, rfl, ht, hb⟩
  have HT := Lib.hid ht
  have HB := Lib.hid hb
  clear ht hb HN
  go_wp2
  go_ret
  exact ⟨bt, x, rfl, HT.out, HB.out⟩
def SortPost (w : World) (ds : List (List Nat)) (e : Ending) (w' : World) : Prop :=
  ∃ a cap sa, e = .returned (.tuple #[.slice a (rowOf ds).length cap, .int .i64 0]) ∧ Row w' a (rowOf ds).length (natV sa) ∧ IsSA (ordS ds) (rowOf ds).length sa ∧ Below w.heap.size w w'
theorem sort_any (w : World) (a : Option Addr) (cap : Nat) (A : Nat → Option Addr) (C : Nat → Nat) (ds : List (List Nat)) (h : DocsAt w a A C ds) (hok : NewOk ds) :
    Calls Try.prog 24 #[.slice a ds.length cap] w (SortPost w ds) := by
  have HN := Lib.hid (tnew_any w a cap A C ds h hok)
  have HOK := Lib.hid hok
  clear h hok
  go_enter Try.func24, Try.ntmps24
  go_wp2_with fail
  refine HN.out.mono ?_
  rintro e w1 ⟨bt, x, rfl, ht, hb⟩
  have HA := Lib.hid (array_any w1 bt x ds ht HOK.out)
  have HB := Lib.hid hb
  clear ht hb HN
  go_wp2_with fail
  refine HA.out.mono ?_
  rintro e w2 ⟨a2, c2, sa, rfl, hr, hs, hb2, _⟩
  have HR := Lib.hid hr
  have HS := Lib.hid hs
  have HB2 : Hid (Below w.heap.size w w2) := below_next HB.out hb2 HB.out.size
  clear hr hs hb2 HA
  go_wp2
  go_ret2
  exact ⟨a2, c2, sa, rfl, HR.out, HS.out, HB2.out⟩

/-- the documents that awake asks -/
def baA : List (List Nat) := [[98, 97], [97]]
theorem baA_row : rowOf baA = [99, 98, 0, 98, 0] := rfl
theorem baA_sa : IsSA (ordS baA) 5 [2, 4, 1, 3, 0] := by
  have h1 : ltS (ordS baA) 2 4 := ⟨0, by decide +kernel, fun i hi => by omega⟩
  have h2 : ltS (ordS baA) 4 1 := ⟨0, by decide +kernel, fun i hi => by omega⟩
  have h3 : ltS (ordS baA) 1 3 := ⟨1, by decide +kernel, fun i hi => by obtain rfl : i = 0 := by omega
                                                                        decide +kernel⟩
  have h4 : ltS (ordS baA) 3 0 := ⟨0, by decide +kernel, fun i hi => by omega⟩
  refine ⟨rfl, fun x => ?_, ?_⟩
  · simp; omega
  · simp only [List.pairwise_cons, List.mem_cons, List.not_mem_nil, or_false, forall_eq_or_imp, forall_eq, List.Pairwise.nil, and_true, false_implies, implies_true]
    exact ⟨⟨h1, ltS_trans h1 h2, ltS_trans (ltS_trans h1 h2) h3, ltS_trans (ltS_trans (ltS_trans h1 h2) h3) h4⟩, ⟨h2, ltS_trans h2 h3, ltS_trans (ltS_trans h2 h3) h4⟩, ⟨h3, ltS_trans h3 h4⟩, h4⟩
theorem baA_ok : NewOk baA := ⟨by decide, by decide, by decide, by decide⟩
theorem row_marked (w : World) (C : Array Value) (e : TypeId) (fr : Nat × Nat) (f : Nat → Value) (h : ∀ i, i < C.size → C[i]? = some (f i)) : Row (w.alloc (.cells C e fr)) (some ⟨w.heap.size, 0, none⟩) C.size f :=
  ⟨.inr rfl, fun k hk => by
    show (w.alloc (.cells C e fr)).cell? ⟨w.heap.size, 0 + k, none⟩ = _
    rw [Nat.zero_add, World.cell?_alloc_mark, h k hk]⟩
theorem row_alloc {w : World} {a : Option Addr} {n : Nat} {f : Nat → Value} (h : Row w a n f) (o : Obj) : Row (w.alloc o) a n f := h.kept ((Below.refl _ w).alloc (Nat.le_refl _) o)
def baW (w : World) : World := ((w.alloc (.cells #[.int .u8 98, .int .u8 97] 5 (2, 3))).alloc (.cells #[.int .u8 97] 5 (1, 2))).alloc (.cells #[.slice (some ⟨w.heap.size, 0, none⟩) 2 2, .slice (some ⟨w.heap.size + 1, 0, none⟩) 1 1] 23)
theorem baA_at (w : World) : DocsAt (baW w) (some ⟨w.heap.size + 1 + 1, 0, none⟩)
    (fun r => if r = 0 then some ⟨w.heap.size, 0, none⟩ else some ⟨w.heap.size + 1, 0, none⟩) (fun r => if r = 0 then 2 else 1) baA := by
  have r1 := row_marked w #[.int .u8 98, .int .u8 97] 5 (2, 3) (byteV [98, 97]) (by
    intro i hi
    match i, hi with
    | 0, _ => rfl
    | 1, _ => rfl)
  have r2 := row_marked (w.alloc (.cells #[.int .u8 98, .int .u8 97] 5 (2, 3))) #[.int .u8 97] 5 (1, 2) (byteV [97]) (by
    intro i hi
    match i, hi with
    | 0, _ => rfl)
  have r3 := row_marked ((w.alloc (.cells #[.int .u8 98, .int .u8 97] 5 (2, 3))).alloc (.cells #[.int .u8 97] 5 (1, 2))) #[.slice (some ⟨w.heap.size, 0, none⟩) 2 2, .slice (some ⟨w.heap.size + 1, 0, none⟩) 1 1] 23 (0, 0)
    (fun r => .slice (if r = 0 then some ⟨w.heap.size, 0, none⟩ else some ⟨w.heap.size + 1, 0, none⟩) (baA.getD r []).length (if r = 0 then 2 else 1)) (by
    intro i hi
    match i, hi with
    | 0, _ => rfl
    | 1, _ => rfl)
  simp only [World.size_alloc] at r2 r3
  refine ⟨r3, fun r hr => ?_⟩
  match r, hr with
  | 0, _ => exact row_alloc (row_alloc r1 _) _
  | 1, _ => exact row_alloc r2 _
theorem baW_below (w : World) : Below w.heap.size w (baW w) := (((Below.refl _ w).alloc (Nat.le_refl _) _).alloc (by simp) _).alloc (by simp; omega) _
set_option maxRecDepth 100000 in
set_option maxHeartbeats 1000000 in
theorem awake10_any (w : World) : Calls Try.prog 16 #[] w fun e w' => e = .returned (.bool true) ∧ Below w.heap.size w w' := by
  have hs := sort_any _ _ 2 _ _ baA (baA_at w) baA_ok
  have e2 : baA.length = 2 := rfl
  rw [e2] at hs
  have HS := Lib.hid hs
  have HB0 := Lib.hid (baW_below w)
  have hcv1 := Lib.run_convert_bytes_const (P := Try.prog) w 23 5 #[.int .u8 98, .int .u8 97] 2 2 Try.underlying23 Try.underlying5
  have hcv2 := Joins.run_convert_bytes_const_at (P := Try.prog) (w.alloc (.cells #[.int .u8 98, .int .u8 97] 5 (2, 3))) 23 5 #[.int .u8 97] 1 1 (w.heap.size + 1) (by simp) Try.underlying23 Try.underlying5
  simp only [List.size_toArray, List.length_cons, List.length_nil, Nat.zero_add, Nat.reduceAdd] at hcv1 hcv2
  clear hs e2
  go_enter Try.func16, Try.ntmps16
  go_wp2_with fail
  clear hcv1 hcv2
  refine (show Calls Try.prog _ _ (baW w) _ from HS.out.mono ?_)
  rintro e w1 ⟨a, cap, sa, rfl, hr, hsa, hb⟩
  have e5 : (rowOf baA).length = 5 := rfl
  rw [e5] at hr hsa
  rw [e5]
  clear e5
  obtain rfl : sa = [2, 4, 1, 3, 0] := hsa.one baA_sa
  have hB1 : Below w.heap.size w w1 := below_next HB0.out hb HB0.out.size
  have hr2 := World.rowIs_alloc w1 #[.int .i64 2, .int .i64 4, .int .i64 1, .int .i64 3, .int .i64 0] 3 (fun k => .int .i64 ((([2, 4, 1, 3, 0] : List Nat).getD k 0 : Nat) : Int)) (by
    intro i hi
    match i, hi with
    | 0, _ => rfl
    | 1, _ => rfl
    | 2, _ => rfl
    | 3, _ => rfl
    | 4, _ => rfl)
  have hB2 : Below w1.heap.size w1 (w1.alloc (.cells #[.int .i64 2, .int .i64 4, .int .i64 1, .int .i64 3, .int .i64 0] 3)) := (Below.refl _ _).alloc (Nat.le_refl _) _
  have HSM := Lib.hid (same_yes _ a (some ⟨w1.heap.size, 0, none⟩) 5 cap 5 (fun k => ((([2, 4, 1, 3, 0] : List Nat).getD k 0 : Nat) : Int)) (by omega) (hr.kept hB2) (Row.of_row hr2 (Nat.le_refl _)))
  have HB2 : Hid (Below w.heap.size w (w1.alloc (.cells #[.int .i64 2, .int .i64 4, .int .i64 1, .int .i64 3, .int .i64 0] 3))) := below_next hB1 hB2 hB1.size
  clear hr hsa hb hB1 hr2 hB2 HS HB0
  go_wp2_with fail
  refine HSM.out.mono ?_
  rintro e w2 ⟨rfl, j, rfl⟩
  go_wp2
  go_ret
  exact ⟨rfl, below_drewN HB2.out j⟩
end Go.Proofs.Ytddceidepmckiaa
