/-
  The document's own functions on texts: Strings, Place, less, sorted, Rows, Array.
-/
import Derived.Test.YtehgpggkicoddaaSufLaw
import Derived.Test.YtehgpggkicoddaaRefMath
namespace Go.Proofs.Ytehgpggkicoddaa
open Go.RowKit

/-- bytes as a string -/
def sB (d : List Nat) : ByteArray := ⟨(d.map UInt8.ofNat).toArray⟩
theorem sB_size (d : List Nat) : (sB d).size = d.length := by simp [sB, ByteArray.size]
theorem sB_list (d : List Nat) : (sB d).toList = d.map UInt8.ofNat := by unfold sB; exact ByteArray.toList_mk _
theorem sB_drop (d : List Nat) (k : Nat) : (sB d).extract k (sB d).size = sB (d.drop k) := by
  rw [sB_size]
  unfold sB
  apply ByteArray.ext
  rw [ByteArray.data_extract]
  apply Array.ext'
  simp [List.map_drop]
  exact List.take_of_length_le (by simp)
theorem ofNat_inj {a b : Nat} (ha : a < 256) (hb : b < 256) : UInt8.ofNat a = UInt8.ofNat b ↔ a = b := by
  constructor
  · intro h
    have := congrArg UInt8.toNat h
    simp at this; omega
  · intro h; rw [h]
theorem map_inj {x y : List Nat} (hx : ∀ c ∈ x, c < 256) (hy : ∀ c ∈ y, c < 256) : x.map UInt8.ofNat = y.map UInt8.ofNat ↔ x = y := by
  induction x generalizing y with
  | nil => cases y <;> simp
  | cons a x ih =>
    cases y with
    | nil => simp
    | cons b y =>
      simp only [List.map_cons, List.cons.injEq]
      rw [ofNat_inj (hx a (by simp)) (hy b (by simp)), ih (fun c hc => hx c (by simp [hc])) (fun c hc => hy c (by simp [hc]))]
theorem sB_eq (x y : List Nat) (hx : ∀ c ∈ x, c < 256) (hy : ∀ c ∈ y, c < 256) : ((sB x).toList == (sB y).toList) = decide (x = y) := by
  rw [sB_list, sB_list]
  by_cases h : x = y
  · subst h; simp
  · have : ¬ x.map UInt8.ofNat = y.map UInt8.ofNat := fun e => h ((map_inj hx hy).1 e)
    simp [h, this]
theorem sB_lt : ∀ (x y : List Nat), (∀ c ∈ x, c < 256) → (∀ c ∈ y, c < 256) → Op.bytesLess (x.map UInt8.ofNat) (y.map UInt8.ofNat) = lexB x y
  | [], [], _, _ => rfl
  | _ :: _, [], _, _ => rfl
  | [], _ :: _, _, _ => rfl
  | a :: x, b :: y, hx, hy => by
    have h1 := hx a (by simp)
    have h2 := hy b (by simp)
    simp only [List.map_cons, Op.bytesLess, lexB]
    rw [sB_lt x y (fun c hc => hx c (by simp [hc])) (fun c hc => hy c (by simp [hc]))]
    congr 1
    · rw [decide_eq_decide, UInt8.lt_iff_toNat_lt]; simp; omega
    · congr 1
      by_cases e : a = b
      · simp [e]
      · have : ¬ UInt8.ofNat a = UInt8.ofNat b := fun h => e ((ofNat_inj h1 h2).1 h)
        simp [e, this]
theorem sB_less (x y : List Nat) (hx : ∀ c ∈ x, c < 256) (hy : ∀ c ∈ y, c < 256) : Op.bytesLess (sB x).toList (sB y).toList = lexB x y := by rw [sB_list, sB_list, sB_lt x y hx hy]
attribute [irreducible] sB

theorem size_str (w : World) : (sizeOf (Try.prog.elem 37)).run Try.prog w = .ok 1 w := by kernel_rfl
theorem info_str : (Try.prog.info? 9).map (fun i => (i.zero, i.size, i.bytes)) = some (some (.string ByteArray.empty), 1, 16) := by kernel_rfl
abbrev strV (ds : List (List Nat)) : Nat → Value := fun r => .string (sB (ds.getD r []))
/-- bytes turned to a string -/
theorem conv_str (W : World) (a : Option Addr) (d : List Nat) (cap : Nat) (h : Row W a d.length (byteV d)) : (convert 29 9 (.slice a d.length cap)).run Try.prog W = .ok (.string (sB d)) W := by
  cases a with
  | none =>
    have : d.length = 0 := by rcases h.at_ with h | h; · exact h
                              · cases h
    have : d = [] := List.eq_nil_of_length_eq_zero this
    subst this
    rw [run_convert_bytes_nil W 29 5 Try.underlying29 Try.underlying5 _ _ 9 Try.underlying9]
    rw [show sB [] = ByteArray.empty by unfold sB; rfl]
  | some ad =>
    have e : strOfNums (d.map Int.ofNat) = sB d := by
      unfold strOfNums sB
      congr 2
      rw [List.map_map]
      exact List.map_congr_left fun c _ => rfl
    rcases h.at_ with h0 | h0
    · have : d = [] := List.eq_nil_of_length_eq_zero h0
      subst this
      rw [run_convert_bytes_string W 29 9 5 _ _ cap Try.underlying29 Try.underlying5 Try.underlying9]
      have := run_bytesToString (P := Try.prog) W ad 0 cap [] (by simp [loadCells, loadCellsFrom])
      simp only [List.length_nil]
      rw [this, ← e]; rfl
    · obtain ⟨b, o, sp⟩ := ad
      obtain rfl : sp = none := by injection h0 with h0; injection h0
      have := run_convert_bytes_arg (P := Try.prog) W 29 5 Try.underlying29 Try.underlying5 b o d.length cap (d.map Int.ofNat) (by simp) (fun i hi => by
        refine (h.cell i hi).trans ?_
        simp [List.getD_eq_getElem?_getD, hi]) 9 Try.underlying9
      rw [this, e]

def StrsPost (w : World) (ds : List (List Nat)) (e : Ending) (w' : World) : Prop :=
  ∃ a cap, e = .returned (.slice a ds.length cap) ∧ Row w' a ds.length (strV ds) ∧ Below w.heap.size w w'
set_option maxRecDepth 100000 in
set_option maxHeartbeats 1000000 in
theorem strings_any (w : World) (a : Option Addr) (cap : Nat) (A : Nat → Option Addr) (C : Nat → Nat) (ds : List (List Nat)) (hn : ds.length ≤ 100000) (h : DocsAt w a A C ds) :
    Calls Try.prog 16 #[.slice a ds.length cap] w (StrsPost w ds) := by
  have hix := run_ix (P := Try.prog) 22 (by kernel_rfl) size_bytes a ds.length cap h.top.at_ .i64
  have HD := Lib.hid h
  obtain ⟨i0, hi0, hz0, hz1, hz2⟩ := info_parts info_str
  clear h
  go_enter Try.func16, Try.ntmps16
  go_wp2
  go_loopw [3, 4] (fun v ii wr => ∃ i : Nat, i ≤ ds.length ∧ ii = .int .i64 i ∧ wr.ownsRow w.heap.size 9 1 v i ((List.range i).map (strV ds)) ∧ Below w.heap.size w wr) (fun _ ii _ => ds.length - (intOf ii).toNat)
  case atStart => exact ⟨0, Nat.zero_le _, rfl, World.ownsRow_nil _ _ _ _, Below.refl _ _⟩
  case round =>
    obtain ⟨i, hi, rfl, hown, hbel⟩ := hrel
    have hs := hbel.size
    by_cases hlt : i < ds.length
    · have d0 := (HD.out.kept hbel).top.cell i hlt
      have hcv := conv_str wr (A i) (ds.getD i []) (C i) ((HD.out.kept hbel).each i hlt)
      have HNX : Hid ((List.range (i + 1)).map (strV ds) = (List.range i).map (strV ds) ++ [.string (sB (ds.getD i []))]) := by rw [List.range_succ, List.map_append]; rfl
      have HO := Lib.hid hown
      have HB := Lib.hid hbel
      generalize sB (ds.getD i []) = s at *
      generalize (ds.getD i []).length = n at *
      clear hown hbel
      go_wp2_with (at_builtin; refine wpList_append_own _ rfl _ _ 37 rfl w.heap.size 9 i0 (.string ByteArray.empty) 1 16 Try.underlying37 hi0 hz0 hz1 hz2 rfl (by decide) _ _ _ rfl (HO.out.alloc _) ⟨wr.heap.size, 0, none⟩ 1 1 [.string s] rfl rfl (cell_one_new _ _ _) (by simp [Value.oneCell']) (by simp only [maxLen]; omega) (by omega) (by simp; omega) ?_; intro v' w1 hown' hgrow _)
      have hlt' := HO.out.lt
      have ho1 : w1.ownsRow w.heap.size 9 1 v' (i + 1) ((List.range (i + 1)).map (strV ds)) := by rw [HNX.out]; exact hown'
      have HO1 := Lib.hid ho1
      have HB1 : Hid (Below w.heap.size w w1) := (HB.out.alloc hs _).grown hgrow (by simp; omega) (fun g hg => (hlt' g hg).1)
      clear hown' hgrow hlt' ho1 hcv
      go_wp2
      go_roundw
      case rel => exact ⟨i + 1, by omega, by go_num, HO1.out, HB1.out⟩
      case measure => simp [intOf]; omega
    · obtain rfl : i = ds.length := by omega
      have hd : decide ((ds.length : Int) < ds.length) = false := by simp
      obtain ⟨a', cap', rfl, hj⟩ := Row.of_owns hown
      have HR : Hid (Row wr a' ds.length (strV ds)) := (owns_row hown).1.congr fun k hk => by simp [List.getD_eq_getElem?_getD, hk]
      have HB := Lib.hid hbel
      clear hown hbel hj
      go_wp2
      go_ret
      exact ⟨a', cap', rfl, HR.out, HB.out⟩
end Go.Proofs.Ytehgpggkicoddaa
