/-
  The document's own functions on texts: Strings, Place, less, sorted, Rows, Array.
-/
import Derived.Test.YtjpoebmjfedecaaSufLaw
import Derived.Test.YtjpoebmjfedecaaPureFmTells
namespace Go.Proofs.Ytjpoebmjfedecaa
open Go.RowKit

/-- bytes as a string -/
def sB (d : List Nat) : ByteArray := ⟨(d.map UInt8.ofNat).toArray⟩
theorem sB_size (d : List Nat) : (sB d).size = d.length := by simp [sB, ByteArray.size]
theorem sB_list (d : List Nat) : (sB d).toList = d.map UInt8.ofNat := by unfold sB; exact ByteArray.toList_mk _
theorem sB_drop (d : List Nat) (k : Nat) : (sB d).extract k (sB d).size = sB (d.drop k) := by
  rw [sB_size]
  unfold sB
  apply ByteArray.ext
  rw [ByteArray.data_extract]
  apply Array.ext'
  simp [List.map_drop]
  exact List.take_of_length_le (by simp)
theorem ofNat_inj {a b : Nat} (ha : a < 256) (hb : b < 256) : UInt8.ofNat a = UInt8.ofNat b ↔ a = b := by
  constructor
  · intro h
    have := congrArg UInt8.toNat h
    simp at this; omega
  · intro h; rw [h]
theorem map_inj {x y : List Nat} (hx : ∀ c ∈ x, c < 256) (hy : ∀ c ∈ y, c < 256) : x.map UInt8.ofNat = y.map UInt8.ofNat ↔ x = y := by
  induction x generalizing y with
  | nil => cases y <;> simp
  | cons a x ih =>
    cases y with
    | nil => simp
    | cons b y =>
      simp only [List.map_cons, List.cons.injEq]
      rw [ofNat_inj (hx a (by simp)) (hy b (by simp)), ih (fun c hc => hx c (by simp [hc])) (fun c hc => hy c (by simp [hc]))]
theorem sB_eq (x y : List Nat) (hx : ∀ c ∈ x, c < 256) (hy : ∀ c ∈ y, c < 256) : ((sB x).toList == (sB y).toList) = decide (x = y) := by
  rw [sB_list, sB_list]
  by_cases h : x = y
  · subst h; simp
  · have : ¬ x.map UInt8.ofNat = y.map UInt8.ofNat := fun e => h ((map_inj hx hy).1 e)
    simp [h, this]
theorem sB_lt : ∀ (x y : List Nat), (∀ c ∈ x, c < 256) → (∀ c ∈ y, c < 256) → Op.bytesLess (x.map UInt8.ofNat) (y.map UInt8.ofNat) = lexB x y
  | [], [], _, _ => rfl
  | _ :: _, [], _, _ => rfl
  | [], _ :: _, _, _ => rfl
  | a :: x, b :: y, hx, hy => by
    have h1 := hx a (by simp)
    have h2 := hy b (by simp)
    simp only [List.map_cons, Op.bytesLess, lexB]
    rw [sB_lt x y (fun c hc => hx c (by simp [hc])) (fun c hc => hy c (by simp [hc]))]
    congr 1
    · rw [decide_eq_decide, UInt8.lt_iff_toNat_lt]; simp; omega
    · congr 1
      by_cases e : a = b
      · simp [e]
      · have : ¬ UInt8.ofNat a = UInt8.ofNat b := fun h => e ((ofNat_inj h1 h2).1 h)
        simp [e, this]
theorem sB_less (x y : List Nat) (hx : ∀ c ∈ x, c < 256) (hy : ∀ c ∈ y, c < 256) : Op.bytesLess (sB x).toList (sB y).toList = lexB x y := by rw [sB_list, sB_list, sB_lt x y hx hy]
attribute [irreducible] sB

theorem size_str (w : World) : (sizeOf (Try.prog.elem 40)).run Try.prog w = .ok 1 w := by kernel_rfl
theorem info_str : (Try.prog.info? 9).map (fun i => (i.zero, i.size, i.bytes)) = some (some (.string ByteArray.empty), 1, 16) := by kernel_rfl
abbrev strV (ds : List (List Nat)) : Nat → Value := fun r => .string (sB (ds.getD r []))
/-- bytes turned to a string -/
theorem conv_str (W : World) (a : Option Addr) (d : List Nat) (cap : Nat) (h : Row W a d.length (byteV d)) : (convert 22 9 (.slice a d.length cap)).run Try.prog W = .ok (.string (sB d)) W := by
  cases a with
  | none =>
    have : d.length = 0 := by rcases h.at_ with h | h; · exact h
                              · cases h
    have : d = [] := List.eq_nil_of_length_eq_zero this
    subst this
    rw [run_convert_bytes_nil W 22 5 Try.underlying22 Try.underlying5 _ _ 9 Try.underlying9]
    rw [show sB [] = ByteArray.empty by unfold sB; rfl]
  | some ad =>
    have e : strOfNums (d.map Int.ofNat) = sB d := by
      unfold strOfNums sB
      congr 2
      rw [List.map_map]
      exact List.map_congr_left fun c _ => rfl
    rcases h.at_ with h0 | h0
    · have : d = [] := List.eq_nil_of_length_eq_zero h0
      subst this
      rw [run_convert_bytes_string W 22 9 5 _ _ cap Try.underlying22 Try.underlying5 Try.underlying9]
      have := run_bytesToString (P := Try.prog) W ad 0 cap [] (by simp [loadCells, loadCellsFrom])
      simp only [List.length_nil]
      rw [this, ← e]; rfl
    · obtain ⟨b, o, sp⟩ := ad
      obtain rfl : sp = none := by injection h0 with h0; injection h0
      have := run_convert_bytes_arg (P := Try.prog) W 22 5 Try.underlying22 Try.underlying5 b o d.length cap (d.map Int.ofNat) (by simp) (fun i hi => by
        refine (h.cell i hi).trans ?_
        simp [List.getD_eq_getElem?_getD, hi]) 9 Try.underlying9
      rw [this, e]

def StrsPost (w : World) (ds : List (List Nat)) (e : Ending) (w' : World) : Prop :=
  ∃ a cap, e = .returned (.slice a ds.length cap) ∧ Row w' a ds.length (strV ds) ∧ Below w.heap.size w w'
set_option maxRecDepth 100000 in
set_option maxHeartbeats 1000000 in
theorem strings_any (w : World) (a : Option Addr) (cap : Nat) (A : Nat → Option Addr) (C : Nat → Nat) (ds : List (List Nat)) (hn : ds.length ≤ 100000) (h : DocsAt w a A C ds) :
    Calls Try.prog 18 #[.slice a ds.length cap] w (StrsPost w ds) := by
  have hix := run_ix (P := Try.prog) 25 (by kernel_rfl) size_bytes a ds.length cap h.top.at_ .i64
  have HD := Lib.hid h
  obtain ⟨i0, hi0, hz0, hz1, hz2⟩ := info_parts info_str
  clear h
  go_enter Try.func18, Try.ntmps18
  go_wp2
  go_loopw [3, 4] (fun v ii wr => ∃ i : Nat, i ≤ ds.length ∧ ii = .int .i64 i ∧ wr.ownsRow w.heap.size 9 1 v i ((List.range i).map (strV ds)) ∧ Below w.heap.size w wr) (fun _ ii _ => ds.length - (intOf ii).toNat)
  case atStart => exact ⟨0, Nat.zero_le _, rfl, World.ownsRow_nil _ _ _ _, Below.refl _ _⟩
  case round =>
    obtain ⟨i, hi, rfl, hown, hbel⟩ := hrel
    have hs := hbel.size
    by_cases hlt : i < ds.length
    · have d0 := (HD.out.kept hbel).top.cell i hlt
      have hcv := conv_str wr (A i) (ds.getD i []) (C i) ((HD.out.kept hbel).each i hlt)
      have HNX : Hid ((List.range (i + 1)).map (strV ds) = (List.range i).map (strV ds) ++ [.string (sB (ds.getD i []))]) := by rw [List.range_succ, List.map_append]; rfl
      have HO := Lib.hid hown
      have HB := Lib.hid hbel
      generalize sB (ds.getD i []) = s at *
      generalize (ds.getD i []).length = n at *
      clear hown hbel
      go_wp2_with (at_builtin; refine wpList_append_own _ rfl _ _ 40 rfl w.heap.size 9 i0 (.string ByteArray.empty) 1 16 Try.underlying40 hi0 hz0 hz1 hz2 rfl (by decide) _ _ _ rfl (HO.out.alloc _) ⟨wr.heap.size, 0, none⟩ 1 1 [.string s] rfl rfl (cell_one_new _ _ _) (by simp [Value.oneCell']) (by simp only [maxLen]; omega) (by omega) (by simp; omega) ?_; intro v' w1 hown' hgrow _)
      have hlt' := HO.out.lt
      have ho1 : w1.ownsRow w.heap.size 9 1 v' (i + 1) ((List.range (i + 1)).map (strV ds)) := by rw [HNX.out]; exact hown'
      have HO1 := Lib.hid ho1
      have HB1 : Hid (Below w.heap.size w w1) := (HB.out.alloc hs _).grown hgrow (by simp; omega) (fun g hg => (hlt' g hg).1)
      clear hown' hgrow hlt' ho1 hcv
      go_wp2
      go_roundw
      case rel => exact ⟨i + 1, by omega, by go_num, HO1.out, HB1.out⟩
      case measure => simp [intOf]; omega
    · obtain rfl : i = ds.length := by omega
      have hd : decide ((ds.length : Int) < ds.length) = false := by simp
      obtain ⟨a', cap', rfl, hj⟩ := Row.of_owns hown
      have HR : Hid (Row wr a' ds.length (strV ds)) := (owns_row hown).1.congr fun k hk => by simp [List.getD_eq_getElem?_getD, hk]
      have HB := Lib.hid hbel
      clear hown hbel hj
      go_wp2
      go_ret
      exact ⟨a', cap', rfl, HR.out, HB.out⟩
set_option maxHeartbeats 400000 in
theorem place_any (w : World) (a : Option Addr) (cap : Nat) (ds : List (List Nat)) (hr : Row w a ds.length (strV ds)) (hl : (rowOf ds).length ≤ 100000) (r k : Nat) (h : r ≤ ds.length) (hk : k ≤ 100000) :
    Calls Try.prog 48 #[.slice a ds.length cap, .int .i64 r, .int .i64 k] w fun e w' => e = .returned (.int .i64 ((startOf ds r + k : Nat) : Int)) ∧ w = w' := by
  have hix := run_ix (P := Try.prog) 40 (by kernel_rfl) size_str a ds.length cap hr.at_ .i64
  have HR := Lib.hid hr
  have hll := len_le_row ds
  have HST0 := Lib.hid (startOf_zero ds)
  have HM := Lib.hid (fun (x : Nat) (hx : x ≤ ds.length) => Nat.le_trans (startOf_mono ds hx (Nat.le_refl _)) (Nat.le_of_eq (startOf_all ds)))
  clear hr
  go_enter Try.func48, Try.ntmps48
  go_wp2
  go_loop [7, 8] (fun nn ii => ∃ i : Nat, i ≤ r ∧ ii = .int .i64 i ∧ nn = .int .i64 ((startOf ds i + k : Nat) : Int)) (fun _ ii => r - (intOf ii).toNat)
  case atStart => exact ⟨0, Nat.zero_le _, rfl, by rw [HST0.out, Nat.zero_add]⟩
  case round =>
    obtain ⟨i, hi, rfl, rfl⟩ := hrel
    have hm := HM.out i (by omega)
    by_cases hlt : i < r
    · have d0 : w.cell? ⟨bOf a, oOf a + i, none⟩ = some (.string (sB (ds.getD i []))) := HR.out.cell i (by omega)
      have hst := startOf_succ ds i (by omega)
      have hm2 := HM.out (i + 1) (by omega)
      have hsz := sB_size (ds.getD i [])
      have hil : i < ds.length := by omega
      have hst2 : startOf ds (i + 1) + k = startOf ds i + k + (ds.getD i []).length + 1 := by omega
      have HST := Lib.hid hst2
      rw [hst] at hm2
      generalize sB (ds.getD i []) = s at *
      generalize (ds.getD i []).length = n at *
      generalize startOf ds i = q at *
      clear hst hst2
      go_wp2
      go_round
      case rel => exact ⟨i + 1, by omega, by go_num, by (rw [HST.out]) <;> go_num⟩
      case measure => simp [intOf]; omega
    · obtain rfl : i = r := by omega
      go_wp2
      go_ret
      exact ⟨ret_int (by omega), rfl⟩
set_option maxRecDepth 100000 in
set_option maxHeartbeats 1000000 in
theorem rless_any (w : World) (a : Option Addr) (cap : Nat) (ds : List (List Nat)) (hr : Row w a ds.length (strV ds)) (hby : ∀ d ∈ ds, ∀ c ∈ d, c < 256) (_ : (rowOf ds).length ≤ 100000) (p q : Nat × Nat) (hp : validH ds p) (hq : validH ds q) :
    Calls Try.prog 66 #[.slice a ds.length cap, .agg #[.int .i64 p.1, .int .i64 p.2], .agg #[.int .i64 q.1, .int .i64 q.2]] w fun e w' => e = .returned (.bool (hltB ds p q)) ∧ Below w.heap.size w w' := by
  have hix := run_ix (P := Try.prog) 40 (by kernel_rfl) size_str a ds.length cap hr.at_ .i64
  obtain ⟨p1, p2⟩ := p
  obtain ⟨q1, q2⟩ := q
  obtain ⟨hp1, hp2⟩ := hp
  obtain ⟨hq1, hq2⟩ := hq
  simp only at hp1 hp2 hq1 hq2
  have hB : Below w.heap.size w ((w.alloc (.cells #[.int .i64 p1, .int .i64 p2] 47)).alloc (.cells #[.int .i64 q1, .int .i64 q2] 47)) := ((Below.refl _ _).alloc (Nat.le_refl _) _).alloc (by simp) _
  have hrk := hr.kept hB
  have d1 := (hrk.cell p1 hp1).trans (show some (strV ds p1) = some (.string (sB (ds.getD p1 []))) from rfl)
  have d2 := (hrk.cell q1 hq1).trans (show some (strV ds q1) = some (.string (sB (ds.getD q1 []))) from rfl)
  have s1 := sB_size (ds.getD p1 [])
  have s2 := sB_size (ds.getD q1 [])
  have x1 := sB_drop (ds.getD p1 []) p2
  have x2 := sB_drop (ds.getD q1 []) q2
  rw [s1] at x1
  rw [s2] at x2
  have b1 : ∀ c ∈ (ds.getD p1 []).drop p2, c < 256 := fun c hc => hby _ (doc_mem hp1) c (List.mem_of_mem_drop hc)
  have b2 : ∀ c ∈ (ds.getD q1 []).drop q2, c < 256 := fun c hc => hby _ (doc_mem hq1) c (List.mem_of_mem_drop hc)
  have heq := sB_eq _ _ b1 b2
  have hle := sB_less _ _ b1 b2
  have hpost : hltB ds (p1, p2) (q1, q2) = if (ds.getD p1 []).drop p2 = (ds.getD q1 []).drop q2 then decide (p1 < q1) else lexB ((ds.getD p1 []).drop p2) ((ds.getD q1 []).drop q2) := rfl
  have HPOST := Lib.hid hpost
  generalize hltB ds (p1, p2) (q1, q2) = bb at *
  have HB := Lib.hid hB
  have HW := Lib.hid hrk
  clear hr hby hB hrk b1 b2 hpost
  generalize (ds.getD p1 []).drop p2 = u at *
  generalize (ds.getD q1 []).drop q2 = v at *
  generalize sB (ds.getD p1 []) = sp at *
  generalize sB (ds.getD q1 []) = sq at *
  generalize (ds.getD p1 []).length = np at *
  generalize (ds.getD q1 []).length = nq at *
  obtain ⟨W, hW⟩ : ∃ W : World, W = ((w.alloc (.cells #[.int .i64 p1, .int .i64 p2] 47)).alloc (.cells #[.int .i64 q1, .int .i64 q2] 47)) := ⟨_, rfl⟩
  have g1 : W.cell? ⟨w.heap.size, 0, none⟩ = some (.int .i64 p1) := by rw [hW]; simp
  have g2 : W.cell? ⟨w.heap.size, 1, none⟩ = some (.int .i64 p2) := by rw [hW]; simp
  have g3 : W.cell? ⟨w.heap.size + 1, 0, none⟩ = some (.int .i64 q1) := by rw [hW]; simp
  have g4 : W.cell? ⟨w.heap.size + 1, 1, none⟩ = some (.int .i64 q2) := by rw [hW]; simp
  rw [← hW] at d1 d2 HB HW
  have HWW := Lib.hid hW
  clear hW
  go_enter Try.func66, Try.ntmps66
  go_wp2_with fail
  rw [← HWW.out]
  go_quiet (fail)
  clear s1 s2 x1 x2 d1 d2
  have HBq : Hid (Below w.heap.size w (W.drewN nq)) := below_drewN HB.out nq
  have k1 : (W.drewN nq).cell? ⟨w.heap.size, 0, none⟩ = some (.int .i64 p1) := g1
  have k3 : (W.drewN nq).cell? ⟨w.heap.size + 1, 0, none⟩ = some (.int .i64 q1) := g3
  clear g1 g2 g3 g4
  generalize W.drewN nq = Wq at *
  by_cases huv : u = v
  · have hb : ((sB u).toList == (sB v).toList) = true := by rw [heq]; simp [huv]
    have HUV := Lib.hid huv
    clear heq hle huv
    by_cases hpq : (p1 : Int) < (q1 : Int)
    · go_wp2
      go_ret
      exact ⟨ret_bool (by rw [HPOST.out, if_pos HUV.out]; simp; omega), HBq.out⟩
    · have hpd : decide ((p1 : Int) < (q1 : Int)) = false := by simp; omega
      go_wp2
      go_ret
      exact ⟨ret_bool (by rw [HPOST.out, if_pos HUV.out]; simp; omega), HBq.out⟩
  · have hb : ((sB u).toList == (sB v).toList) = false := by rw [heq]; simp [huv]
    have HUV := Lib.hid huv
    clear heq huv
    go_wp2
    go_ret
    exact ⟨ret_bool (by rw [HPOST.out, if_neg HUV.out]), HBq.out⟩
end Go.Proofs.Ytjpoebmjfedecaa
