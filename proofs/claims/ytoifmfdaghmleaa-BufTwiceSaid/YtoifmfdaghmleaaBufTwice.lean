/-
  BufTwice: documents that are dropped and put again are told as if nothing had been; those that stay are not touched.
-/
import Derived.Test.YtoifmfdaghmleaaBufKeys
import Derived.ProofKit
import Derived.OpenShut
import Derived.Deep.Matrix
import Derived.Test.YtoifmfdaghmleaaTextWalk
import Derived.Test.YtoifmfdaghmleaaRowOpen
import Derived.Test.YtoifmfdaghmleaaCommon
import Derived.Test.YtoifmfdaghmleaaProg
set_option linter.unusedVariables false
namespace Go.Proofs.Ytoifmfdaghmleaa.Tx
open Go.ChangeShapes Go.WideShapes Go.ChangeAt Go.RowKit Go.Deep

section
variable {H : Type} {enc : TypeId × Value → H} {P : Program} {w : World} {base : Nat} {held : Bool}

/-- what is told of documents that came in -/
structure DocsIn (w : World) (a : Option Addr) (A : Nat → Option Addr) (C : Nat → Nat) (ds : List (List Nat)) : Prop where
  docs : DocsAt w a A C ds
  many : ds.length ≤ maxLen
  long : ∀ r, r < ds.length → (ds.getD r []).length ≤ maxLen
  byte : ∀ d ∈ ds, ∀ c ∈ d, c < 256
  caps : ∀ r, r < ds.length → (ds.getD r []).length ≤ C r
theorem open_docs {t e q : TypeId} {r : Reach} {b0 : Nat} {v : Value} {d : DataW H} {p : List MemPlace} (ht : P.underlying t = some (.slice e)) (he : P.underlying e = some (.slice q)) (hq : P.underlying q = some (.int .u8)) (ce : P.cellsOf e = 1) (cq : P.cellsOf q = 1)
    (hv : Value.okWide P w r b0 t v) (h : DataW.Trod enc P w base (fun _ => true) held t v d p) :
    ∃ (a : Option Addr) (cap : Nat) (A : Nat → Option Addr) (C : Nat → Nat) (ds : List (List Nat)), v = .slice a ds.length cap ∧ DocsIn w a A C ds := by
  obtain ⟨a0, len, cap, rfl⟩ := okWide_slice ht hv
  obtain ⟨fuel, hf⟩ := h
  rcases open_int_rows ht he hq ce cq hf with ⟨hcs, _⟩ | ⟨a, l, c, A, L, C, Z, hcs, _, hl, hm, _, hrow⟩
  · simp [Value.cells] at hcs
    obtain ⟨rfl, rfl, rfl⟩ := hcs
    exact ⟨none, 0, fun _ => none, fun _ => 0, [], rfl, ⟨⟨Row.nil _ _ _, fun r hr => by simp at hr⟩, Nat.zero_le _, fun r hr => by simp at hr, fun d hd => (by cases hd), fun r hr => (by simp at hr)⟩⟩
  · simp [Value.cells] at hcs
    obtain ⟨rfl, rfl, rfl⟩ := hcs
    let ds : List (List Nat) := (List.range len).map fun r => ((Z r).take (L r)).map Int.toNat
    have hlen : ds.length = len := by simp [ds]
    have hget : ∀ r, r < len → ds.getD r [] = ((Z r).take (L r)).map Int.toNat := fun r hr => by simp [ds, List.getD_eq_getElem?_getD, hr]
    have hgl : ∀ r, r < len → (ds.getD r []).length = L r := fun r hr => by
      rw [hget r hr, List.length_map, List.length_take, (hrow r (by omega)).2.2.2.1]
      have := (hrow r (by omega)).2.1
      omega
    have hwf : ∀ r, r < len → ∀ n ∈ Z r, 0 ≤ n ∧ n ≤ 255 := fun r hr n hn => bounds_u8 ((hrow r (by omega)).2.2.2.2.1 n hn)
    refine ⟨some a, cap, A, C, ds, by rw [hlen], ⟨⟨?_, fun r hr => ?_⟩, by rw [hlen]; omega, fun r hr => ?_, ?_, fun r hr => ?_⟩⟩
    · rw [hlen]
      exact row_of_cells fun i hi => by rw [(hrow i (by omega)).1, hgl i hi]
    · rw [hlen] at hr
      rw [hgl r hr]
      obtain ⟨_, h1, h2, h3, _, h5, h6⟩ := hrow r (by omega)
      cases hA : A r with
      | none =>
        have := h5 hA
        obtain e : L r = 0 := by omega
        rw [e]; exact Row.nil _ _ _
      | some a' =>
        refine row_of_cells fun i hi => ?_
        rw [(h6 a' hA).2 i (by omega), hget r hr]
        have hz : (Z r).getD i 0 ∈ Z r := by rw [List.getD_eq_getElem?_getD, List.getElem?_eq_getElem (by omega)]; exact List.getElem_mem _
        have hn := hwf r hr _ hz
        have e : (((Z r).take (L r)).map Int.toNat).getD i 0 = ((Z r).getD i 0).toNat := by
          rw [List.getD_eq_getElem?_getD, List.getElem?_map, List.getElem?_take, if_pos hi, List.getD_eq_getElem?_getD, List.getElem?_eq_getElem (by omega)]; rfl
        show some (Value.int .u8 ((Z r).getD i 0)) = some (Value.int .u8 (((((Z r).take (L r)).map Int.toNat).getD i 0 : Nat) : Int))
        rw [e, Int.toNat_of_nonneg hn.1]
    · rw [hlen] at hr
      rw [hgl r hr]
      have := (hrow r (by omega)).2.1
      have := (hrow r (by omega)).2.2.1
      omega
    · intro d hd c hc
      obtain ⟨r, hr, rfl⟩ := List.mem_map.1 hd
      obtain ⟨n, hn, rfl⟩ := List.mem_map.1 hc
      have := hwf r (List.mem_range.1 hr) n (List.mem_of_mem_take hn)
      omega
    · rw [hlen] at hr
      rw [hgl r hr]
      exact (hrow r (by omega)).2.1
end
end Go.Proofs.Ytoifmfdaghmleaa.Tx
namespace Go.Proofs.Ytoifmfdaghmleaa
open Go.RowKit

theorem size_strT (w : World) : (sizeOf (Try.prog.elem 32)).run Try.prog w = .ok 1 w := by kernel_rfl
set_option maxHeartbeats 400000 in
theorem sametxt_yes (w : World) (a b : Option Addr) (n ca cb : Nat) (f : Nat → ByteArray) (hn : n ≤ 1000000) (ha : Row w a n (fun k => .string (f k))) (hb : Row w b n (fun k => .string (f k))) :
    Calls Try.prog 18 #[.slice a n ca, .slice b n cb] w fun e w' => e = .returned (.bool true) ∧ ∃ k, w' = w.drewN k := by
  have hix := run_ix (P := Try.prog) 32 (by kernel_rfl) size_strT a n ca ha.at_ .i64
  have hiy := run_ix (P := Try.prog) 32 (by kernel_rfl) size_strT b n cb hb.at_ .i64
  have HA := Lib.hid ha
  have HB := Lib.hid hb
  clear ha hb
  go_enter Try.func18, Try.ntmps18
  go_wp2
  go_loopw [5] (fun i wr => ∃ k : Nat, k ≤ n ∧ i = .int .i64 k ∧ ∃ j, wr = w.drewN j) (fun i _ => n - (intOf i).toNat)
  case atStart => exact ⟨0, Nat.zero_le _, rfl, 0, rfl⟩
  case round =>
    obtain ⟨k, hk, rfl, j, rfl⟩ := hrel
    by_cases hlt : k < n
    · have d1 := HA.out.cell k hlt
      have d2 := HB.out.cell k hlt
      generalize f k = x at d1 d2
      go_wp2
      go_quiet (fail)
      go_wp2
      go_roundw
      case rel => exact ⟨k + 1, by omega, by go_num, _, rfl⟩
      case measure => simp [intOf]; omega
    · have hd : decide ((k : Int) < n) = false := by simp; omega
      go_wp2
      go_ret
      exact ⟨rfl, _, rfl⟩
end Go.Proofs.Ytoifmfdaghmleaa
namespace Go.Proofs.Ytoifmfdaghmleaa
open Go.RowKit

theorem size_int (w : World) : (sizeOf (Try.prog.elem 31)).run Try.prog w = .ok 1 w := by kernel_rfl

set_option maxHeartbeats 400000 in
theorem same_yes (w : World) (a b : Option Addr) (n ca cb : Nat) (f : Nat → Int) (hn : n ≤ 1000000000) (ha : Row w a n (fun k => .int .i64 (f k))) (hb : Row w b n (fun k => .int .i64 (f k))) :
    Calls Try.prog 17 #[.slice a n ca, .slice b n cb] w fun e w' => e = .returned (.bool true) ∧ ∃ k, w' = w.drewN k := by
  have hix := run_ix (P := Try.prog) 31 (by kernel_rfl) size_int a n ca ha.at_ .i64
  have hiy := run_ix (P := Try.prog) 31 (by kernel_rfl) size_int b n cb hb.at_ .i64
  have HA := Lib.hid ha
  have HB := Lib.hid hb
  clear ha hb
  go_enter Try.func17, Try.ntmps17
  go_wp2
  go_loopw [5] (fun i wr => ∃ k : Nat, k ≤ n ∧ i = .int .i64 k ∧ ∃ j, wr = w.drewN j) (fun i _ => n - (intOf i).toNat)
  case atStart => exact ⟨0, Nat.zero_le _, rfl, 0, rfl⟩
  case round =>
    obtain ⟨k, hk, rfl, j, rfl⟩ := hrel
    by_cases hlt : k < n
    · have d1 := HA.out.cell k hlt
      have d2 := HB.out.cell k hlt
      go_wp2
      go_quiet (fail)
      go_wp2
      go_roundw
      case rel => exact ⟨k + 1, by omega, by go_num, _, rfl⟩
      case measure => simp [intOf]; omega
    · have hd : decide ((k : Int) < n) = false := by simp; omega
      go_wp2
      go_ret
      exact ⟨rfl, _, rfl⟩
end Go.Proofs.Ytoifmfdaghmleaa
namespace Go.Proofs.Ytoifmfdaghmleaa
open Go.RowKit

/-- no panic: a region's end that hides nothing of the frame where there is one -/
def noPanic (Q : Exit → Act → World → Prop) : Exit → Act → World → Prop
  | .panic _, _, _ => False
  | e, a, w => Q e a w
theorem noPanic_normal {Q : Exit → Act → World → Prop} {a : Act} {w : World} (h : Q .normal a w) : noPanic Q .normal a w := h
theorem wp_noPanic {P : Program} {c : Code} {Q : Exit → Act → World → Prop} {a : Act} {w : World} (h : c.wp P (noPanic Q) a w) : c.wp P Q a w := Code.wp_mono (fun e a w hq => by
  cases e
  case panic => exact hq.elim
  all_goals exact hq) h
end Go.Proofs.Ytoifmfdaghmleaa
namespace Go.Proofs.Ytoifmfdaghmleaa
open Go.RowKit Go.Lib Go.Sort Go.Shelf Go.Proofs.Ytoifmfdaghmleaa.Tx

theorem bytes_list5 {w : World} {a1 : Option Addr} {len : Nat} {f : Nat → Int} (hr : Row w a1 len (fun k => .int .u8 (f k)) ∧ ∀ k, k < len → (Lit.int .u8 (f k)).wf = true) :
    ∃ d : List Nat, len = d.length ∧ Row w a1 d.length (byteV d) ∧ ∀ c ∈ d, c < 256 := by
  obtain ⟨hr, hwf⟩ := hr
  refine ⟨(List.range len).map fun k => (f k).toNat, by simp, ?_, fun c hc => ?_⟩
  · simp only [List.length_map, List.length_range]
    refine hr.congr fun k hk => ?_
    have := bounds_u8 (hwf k hk)
    simp [byteV, List.getD_eq_getElem?_getD, hk]; omega
  · obtain ⟨k, hk, rfl⟩ := List.mem_map.1 hc
    have := bounds_u8 (hwf k (List.mem_range.1 hk))
    omega
/-- the first documents, by their ids -/
def ddT (ds : List (List Nat)) (N : Nat) : Int → List Nat := fun i => if 1 ≤ i ∧ i ≤ (N : Int) then ds.getD (i - 1).toNat [] else []
theorem ddT_at (ds : List (List Nat)) (N k : Nat) (hk : k < N) : ddT ds N ((k : Int) + 1) = ds.getD k [] := by
  unfold ddT
  rw [if_pos (by omega), show ((k : Int) + 1 - 1).toNat = k by omega]
theorem ddT_byte {ds : List (List Nat)} (h : ∀ d ∈ ds, ∀ c ∈ d, c < 256) (N : Nat) : ∀ i, ∀ c ∈ ddT ds N i, c < 256 := by
  intro i c hc
  unfold ddT at hc
  split at hc
  · rw [List.getD_eq_getElem?_getD] at hc
    rcases Nat.lt_or_ge (i - 1).toNat ds.length with hl | hl
    · rw [List.getElem?_eq_getElem hl] at hc
      exact h _ (List.getElem_mem hl) c hc
    · rw [List.getElem?_eq_none hl] at hc; simp at hc
  · simp at hc
theorem ddT_len {ds : List (List Nat)} {N M : Nat} (h : ∀ k, k < N → (ds.getD k []).length ≤ M) (i : Int) : (ddT ds N i).length ≤ M := by
  unfold ddT
  split
  · exact h _ (by omega)
  · exact Nat.zero_le _
attribute [irreducible] ddT
theorem hitsL_cons (dd : Int → List Nat) (P : List Nat) (e : BEnt) (L : List BEnt) : hitsL dd P (e :: L) = ((inL P (dd e.1)).map fun k => (e.1.toNat, k)) ++ hitsL dd P L := by
  have h1 : hitsL dd P (e :: L) = hitsL dd P ([e] ++ L) := rfl
  have h2 : hitsL dd P [e] = hitsL dd P ([] ++ [e]) := rfl
  rw [h1, hitsL_app, h2, hitsL_snoc, hitsL_nil, List.nil_append]
theorem hitsL_ks (dd : Int → List Nat) (P : List Nat) : ∀ {L L' : List BEnt}, ksG L = ksG L' → hitsL dd P L = hitsL dd P L'
  | [], [], _ => rfl
  | [], _ :: _, h => by simp [ksG] at h
  | _ :: _, [], h => by simp [ksG] at h
  | e :: L, e' :: L', h => by
    have h0 : e.1 :: ksG L = e'.1 :: ksG L' := h
    injection h0 with h1 h2
    rw [hitsL_cons, hitsL_cons, h1, hitsL_ks dd P h2]
theorem hitsL_few (dd : Int → List Nat) (P : List Nat) (M : Nat) (h : ∀ i, (dd i).length + 1 ≤ M) : ∀ L : List BEnt, (hitsL dd P L).length ≤ L.length * M
  | [] => by rw [hitsL_nil]; exact Nat.zero_le _
  | e :: L => by
    have h1 := hitsL_few dd P M h L
    have h2 := inL_len P (dd e.1)
    have h3 := h e.1
    rw [hitsL_cons, List.length_append, List.length_map, List.length_cons, Nat.succ_mul]
    omega
/-- the bytes of the first k documents, of each at most so many -/
def sumT (ds : List (List Nat)) (k : Nat) : Nat := ((List.range k).map fun j => min (ds.getD j []).length 5000).sum
theorem sumT_zero (ds : List (List Nat)) : sumT ds 0 = 0 := rfl
theorem sumT_succ (ds : List (List Nat)) (k : Nat) : sumT ds (k + 1) = sumT ds k + min (ds.getD k []).length 5000 := by
  unfold sumT
  rw [List.range_succ, List.map_append, List.sum_append]; simp
theorem sumT_le (ds : List (List Nat)) (k : Nat) : sumT ds k ≤ k * 5000 := by
  induction k with
  | zero => simp [sumT_zero]
  | succ k ih => rw [sumT_succ]; omega
theorem sumT_mono (ds : List (List Nat)) {k m : Nat} (h : k ≤ m) : sumT ds k ≤ sumT ds m := by
  obtain ⟨t, rfl⟩ := Nat.le.dest h
  induction t with
  | zero => exact Nat.le_refl _
  | succ t ih => rw [← Nat.add_assoc, sumT_succ]; have := ih (by omega); omega
attribute [irreducible] sumT
theorem sumT_one (ds : List (List Nat)) {k m : Nat} (h : k < m) (hs : sumT ds m ≤ 2000) : (ds.getD k []).length ≤ 2000 ∧ sumT ds (k + 1) = sumT ds k + (ds.getD k []).length := by
  have h1 := sumT_succ ds k
  have h2 := sumT_mono ds (show k + 1 ≤ m from h)
  constructor <;> omega
set_option maxRecDepth 100000 in
set_option maxHeartbeats 8000000 in
theorem bufTwice_walk (w : World) (hmx : MaxCell w) (a : Option Addr) (cap : Nat) (A : Nat → Option Addr) (C : Nat → Nat) (ds : List (List Nat)) (hin : DocsIn w a A C ds) (wh : Int) (hwh : (Lit.int .i64 wh).wf = true) (a1 : Option Addr) (len cap1 : Nat) (f : Nat → Int) (hl : len ≤ maxLen) (hr : Row w a1 len (fun k => .int .u8 (f k)) ∧ ∀ k, k < len → (Lit.int .u8 (f k)).wf = true) :
    Calls Try.prog 4 #[.slice a ds.length cap, .int .i64 wh, .slice a1 len cap1] w fun e w' => e = .returned (.bool true) ∧ Below w.heap.size w w' := by
  obtain ⟨P, hd, hdr, hpb⟩ := bytes_list5 hr
  subst hd
  unfold maxLen at hl
  obtain ⟨N, hN⟩ : ∃ N, N = min ds.length 20 := ⟨_, rfl⟩
  have hN20 : N ≤ 20 := by omega
  have hNd : N ≤ ds.length := by omega
  have hmn : min (ds.length : Int) 20 = (N : Int) := by omega
  have hmany := hin.many
  have hix := run_ix (P := Try.prog) 30 (by kernel_rfl) size_bytes a ds.length cap hin.docs.top.at_ .i64
  have HIX := Lib.hid hix
  have HIN := Lib.hid hin
  have HMX := Lib.hid hmx
  have HP := Lib.hid hdr
  have HPB := Lib.hid hpb
  have HND := Lib.hid hNd
  have HAW := Lib.hid (fun W (hW : Below w.heap.size w W) => awakeB W (MaxCell.kept hmx hW))
  clear hix hin hmx hdr hpb hr hwh hN
  go_enter Try.func4, Try.ntmps4
  go_wp2
  go_loopw [8, 9] (fun v8 v9 wr => ∃ k : Nat, k ≤ N ∧ v9 = .int .i64 (k : Int) ∧ v8 = .int .i64 ((sumT ds k : Nat) : Int) ∧ wr = w) (fun _ v9 _ => N - (intOf v9).toNat)
  case atStart => exact ⟨0, Nat.zero_le _, rfl, by rw [sumT_zero]; rfl, rfl⟩
  case round =>
    obtain ⟨k, hk, rfl, rfl, hwr⟩ := hrel
    subst hwr
    by_cases hlt : k < N
    · have t0 : (k : Int) < (N : Int) := by omega
      have hkd : k < ds.length := by have := HND.out; omega
      have d0 := HIN.out.docs.top.cell k hkd
      have hbig := HIN.out.long k hkd
      unfold maxLen at hbig
      have hix := HIX.out
      have HST := Lib.hid (sumT_succ ds k)
      have hsl := sumT_le ds k
      obtain ⟨n, hn⟩ : ∃ n, n = (ds.getD k []).length := ⟨_, rfl⟩
      obtain ⟨s, hs⟩ : ∃ s, s = sumT ds k := ⟨_, rfl⟩
      rw [← hn] at d0 hbig HST
      rw [← hs] at HST hsl ⊢
      clear hn hs
      by_cases h5 : (n : Int) ≤ 5000
      · have h5d : decide ((n : Int) ≤ 5000) = true := decide_eq_true h5
        have hwn : IntKind.i64.wrap ((s : Int) + (n : Int)) = (s : Int) + (n : Int) := IntWalk.i64_in _ (by omega)
        go_wp2_with fail
        go_roundw
        case rel => exact ⟨k + 1, by omega, by go_num, by rw [HST.out]; congr 1; omega, trivial⟩
        case measure => simp [intOf]; omega
      · have h5d : decide ((n : Int) ≤ 5000) = false := decide_eq_false h5
        have hwn : IntKind.i64.wrap ((s : Int) + 5000) = (s : Int) + 5000 := IntWalk.i64_in _ (by omega)
        go_wp2_with fail
        go_roundw
        case rel => exact ⟨k + 1, by omega, by go_num, by rw [HST.out]; congr 1; omega, trivial⟩
        case measure => simp [intOf]; omega
    · have ek : N = k := by omega
      subst ek
      have t0 : ¬ (N : Int) < (N : Int) := by omega
      obtain ⟨w0, hw0⟩ : ∃ w0, w0 = wr := ⟨_, rfl⟩
      subst hw0
      clear hlt hk
      by_cases hbg : sumT ds N ≤ 2000
      · have t1 : ¬ ((2000 : Int) < ((sumT ds N : Nat) : Int)) := by omega
        by_cases hp : P.length ≤ 60
        · have t2 : ¬ ((60 : Int) < (P.length : Int)) := by omega
          have t2d : decide ((60 : Int) < (P.length : Int)) = false := decide_eq_false t2
          have HNA := Lib.hid (newBuf (ddT ds N) w0)
          have HNB := Lib.hid (fun W => newBuf (ddT ds N) W)
          go_wp2_with fail
          refine HNA.out.mono ?_
          rintro e w1 ⟨ba, ma, rfl, hba, hb1⟩
          go_wp2_with fail
          refine (HNB.out w1).mono ?_
          rintro e w2 ⟨bb, mb, rfl, hbb, hb2⟩
          have HTB := Lib.hid (two_new hba hb1 hbb hb2)
          have eg1 := fun W => egPtrB ba W
          have eg2 := fun W => egPtrB bb W
          clear hba hb1 hbb hb2 HNA HNB
          go_wp2
          clear t0 t1 t2 t2d hmn
          go_loopw [12] (fun v12 wr => ∃ (k : Nat) (va vb : Value) (La Lb : List BEnt), k ≤ N ∧ v12 = .int .i64 (k : Int) ∧ TwoBuf w0 (ddT ds N) (ddT ds N) wr ba ma va La bb mb vb Lb ∧ KeyN La k (sumT ds k) (fun x => 1 ≤ x ∧ x ≤ (k : Int)) ∧ KeyN Lb k (sumT ds k) (fun x => 1 ≤ x ∧ x ≤ (k : Int))) (fun v12 _ => N - (intOf v12).toNat)
          case atStart => exact ⟨0, _, _, [], [], Nat.zero_le _, rfl, HTB.out, KeyN.nil.congr rfl (sumT_zero ds).symm (fun x => by simp; omega), KeyN.nil.congr rfl (sumT_zero ds).symm (fun x => by simp; omega)⟩
          case round =>
            obtain ⟨k, va, vb, La, Lb, hk, rfl, htb, hya, hyb⟩ := hrel
            clear HTB
            by_cases hlt : k < N
            · have t0 : (k : Int) < (N : Int) := by omega
              have hkd : k < ds.length := by omega
              have d0 := (HIN.out.docs.kept htb.bel).top.cell k hkd
              have hix := HIX.out
              obtain ⟨hn2, hsu⟩ := sumT_one ds hlt hbg
              have hni : ¬ ((1 : Int) ≤ (k : Int) + 1 ∧ (k : Int) + 1 ≤ (k : Int)) := by omega
              have hla := hya.len
              have hta := hya.tot
              have hlb := hyb.len
              have htb2 := hyb.tot
              have hsm := sumT_mono ds hk
              have HA := Lib.hid (addB_ok htb.a htb.bel.size ((k : Int) + 1) (by omega) (fun h => hni ((hya.mem _).1 h)) (A k) (ds.getD k []).length (C k) (by rw [ddT_at ds N k hlt]; exact (HIN.out.docs.kept htb.bel).each k hkd) (by rw [ddT_at ds N k hlt]) (by omega) (by omega) (by omega))
              have HT := Lib.hid htb
              have HYA := Lib.hid hya
              have HYB := Lib.hid hyb
              have HNI := Lib.hid hni
              have HPA := Lib.hid (fun z => hya.put z hni)
              have HPB2 := Lib.hid (fun z => hyb.put z hni)
              have HSU := Lib.hid hsu
              have HN2 := Lib.hid hn2
              have HKD := Lib.hid hkd
              have HSM := Lib.hid hsm
              have hwk : IntKind.i64.wrap ((k : Int) + 1) = (k : Int) + 1 := IntWalk.i64_in _ (by omega)
              clear htb hya hyb hla hta hlb htb2 hsm hni hsu hn2
              generalize hnn : (ds.getD k []).length = n at *
              have HNN := Lib.hid hnn
              clear hnn
              go_wp2_with fail
              refine HA.out.mono ?_
              rintro e w3 ⟨rfl, z, hz, htn⟩
              obtain ⟨va', ht3⟩ := HT.out.left htn
              have hk3 := HPA.out z
              rw [hz] at hk3
              have HB := Lib.hid (addB_ok ht3.b ht3.bel.size ((k : Int) + 1) (by omega) (fun h => HNI.out ((HYB.out.mem _).1 h)) (A k) n (C k) (by rw [ddT_at ds N k hlt, ← HNN.out]; exact (HIN.out.docs.kept ht3.bel).each k hkd) (by rw [ddT_at ds N k hlt, HNN.out]) HN2.out (by have := HYB.out.len; omega) (by have := HYB.out.len; have := HYB.out.tot; have := HSM.out; have := HN2.out; omega))
              have d3 : w3.cell? ⟨bOf a, oOf a + k, none⟩ = some (.slice (A k) n (C k)) := by rw [← HNN.out]; exact (HIN.out.docs.kept ht3.bel).top.cell k hkd
              have HT3 := Lib.hid ht3
              have HKA := Lib.hid hk3
              clear htn ht3 hk3 hz HA HPA HT d0
              go_wp2_with fail
              refine HB.out.mono ?_
              rintro e w4 ⟨rfl, z', hz', htn⟩
              obtain ⟨vb', ht4⟩ := HT3.out.right htn
              have hk4 := HPB2.out z'
              rw [hz'] at hk4
              have HT4 := Lib.hid ht4
              have HKB := Lib.hid hk4
              clear htn ht4 hk4 hz' HB HPB2 HT3 d3
              go_wp2
              go_roundw
              case rel => exact ⟨k + 1, va', vb', _, _, by omega, by go_num, HT4.out, HKA.out.congr rfl HSU.out.symm (fun x => by constructor <;> (intro h; omega)), HKB.out.congr rfl HSU.out.symm (fun x => by constructor <;> (intro h; omega))⟩
              case measure => simp [intOf]; omega
            · have ek : k = N := by omega
              subst ek
              have t0 : ¬ (k : Int) < (k : Int) := by omega
              obtain ⟨w5, hw5⟩ : ∃ w5, w5 = wr := ⟨_, rfl⟩
              subst hw5
              have HTB := Lib.hid htb
              have HYA := Lib.hid hya
              have HYB0 := Lib.hid hyb
              clear htb hya hyb hlt hk
              go_wp2
              clear t0
              go_loopw [13] (fun v13 wr => ∃ (j : Nat) (vc : Value) (Lc : List BEnt), j ≤ k ∧ v13 = .int .i64 (j : Int) ∧ TwoBuf w0 (ddT ds k) (ddT ds k) wr ba ma va La bb mb vc Lc ∧ KeyN Lc k (sumT ds k) (fun x => 1 ≤ x ∧ x ≤ (k : Int))) (fun v13 _ => k - (intOf v13).toNat)
              case atStart => exact ⟨0, _, _, Nat.zero_le _, rfl, HTB.out, HYB0.out⟩
              case round =>
                obtain ⟨j, vc, Lc, hj, rfl, htb, hyb⟩ := hrel
                clear HTB HYB0
                by_cases hlt : j < k
                · have t0 : (j : Int) < (k : Int) := by omega
                  have hmk : bits .and .i64 (j : Int) 31 = (j : Int) := by
                    rw [show bits .and .i64 (j : Int) 31 = (j : Int) % 32 from i64_mask _ 5 (by omega)]; omega
                  have t1 : ¬ ((j : Int) < 0) := by omega
                  rcases Bool.eq_false_or_eq_true (bits .and .i64 (wh / 2 ^ j) 1 == 0) with hb | hb
                  · have HT := Lib.hid htb
                    have HYB := Lib.hid hyb
                    clear htb hyb
                    go_wp2_with fail
                    go_roundw
                    case rel => exact ⟨j + 1, vc, Lc, by omega, by go_num, HT.out, HYB.out⟩
                    case measure => simp [intOf]; omega
                  · have hkd : j < ds.length := by omega
                    obtain ⟨hn2, hsu⟩ := sumT_one ds hlt hbg
                    have hdd : ddT ds k ((j : Int) + 1) = ds.getD j [] := ddT_at ds k j hlt
                    have hsm := sumT_mono ds (show j + 1 ≤ k by omega)
                    have hp1 : (1 : Int) ≤ (j : Int) + 1 ∧ (j : Int) + 1 ≤ (k : Int) := by omega
                    have hin1 : ((j : Int) + 1) ∈ ksG Lc := (hyb.mem _).2 hp1
                    have hlc := hyb.len
                    have htc := hyb.tot
                    have hd1 := dropB htb.b (by omega) (by omega) ((j : Int) + 1)
                    rw [memB_true hin1] at hd1
                    have hy1 := hyb.del htb.b hp1
                    rw [hdd] at hy1
                    have HD1 := Lib.hid hd1
                    have HY1 := Lib.hid hy1
                    have HT := Lib.hid htb
                    have HN2 := Lib.hid hn2
                    have HSU := Lib.hid hsu
                    have HSM := Lib.hid hsm
                    have HDD := Lib.hid hdd
                    have HP1 := Lib.hid hp1
                    have hwk : IntKind.i64.wrap ((j : Int) + 1) = (j : Int) + 1 := IntWalk.i64_in _ (by omega)
                    have hix := HIX.out
                    generalize hnn : (ds.getD j []).length = n at *
                    have HNN := Lib.hid hnn
                    clear htb hyb hin1 hlc htc hd1 hy1 hn2 hsu hsm hdd hp1 hnn
                    go_wp2_with fail
                    refine HD1.out.mono ?_
                    rintro e w6 ⟨rfl, htn⟩
                    obtain ⟨vd, ht6⟩ := HT.out.right htn
                    clear htn
                    generalize delE ltI Lc ((j : Int) + 1) = Ld at *
                    have hl6 := HY1.out.len
                    have htt6 := HY1.out.tot
                    have hni : ((j : Int) + 1) ∉ ksG Ld := fun h => ((HY1.out.mem _).1 h).2 rfl
                    have hd2 := dropB ht6.b (by omega) (by have := HSM.out; omega) ((j : Int) + 1)
                    rw [memB_false hni, delE_out hni] at hd2
                    have HNI := Lib.hid hni
                    have HD2 := Lib.hid hd2
                    have HT6 := Lib.hid ht6
                    clear hl6 htt6 hni hd2 ht6 HD1 HT
                    go_wp2_with fail
                    refine HD2.out.mono ?_
                    rintro e w7 ⟨rfl, htn⟩
                    obtain ⟨ve, ht7⟩ := HT6.out.right htn
                    clear htn
                    have d7 : w7.cell? ⟨bOf a, oOf a + j, none⟩ = some (.slice (A j) n (C j)) := by rw [← HNN.out]; exact (HIN.out.docs.kept ht7.bel).top.cell j hkd
                    have HAD := Lib.hid (addB_ok ht7.b ht7.bel.size ((j : Int) + 1) (by omega) HNI.out (A j) n (C j) (by rw [HDD.out, ← HNN.out]; exact (HIN.out.docs.kept ht7.bel).each j hkd) (by rw [HDD.out, HNN.out]) HN2.out (by have := HY1.out.len; omega) (by have := HY1.out.len; have := HY1.out.tot; have := HSM.out; have := HN2.out; omega))
                    have HPT := Lib.hid (fun z => HY1.out.put z (fun h => h.2 rfl))
                    have HT7 := Lib.hid ht7
                    clear ht7 HD2 HT6
                    go_wp2_with fail
                    refine HAD.out.mono ?_
                    rintro e w8 ⟨rfl, z, hz, htn⟩
                    obtain ⟨vf, ht8⟩ := HT7.out.right htn
                    have hk8 := HPT.out z
                    rw [hz] at hk8
                    clear htn hz HAD HPT HT7 d7
                    generalize putE ltI Ld ((j : Int) + 1) z = Lf at *
                    have d8 : w8.cell? ⟨bOf a, oOf a + j, none⟩ = some (.slice (A j) n (C j)) := by rw [← HNN.out]; exact (HIN.out.docs.kept ht8.bel).top.cell j hkd
                    have HAD := Lib.hid (addB_old ht8.b (by have := hk8.len; omega) ((j : Int) + 1) (by omega) ((hk8.mem _).2 (.inl rfl)) (A j) n (C j))
                    have HT8 := Lib.hid ht8
                    have HY8 := Lib.hid (hk8.congr (m' := k) (t' := sumT ds k) (q := fun x => 1 ≤ x ∧ x ≤ (k : Int)) (by omega) (by have := HSM.out; have := HSU.out; omega) (fun x => by have := HP1.out; constructor <;> (intro h; omega)))
                    clear ht8 hk8
                    go_wp2_with fail
                    refine HAD.out.mono ?_
                    rintro e w9 ⟨rfl, hb9⟩
                    have HT9 := Lib.hid (HT8.out.kept hb9)
                    clear hb9 HAD d8 HT8
                    go_wp2
                    go_roundw
                    case rel => exact ⟨j + 1, vf, Lf, by omega, by go_num, HT9.out, HY8.out⟩
                    case measure => simp [intOf]; omega
                · have ej : j = k := by omega
                  subst ej
                  have t0 : ¬ (j : Int) < (j : Int) := by omega
                  obtain ⟨w6, hw6⟩ : ∃ w6, w6 = wr := ⟨_, rfl⟩
                  subst hw6
                  have hya := HYA.out
                  have hla := hya.len
                  have hlc := hyb.len
                  have hkk : ksG Lc = ksG La := rise_ext ordI htb.b.rise htb.a.rise (fun x => (hyb.mem x).trans (hya.mem x).symm)
                  have hGl : (ksG La).length = j := by rw [ksG_len]; exact hla
                  have hD : ∀ i, (ddT ds j i).length ≤ 2000 := ddT_len (fun q hq => (sumT_one ds hq hbg).1)
                  have hdb := ddT_byte HIN.out.byte j
                  have hHk : hitsL (ddT ds j) P Lc = hitsL (ddT ds j) P La := hitsL_ks _ _ hkk
                  have hHl : (hitsL (ddT ds j) P La).length ≤ 60000 := by
                    have h1 := hitsL_few (ddT ds j) P 2001 (fun i => by have := hD i; omega) La
                    rw [hla] at h1
                    omega
                  have hpa : ∀ e ∈ La, 0 ≤ e.1 := fun e he => by have := (hya.mem e.1).1 (by unfold ksG; exact List.mem_map_of_mem he); omega
                  have hpc : ∀ e ∈ Lc, 0 ≤ e.1 := fun e he => by have := (hyb.mem e.1).1 (by unfold ksG; exact List.mem_map_of_mem he); omega
                  have HAA := Lib.hid (allB_any w6 w0.heap.size (ddT ds j) ba ma va La htb.a (by omega) (fun i => by have := hD i; omega) hdb 1000 (by omega))
                  have HAB := Lib.hid (fun W (hW : Below w6.heap.size w6 W) => allB_any W w0.heap.size (ddT ds j) bb mb vc Lc (htb.b.kept hW) (by omega) (fun i => by have := hD i; omega) hdb 1000 (by omega))
                  have HHA0 := Lib.hid (fun W (hW : Below w6.heap.size w6 W) => hitsB_any w0.heap.size (ddT ds j) W ba ma va La (htb.a.kept hW) (MaxCell.kept HMX.out (below_next htb.bel hW htb.bel.size)) P hdb HPB.out (by omega) (by omega) (fun i => by have := hD i; omega) hpa hHl 100000 (by omega))
                  have HHB0 := Lib.hid (fun W (hW : Below w6.heap.size w6 W) => hitsB_any w0.heap.size (ddT ds j) W bb mb vc Lc (htb.b.kept hW) (MaxCell.kept HMX.out (below_next htb.bel hW htb.bel.size)) P hdb HPB.out (by omega) (by omega) (fun i => by have := hD i; omega) hpc (by rw [hHk]; exact hHl) 100000 (by omega))
                  have HYA0 := Lib.hid (fun W (hW : Below w6.heap.size w6 W) => bytesB (htb.a.kept hW))
                  have HYB0 := Lib.hid (fun W (hW : Below w6.heap.size w6 W) => bytesB (htb.b.kept hW))
                  have HDO0 := Lib.hid (fun W (hW : Below w6.heap.size w6 W) => docsB (htb.a.kept hW))
                  have HTA := Lib.hid hya.tot
                  have HTC := Lib.hid hyb.tot
                  have HLA := Lib.hid hla
                  have HB6 := Lib.hid htb.bel
                  have HKK := Lib.hid hkk
                  have HHK := Lib.hid hHk
                  have hGl2 : (ksG La).length ≤ 1000 := by omega
                  clear htb hyb hlt hj hya hla hlc hkk hGl hD hdb hHk hpa hpc HYA
                  go_wp2_with fail
                  refine HAA.out.mono ?_
                  rintro e w7 h7
                  unfold AllPost at h7
                  rw [List.take_of_length_le hGl2] at h7
                  obtain ⟨x, cx, y, cy, rfl, hrx, hry, hb7⟩ := h7
                  have HB7 := Lib.hid hb7
                  have HRX7 := Lib.hid hrx
                  have HRY7 := Lib.hid hry
                  clear hb7 hrx hry HAA
                  go_wp2_with fail
                  refine (HAB.out w7 HB7.out).mono ?_
                  rintro e w8 h8
                  unfold AllPost at h8
                  rw [HKK.out, List.take_of_length_le hGl2] at h8
                  obtain ⟨z, cz, zz, czz, rfl, hrz, hrzz, hb8⟩ := h8
                  have HRZ := Lib.hid hrz
                  have HRZZ := Lib.hid hrzz
                  have HRX := Lib.hid (HRX7.out.kept hb8)
                  have HRY := Lib.hid (HRY7.out.kept hb8)
                  have HB8 : Hid (Below w6.heap.size w6 w8) := below_next HB7.out hb8 HB7.out.size
                  have HBL : Hid (Below w0.heap.size w0 w8) := below_next HB6.out HB8.out HB6.out.size
                  have HBD : Hid (Below w8.heap.size w8 w8.drew) := (Below.refl _ _).drew
                  have HUP : Hid (∀ W, Below w8.heap.size w8 W → Below w6.heap.size w6 W) := fun W hW => below_next HB8.out hW HB8.out.size
                  have HCV : Hid (∀ W, Below w8.heap.size w8 W → (convert 26 9 (.slice a1 P.length cap1)).run Try.prog W = .ok (.string (sB P)) W) := fun W hW => conv_str W a1 P cap1 (HP.out.kept (below_next HBL.out hW HBL.out.size))
                  have HHA : Hid (∀ W, Below w8.heap.size w8 W → Calls Try.prog 20 #[.pointer (some ⟨ba, 0, none⟩), .string (sB P), .int .i64 100000] W fun e w' => ∃ a cap, e = .returned (.slice a (hitsL (ddT ds j) P La).length cap) ∧ HRow w' a (hitsL (ddT ds j) P La) ∧ Below W.heap.size W w') := fun W hW => (HHA0.out W (HUP.out W hW)).mono (by
                    rintro e w' ⟨a, c, he, hr, hb⟩
                    rw [List.take_of_length_le (by omega)] at he hr
                    exact ⟨a, c, he, hr, hb⟩)
                  have HHB : Hid (∀ W, Below w8.heap.size w8 W → Calls Try.prog 20 #[.pointer (some ⟨bb, 0, none⟩), .string (sB P), .int .i64 100000] W fun e w' => ∃ a cap, e = .returned (.slice a (hitsL (ddT ds j) P La).length cap) ∧ HRow w' a (hitsL (ddT ds j) P La) ∧ Below W.heap.size W w') := fun W hW => (HHB0.out W (HUP.out W hW)).mono (by
                    rintro e w' ⟨a, c, he, hr, hb⟩
                    rw [HHK.out, List.take_of_length_le (by omega)] at he hr
                    exact ⟨a, c, he, hr, hb⟩)
                  have HBYA : Hid (∀ W, Below w8.heap.size w8 W → Calls Try.prog 21 #[.pointer (some ⟨ba, 0, none⟩)] W fun e w' => e = .returned (.int .i64 ((sumT ds j : Nat) : Int)) ∧ w' = W) := fun W hW => by
                    have := HYA0.out W (HUP.out W hW)
                    rw [HTA.out] at this; exact this
                  have HBYB : Hid (∀ W, Below w8.heap.size w8 W → Calls Try.prog 21 #[.pointer (some ⟨bb, 0, none⟩)] W fun e w' => e = .returned (.int .i64 ((sumT ds j : Nat) : Int)) ∧ w' = W) := fun W hW => by
                    have := HYB0.out W (HUP.out W hW)
                    rw [HTC.out] at this; exact this
                  have HDO : Hid (∀ W, Below w8.heap.size w8 W → Calls Try.prog 22 #[.pointer (some ⟨ba, 0, none⟩)] W fun e w' => e = .returned (.int .i64 (j : Int)) ∧ w' = W) := fun W hW => by
                    have := HDO0.out W (HUP.out W hW)
                    rw [HLA.out] at this; exact this
                  clear hrz hrzz hb8 HAB HHA0 HHB0 HYA0 HYB0 HDO0 HTA HTC HLA HKK HHK HB6 HB7 HRX7 HRY7 HB8 HUP HP HPB HMX HIN HIX HND
                  generalize hitsL (ddT ds j) P La = H at *
                  generalize ksG La = G at *
                  generalize sumT ds j = tot at *
                  go_upto_region 25 with fail
                  refine wp_noPanic ?_
                  refine wp_region_any (by kernel_rfl) ?_
                  change wpAny _ _ _ _ _ #[false, false, false, false, false, false, false, false, false, false, false, false, false, false, false, false, false, false, false, false, false, false, false, false, false, false, false, false, false, false, false, false, false, false, false, false] _ (World.drew _)
                  refine wpAny_take (i := 0) (v := ?_) rfl (by kernel_rfl) (by kernel_rfl) (by kernel_rfl) (fun _ _ _ h => h) (Or.inl ⟨by rfl, ?_⟩) ?_
                  rotate_left
                  · intro w
                    go_simp
                    with_reducible rfl
                  change wpAny _ _ _ _ _ _ (Act.put _ (some 129) _) _
                  go_frame
                  refine wpAny_take (i := 1) (v := ?_) rfl (by kernel_rfl) (by kernel_rfl) (by kernel_rfl) (fun _ _ _ h => h) (Or.inl ⟨by rfl, ?_⟩) ?_
                  rotate_left
                  · intro w
                    go_simp
                    with_reducible rfl
                  change wpAny _ _ _ _ _ _ (Act.put _ (some 130) _) _
                  go_frame
                  refine wpAny_ready (rs := [2]) (by kernel_rfl) (by simp) ?_
                  refine AllReady.cons rfl (fun K hK => ?_) AllReady.nil
                  go_simp
                  refine (same_yes _ x z G.length cx cz (fun q => G.getD q 0) (by omega) (HRX.out.kept HBD.out) (HRZ.out.kept HBD.out)).mono ?_
                  rintro e w' ⟨rfl, j1, rfl⟩
                  have HB1 := Lib.hid (below_drewN HBD.out j1)
                  generalize w8.drew.drewN j1 = W1 at *
                  refine hK _ _ ?_
                  clear hK K
                  go_frame
                  refine wpAny_take (i := 3) (v := ?_) rfl (by kernel_rfl) (by kernel_rfl) (by kernel_rfl) (fun _ _ _ h => h) (Or.inl ⟨by rfl, ?_⟩) ?_
                  rotate_left
                  · intro w
                    go_simp
                    with_reducible rfl
                  change wpAny _ _ _ _ _ _ (Act.put _ (some 132) _) _
                  go_frame
                  refine wpAny_take (i := 4) (v := ?_) rfl (by kernel_rfl) (by kernel_rfl) (by kernel_rfl) (fun _ _ _ h => h) (Or.inl ⟨by rfl, ?_⟩) ?_
                  rotate_left
                  · intro w
                    go_simp
                    with_reducible rfl
                  change wpAny _ _ _ _ _ _ (Act.put _ (some 133) _) _
                  go_frame
                  refine wpAny_take (i := 5) (v := ?_) rfl (by kernel_rfl) (by kernel_rfl) (by kernel_rfl) (fun _ _ _ h => h) (Or.inl ⟨by rfl, ?_⟩) ?_
                  rotate_left
                  · intro w
                    go_simp
                    with_reducible rfl
                  change wpAny _ _ _ _ _ _ (Act.put _ (some 134) _) _
                  go_frame
                  refine wpAny_ready (rs := [6]) (by kernel_rfl) (by simp) ?_
                  refine AllReady.cons rfl (fun K hK => ?_) AllReady.nil
                  go_simp
                  refine (sametxt_yes _ y zz G.length cy czz (fun q => (G.map (fun i => sB (ddT ds j i))).getD q ⟨#[]⟩) (by omega) (HRY.out.kept HB1.out) (HRZZ.out.kept HB1.out)).mono ?_
                  rintro e w' ⟨rfl, j2, rfl⟩
                  have HB2 := Lib.hid (below_drewN HB1.out j2)
                  generalize W1.drewN j2 = W2 at *
                  have hcv2 := HCV.out _ HB2.out
                  refine hK _ _ ?_
                  clear hK K
                  go_frame
                  refine wpAny_take (i := 7) (v := ?_) rfl (by kernel_rfl) (by kernel_rfl) (by kernel_rfl) (fun _ _ _ h => h) (Or.inl ⟨by rfl, ?_⟩) ?_
                  rotate_left
                  · intro w
                    go_simp
                    with_reducible rfl
                  change wpAny _ _ _ _ _ _ (Act.put _ (some 136) _) _
                  go_frame
                  refine wpAny_take (i := 8) (v := ?_) rfl (by kernel_rfl) (by kernel_rfl) (by kernel_rfl) (fun _ _ _ h => h) (Or.inl ⟨by rfl, ?_⟩) ?_
                  rotate_left
                  · intro w
                    go_simp
                    with_reducible rfl
                  change wpAny _ _ _ _ _ _ (Act.put _ (some 137) _) _
                  go_frame
                  refine wpAny_take (i := 9) (v := ?_) rfl (by kernel_rfl) (by kernel_rfl) (by kernel_rfl) (fun _ _ _ h => h) (Or.inl ⟨by rfl, ?_⟩) ?_
                  rotate_left
                  · intro w
                    go_simp
                    with_reducible rfl
                  change wpAny _ _ _ _ _ _ (Act.put _ (some 138) _) _
                  go_frame
                  refine wpAny_take (i := 10) (v := ?_) rfl (by kernel_rfl) (by kernel_rfl) (by kernel_rfl) (fun _ _ _ h => h) (Or.inl ⟨by rfl, ?_⟩) ?_
                  rotate_left
                  · intro w
                    go_simp
                    with_reducible rfl
                  change wpAny _ _ _ _ _ _ (Act.put _ (some 139) _) _
                  go_frame
                  refine wpAny_take (i := 13) (v := ?_) rfl (by kernel_rfl) (by kernel_rfl) (by kernel_rfl) (fun _ _ _ h => h) (Or.inl ⟨by rfl, ?_⟩) ?_
                  rotate_left
                  · intro w
                    go_simp
                    with_reducible rfl
                  change wpAny _ _ _ _ _ _ (Act.put _ (some 142) _) _
                  go_frame
                  refine wpAny_take (i := 14) (v := ?_) rfl (by kernel_rfl) (by kernel_rfl) (by kernel_rfl) (fun _ _ _ h => h) (Or.inl ⟨by rfl, ?_⟩) ?_
                  rotate_left
                  · intro w
                    go_simp
                    with_reducible rfl
                  change wpAny _ _ _ _ _ _ (Act.put _ (some 143) _) _
                  go_frame
                  refine wpAny_ready (rs := [11, 15]) (by kernel_rfl) (by simp) ?_
                  refine (AllReady.cons rfl (fun K hK => ?_) (AllReady.cons rfl (fun K hK => ?_) AllReady.nil))
                  · go_simp
                    refine hK _ _ ?_
                    clear hK K
                    go_frame
                    refine wpAny_ready (rs := [12, 15]) (by kernel_rfl) (by simp) ?_
                    refine (AllReady.cons rfl (fun K hK => ?_) (AllReady.cons rfl (fun K hK => ?_) AllReady.nil))
                    · go_simp
                      refine (HHA.out _ HB2.out).mono ?_
                      rintro e wh1 ⟨ah, ch, rfl, hrh, hbh⟩
                      have HBH : Hid (Below w8.heap.size w8 wh1) := below_next HB2.out hbh HB2.out.size
                      have HRH := Lib.hid hrh
                      clear hbh hrh
                      have hcvH := HCV.out _ HBH.out
                      refine hK _ _ ?_
                      clear hK K
                      go_frame
                      refine wpAny_ready (rs := [15]) (by kernel_rfl) (by simp) ?_
                      refine (AllReady.cons rfl (fun K hK => ?_) AllReady.nil)
                      go_simp
                      refine hK _ _ ?_
                      clear hK K
                      go_frame
                      refine wpAny_ready (rs := [16]) (by kernel_rfl) (by simp) ?_
                      refine (AllReady.cons rfl (fun K hK => ?_) AllReady.nil)
                      go_simp
                      refine (HHB.out _ HBH.out).mono ?_
                      rintro e wf1 ⟨af, cf, rfl, hrf, hbf⟩
                      have HBF : Hid (Below w8.heap.size w8 wf1) := below_next HBH.out hbf HBH.out.size
                      have HRF := Lib.hid hrf
                      have HRH2 := Lib.hid (HRH.out.kept hbf)
                      clear hbf hrf
                      have hcvF := HCV.out _ HBF.out
                      refine hK _ _ ?_
                      clear hK K
                      go_frame
                      refine wpAny_ready (rs := [17]) (by kernel_rfl) (by simp) ?_
                      refine AllReady.cons rfl (fun K hK => ?_) AllReady.nil
                      go_simp
                      refine (samehits_any _ ah af ch cf H (by omega) HRH2.out HRF.out).mono ?_
                      rintro e w' ⟨rfl, j6, rfl⟩
                      have HBS := Lib.hid (below_drewN HBF.out j6)
                      refine hK _ _ ?_
                      clear hK K
                      go_frame
                      refine wpAny_take (i := 18) (v := ?_) rfl (by kernel_rfl) (by kernel_rfl) (by kernel_rfl) (fun _ _ _ h => h) (Or.inl ⟨by rfl, ?_⟩) ?_
                      rotate_left
                      · intro w
                        go_simp
                        with_reducible rfl
                      change wpAny _ _ _ _ _ _ (Act.put _ (some 147) _) _
                      go_frame
                      refine wpAny_take (i := 19) (v := ?_) rfl (by kernel_rfl) (by kernel_rfl) (by kernel_rfl) (fun _ _ _ h => h) (Or.inl ⟨by rfl, ?_⟩) ?_
                      rotate_left
                      · intro w
                        go_simp
                        with_reducible rfl
                      change wpAny _ _ _ _ _ _ (Act.put _ (some 148) _) _
                      go_frame
                      refine wpAny_take (i := 20) (v := ?_) rfl (by kernel_rfl) (by kernel_rfl) (by kernel_rfl) (fun _ _ _ h => h) (Or.inl ⟨by rfl, ?_⟩) ?_
                      rotate_left
                      · intro w
                        go_simp
                        with_reducible rfl
                      change wpAny _ _ _ _ _ _ (Act.put _ (some 149) _) _
                      go_frame
                      refine wpAny_take (i := 22) (v := ?_) rfl (by kernel_rfl) (by kernel_rfl) (by kernel_rfl) (fun _ _ _ h => h) (Or.inl ⟨by rfl, ?_⟩) ?_
                      rotate_left
                      · intro w
                        go_simp
                        with_reducible rfl
                      change wpAny _ _ _ _ _ _ (Act.put _ (some 151) _) _
                      go_frame
                      refine wpAny_ready (rs := [21]) (by kernel_rfl) (by simp) ?_
                      refine AllReady.cons rfl (fun K hK => ?_) AllReady.nil
                      go_simp
                      refine (HBYA.out _ HBS.out).mono ?_
                      rintro e w' ⟨rfl, hw⟩
                      subst hw
                      refine hK _ _ ?_
                      clear hK K
                      go_frame
                      refine wpAny_ready (rs := [23]) (by kernel_rfl) (by simp) ?_
                      refine AllReady.cons rfl (fun K hK => ?_) AllReady.nil
                      go_simp
                      refine (HBYB.out _ HBS.out).mono ?_
                      rintro e w' ⟨rfl, hw⟩
                      subst hw
                      refine hK _ _ ?_
                      clear hK K
                      go_frame
                      refine wpAny_take (i := 24) (v := ?_) rfl (by kernel_rfl) (by kernel_rfl) (by kernel_rfl) (fun _ _ _ h => h) (Or.inl ⟨by rfl, ?_⟩) ?_
                      rotate_left
                      · intro w
                        go_simp
                        with_reducible rfl
                      change wpAny _ _ _ _ _ _ (Act.put _ (some 153) _) _
                      go_frame
                      refine wpAny_take (i := 25) (v := ?_) rfl (by kernel_rfl) (by kernel_rfl) (by kernel_rfl) (fun _ _ _ h => h) (Or.inl ⟨by rfl, ?_⟩) ?_
                      rotate_left
                      · intro w
                        go_simp
                        with_reducible rfl
                      change wpAny _ _ _ _ _ _ (Act.put _ (some 154) _) _
                      go_frame
                      refine wpAny_take (i := 26) (v := ?_) rfl (by kernel_rfl) (by kernel_rfl) (by kernel_rfl) (fun _ _ _ h => h) (Or.inl ⟨by rfl, ?_⟩) ?_
                      rotate_left
                      · intro w
                        go_simp
                        with_reducible rfl
                      change wpAny _ _ _ _ _ _ (Act.put _ (some 155) _) _
                      go_frame
                      refine wpAny_take (i := 27) (v := ?_) rfl (by kernel_rfl) (by kernel_rfl) (by kernel_rfl) (fun _ _ _ h => h) (Or.inl ⟨by rfl, ?_⟩) ?_
                      rotate_left
                      · intro w
                        go_simp
                        with_reducible rfl
                      change wpAny _ _ _ _ _ _ (Act.put _ (some 156) _) _
                      go_frame
                      refine wpAny_take (i := 29) (v := ?_) rfl (by kernel_rfl) (by kernel_rfl) (by kernel_rfl) (fun _ _ _ h => h) (Or.inl ⟨by rfl, ?_⟩) ?_
                      rotate_left
                      · intro w
                        go_simp
                        with_reducible rfl
                      change wpAny _ _ _ _ _ _ (Act.put _ (some 158) _) _
                      go_frame
                      refine wpAny_ready (rs := [28]) (by kernel_rfl) (by simp) ?_
                      refine AllReady.cons rfl (fun K hK => ?_) AllReady.nil
                      go_simp
                      refine (HDO.out _ HBS.out).mono ?_
                      rintro e w' ⟨rfl, hw⟩
                      subst hw
                      refine hK _ _ ?_
                      clear hK K
                      go_frame
                      refine wpAny_take (i := 30) (v := ?_) rfl (by kernel_rfl) (by kernel_rfl) (by kernel_rfl) (fun _ _ _ h => h) (Or.inl ⟨by rfl, ?_⟩) ?_
                      rotate_left
                      · intro w
                        go_simp
                        with_reducible rfl
                      change wpAny _ _ _ _ _ _ (Act.put _ (some 159) _) _
                      go_frame
                      refine wpAny_take (i := 31) (v := ?_) rfl (by kernel_rfl) (by kernel_rfl) (by kernel_rfl) (fun _ _ _ h => h) (Or.inl ⟨by rfl, ?_⟩) ?_
                      rotate_left
                      · intro w
                        go_simp
                        with_reducible rfl
                      change wpAny _ _ _ _ _ _ (Act.put _ (some 160) _) _
                      go_frame
                      refine wpAny_take (i := 32) (v := ?_) rfl (by kernel_rfl) (by kernel_rfl) (by kernel_rfl) (fun _ _ _ h => h) (Or.inl ⟨by rfl, ?_⟩) ?_
                      rotate_left
                      · intro w
                        go_simp
                        with_reducible rfl
                      change wpAny _ _ _ _ _ _ (Act.put _ (some 161) _) _
                      go_frame
                      refine wpAny_ready (rs := [33]) (by kernel_rfl) (by simp) ?_
                      refine AllReady.cons rfl (fun K hK => ?_) AllReady.nil
                      go_simp
                      refine (HAW.out _ (below_next HBL.out HBS.out HBL.out.size)).mono ?_
                      rintro e w9 ⟨rfl, hb9⟩
                      have HB9 : Hid (Below w8.heap.size w8 w9) := below_next HBS.out hb9 HBS.out.size
                      clear hb9
                      refine hK _ _ ?_
                      clear hK K
                      go_frame
                      refine wpAny_take (i := 34) (v := ?_) rfl (by kernel_rfl) (by kernel_rfl) (by kernel_rfl) (fun _ _ _ h => h) (Or.inl ⟨by rfl, ?_⟩) ?_
                      rotate_left
                      · intro w
                        go_simp
                        with_reducible rfl
                      change wpAny _ _ _ _ _ _ (Act.put _ (some 163) _) _
                      go_frame
                      refine wpAny_take (i := 35) (v := ?_) rfl (by kernel_rfl) (by kernel_rfl) (by kernel_rfl) (fun _ _ _ h => h) (Or.inl ⟨by rfl, ?_⟩) ?_
                      rotate_left
                      · intro w
                        go_simp
                        with_reducible rfl
                      change wpAny _ _ _ _ _ _ (Act.put _ (some 6) _) _
                      go_frame
                      refine wpAny_done (by kernel_rfl) ?_ _
                      refine noPanic_normal ?_
                      go_wp2
                      go_ret
                      exact ⟨rfl, below_next HBL.out HB9.out HBL.out.size⟩
                    · go_simp
                      refine hK _ _ ?_
                      clear hK K
                      go_frame
                      refine wpAny_ready (rs := [12]) (by kernel_rfl) (by simp) ?_
                      refine (AllReady.cons rfl (fun K hK => ?_) AllReady.nil)
                      go_simp
                      refine (HHA.out _ HB2.out).mono ?_
                      rintro e wh1 ⟨ah, ch, rfl, hrh, hbh⟩
                      have HBH : Hid (Below w8.heap.size w8 wh1) := below_next HB2.out hbh HB2.out.size
                      have HRH := Lib.hid hrh
                      clear hbh hrh
                      have hcvH := HCV.out _ HBH.out
                      refine hK _ _ ?_
                      clear hK K
                      go_frame
                      refine wpAny_ready (rs := [16]) (by kernel_rfl) (by simp) ?_
                      refine (AllReady.cons rfl (fun K hK => ?_) AllReady.nil)
                      go_simp
                      refine (HHB.out _ HBH.out).mono ?_
                      rintro e wf1 ⟨af, cf, rfl, hrf, hbf⟩
                      have HBF : Hid (Below w8.heap.size w8 wf1) := below_next HBH.out hbf HBH.out.size
                      have HRF := Lib.hid hrf
                      have HRH2 := Lib.hid (HRH.out.kept hbf)
                      clear hbf hrf
                      have hcvF := HCV.out _ HBF.out
                      refine hK _ _ ?_
                      clear hK K
                      go_frame
                      refine wpAny_ready (rs := [17]) (by kernel_rfl) (by simp) ?_
                      refine AllReady.cons rfl (fun K hK => ?_) AllReady.nil
                      go_simp
                      refine (samehits_any _ ah af ch cf H (by omega) HRH2.out HRF.out).mono ?_
                      rintro e w' ⟨rfl, j6, rfl⟩
                      have HBS := Lib.hid (below_drewN HBF.out j6)
                      refine hK _ _ ?_
                      clear hK K
                      go_frame
                      refine wpAny_take (i := 18) (v := ?_) rfl (by kernel_rfl) (by kernel_rfl) (by kernel_rfl) (fun _ _ _ h => h) (Or.inl ⟨by rfl, ?_⟩) ?_
                      rotate_left
                      · intro w
                        go_simp
                        with_reducible rfl
                      change wpAny _ _ _ _ _ _ (Act.put _ (some 147) _) _
                      go_frame
                      refine wpAny_take (i := 19) (v := ?_) rfl (by kernel_rfl) (by kernel_rfl) (by kernel_rfl) (fun _ _ _ h => h) (Or.inl ⟨by rfl, ?_⟩) ?_
                      rotate_left
                      · intro w
                        go_simp
                        with_reducible rfl
                      change wpAny _ _ _ _ _ _ (Act.put _ (some 148) _) _
                      go_frame
                      refine wpAny_take (i := 20) (v := ?_) rfl (by kernel_rfl) (by kernel_rfl) (by kernel_rfl) (fun _ _ _ h => h) (Or.inl ⟨by rfl, ?_⟩) ?_
                      rotate_left
                      · intro w
                        go_simp
                        with_reducible rfl
                      change wpAny _ _ _ _ _ _ (Act.put _ (some 149) _) _
                      go_frame
                      refine wpAny_take (i := 22) (v := ?_) rfl (by kernel_rfl) (by kernel_rfl) (by kernel_rfl) (fun _ _ _ h => h) (Or.inl ⟨by rfl, ?_⟩) ?_
                      rotate_left
                      · intro w
                        go_simp
                        with_reducible rfl
                      change wpAny _ _ _ _ _ _ (Act.put _ (some 151) _) _
                      go_frame
                      refine wpAny_ready (rs := [21]) (by kernel_rfl) (by simp) ?_
                      refine AllReady.cons rfl (fun K hK => ?_) AllReady.nil
                      go_simp
                      refine (HBYA.out _ HBS.out).mono ?_
                      rintro e w' ⟨rfl, hw⟩
                      subst hw
                      refine hK _ _ ?_
                      clear hK K
                      go_frame
                      refine wpAny_ready (rs := [23]) (by kernel_rfl) (by simp) ?_
                      refine AllReady.cons rfl (fun K hK => ?_) AllReady.nil
                      go_simp
                      refine (HBYB.out _ HBS.out).mono ?_
                      rintro e w' ⟨rfl, hw⟩
                      subst hw
                      refine hK _ _ ?_
                      clear hK K
                      go_frame
                      refine wpAny_take (i := 24) (v := ?_) rfl (by kernel_rfl) (by kernel_rfl) (by kernel_rfl) (fun _ _ _ h => h) (Or.inl ⟨by rfl, ?_⟩) ?_
                      rotate_left
                      · intro w
                        go_simp
                        with_reducible rfl
                      change wpAny _ _ _ _ _ _ (Act.put _ (some 153) _) _
                      go_frame
                      refine wpAny_take (i := 25) (v := ?_) rfl (by kernel_rfl) (by kernel_rfl) (by kernel_rfl) (fun _ _ _ h => h) (Or.inl ⟨by rfl, ?_⟩) ?_
                      rotate_left
                      · intro w
                        go_simp
                        with_reducible rfl
                      change wpAny _ _ _ _ _ _ (Act.put _ (some 154) _) _
                      go_frame
                      refine wpAny_take (i := 26) (v := ?_) rfl (by kernel_rfl) (by kernel_rfl) (by kernel_rfl) (fun _ _ _ h => h) (Or.inl ⟨by rfl, ?_⟩) ?_
                      rotate_left
                      · intro w
                        go_simp
                        with_reducible rfl
                      change wpAny _ _ _ _ _ _ (Act.put _ (some 155) _) _
                      go_frame
                      refine wpAny_take (i := 27) (v := ?_) rfl (by kernel_rfl) (by kernel_rfl) (by kernel_rfl) (fun _ _ _ h => h) (Or.inl ⟨by rfl, ?_⟩) ?_
                      rotate_left
                      · intro w
                        go_simp
                        with_reducible rfl
                      change wpAny _ _ _ _ _ _ (Act.put _ (some 156) _) _
                      go_frame
                      refine wpAny_take (i := 29) (v := ?_) rfl (by kernel_rfl) (by kernel_rfl) (by kernel_rfl) (fun _ _ _ h => h) (Or.inl ⟨by rfl, ?_⟩) ?_
                      rotate_left
                      · intro w
                        go_simp
                        with_reducible rfl
                      change wpAny _ _ _ _ _ _ (Act.put _ (some 158) _) _
                      go_frame
                      refine wpAny_ready (rs := [28]) (by kernel_rfl) (by simp) ?_
                      refine AllReady.cons rfl (fun K hK => ?_) AllReady.nil
                      go_simp
                      refine (HDO.out _ HBS.out).mono ?_
                      rintro e w' ⟨rfl, hw⟩
                      subst hw
                      refine hK _ _ ?_
                      clear hK K
                      go_frame
                      refine wpAny_take (i := 30) (v := ?_) rfl (by kernel_rfl) (by kernel_rfl) (by kernel_rfl) (fun _ _ _ h => h) (Or.inl ⟨by rfl, ?_⟩) ?_
                      rotate_left
                      · intro w
                        go_simp
                        with_reducible rfl
                      change wpAny _ _ _ _ _ _ (Act.put _ (some 159) _) _
                      go_frame
                      refine wpAny_take (i := 31) (v := ?_) rfl (by kernel_rfl) (by kernel_rfl) (by kernel_rfl) (fun _ _ _ h => h) (Or.inl ⟨by rfl, ?_⟩) ?_
                      rotate_left
                      · intro w
                        go_simp
                        with_reducible rfl
                      change wpAny _ _ _ _ _ _ (Act.put _ (some 160) _) _
                      go_frame
                      refine wpAny_take (i := 32) (v := ?_) rfl (by kernel_rfl) (by kernel_rfl) (by kernel_rfl) (fun _ _ _ h => h) (Or.inl ⟨by rfl, ?_⟩) ?_
                      rotate_left
                      · intro w
                        go_simp
                        with_reducible rfl
                      change wpAny _ _ _ _ _ _ (Act.put _ (some 161) _) _
                      go_frame
                      refine wpAny_ready (rs := [33]) (by kernel_rfl) (by simp) ?_
                      refine AllReady.cons rfl (fun K hK => ?_) AllReady.nil
                      go_simp
                      refine (HAW.out _ (below_next HBL.out HBS.out HBL.out.size)).mono ?_
                      rintro e w9 ⟨rfl, hb9⟩
                      have HB9 : Hid (Below w8.heap.size w8 w9) := below_next HBS.out hb9 HBS.out.size
                      clear hb9
                      refine hK _ _ ?_
                      clear hK K
                      go_frame
                      refine wpAny_take (i := 34) (v := ?_) rfl (by kernel_rfl) (by kernel_rfl) (by kernel_rfl) (fun _ _ _ h => h) (Or.inl ⟨by rfl, ?_⟩) ?_
                      rotate_left
                      · intro w
                        go_simp
                        with_reducible rfl
                      change wpAny _ _ _ _ _ _ (Act.put _ (some 163) _) _
                      go_frame
                      refine wpAny_take (i := 35) (v := ?_) rfl (by kernel_rfl) (by kernel_rfl) (by kernel_rfl) (fun _ _ _ h => h) (Or.inl ⟨by rfl, ?_⟩) ?_
                      rotate_left
                      · intro w
                        go_simp
                        with_reducible rfl
                      change wpAny _ _ _ _ _ _ (Act.put _ (some 6) _) _
                      go_frame
                      refine wpAny_done (by kernel_rfl) ?_ _
                      refine noPanic_normal ?_
                      go_wp2
                      go_ret
                      exact ⟨rfl, below_next HBL.out HB9.out HBL.out.size⟩
                  · go_simp
                    refine hK _ _ ?_
                    clear hK K
                    go_frame
                    refine wpAny_ready (rs := [11]) (by kernel_rfl) (by simp) ?_
                    refine (AllReady.cons rfl (fun K hK => ?_) AllReady.nil)
                    go_simp
                    refine hK _ _ ?_
                    clear hK K
                    go_frame
                    refine wpAny_ready (rs := [12]) (by kernel_rfl) (by simp) ?_
                    refine (AllReady.cons rfl (fun K hK => ?_) AllReady.nil)
                    go_simp
                    refine (HHA.out _ HB2.out).mono ?_
                    rintro e wh1 ⟨ah, ch, rfl, hrh, hbh⟩
                    have HBH : Hid (Below w8.heap.size w8 wh1) := below_next HB2.out hbh HB2.out.size
                    have HRH := Lib.hid hrh
                    clear hbh hrh
                    have hcvH := HCV.out _ HBH.out
                    refine hK _ _ ?_
                    clear hK K
                    go_frame
                    refine wpAny_ready (rs := [16]) (by kernel_rfl) (by simp) ?_
                    refine (AllReady.cons rfl (fun K hK => ?_) AllReady.nil)
                    go_simp
                    refine (HHB.out _ HBH.out).mono ?_
                    rintro e wf1 ⟨af, cf, rfl, hrf, hbf⟩
                    have HBF : Hid (Below w8.heap.size w8 wf1) := below_next HBH.out hbf HBH.out.size
                    have HRF := Lib.hid hrf
                    have HRH2 := Lib.hid (HRH.out.kept hbf)
                    clear hbf hrf
                    have hcvF := HCV.out _ HBF.out
                    refine hK _ _ ?_
                    clear hK K
                    go_frame
                    refine wpAny_ready (rs := [17]) (by kernel_rfl) (by simp) ?_
                    refine AllReady.cons rfl (fun K hK => ?_) AllReady.nil
                    go_simp
                    refine (samehits_any _ ah af ch cf H (by omega) HRH2.out HRF.out).mono ?_
                    rintro e w' ⟨rfl, j6, rfl⟩
                    have HBS := Lib.hid (below_drewN HBF.out j6)
                    refine hK _ _ ?_
                    clear hK K
                    go_frame
                    refine wpAny_take (i := 18) (v := ?_) rfl (by kernel_rfl) (by kernel_rfl) (by kernel_rfl) (fun _ _ _ h => h) (Or.inl ⟨by rfl, ?_⟩) ?_
                    rotate_left
                    · intro w
                      go_simp
                      with_reducible rfl
                    change wpAny _ _ _ _ _ _ (Act.put _ (some 147) _) _
                    go_frame
                    refine wpAny_take (i := 19) (v := ?_) rfl (by kernel_rfl) (by kernel_rfl) (by kernel_rfl) (fun _ _ _ h => h) (Or.inl ⟨by rfl, ?_⟩) ?_
                    rotate_left
                    · intro w
                      go_simp
                      with_reducible rfl
                    change wpAny _ _ _ _ _ _ (Act.put _ (some 148) _) _
                    go_frame
                    refine wpAny_take (i := 20) (v := ?_) rfl (by kernel_rfl) (by kernel_rfl) (by kernel_rfl) (fun _ _ _ h => h) (Or.inl ⟨by rfl, ?_⟩) ?_
                    rotate_left
                    · intro w
                      go_simp
                      with_reducible rfl
                    change wpAny _ _ _ _ _ _ (Act.put _ (some 149) _) _
                    go_frame
                    refine wpAny_take (i := 22) (v := ?_) rfl (by kernel_rfl) (by kernel_rfl) (by kernel_rfl) (fun _ _ _ h => h) (Or.inl ⟨by rfl, ?_⟩) ?_
                    rotate_left
                    · intro w
                      go_simp
                      with_reducible rfl
                    change wpAny _ _ _ _ _ _ (Act.put _ (some 151) _) _
                    go_frame
                    refine wpAny_ready (rs := [21]) (by kernel_rfl) (by simp) ?_
                    refine AllReady.cons rfl (fun K hK => ?_) AllReady.nil
                    go_simp
                    refine (HBYA.out _ HBS.out).mono ?_
                    rintro e w' ⟨rfl, hw⟩
                    subst hw
                    refine hK _ _ ?_
                    clear hK K
                    go_frame
                    refine wpAny_ready (rs := [23]) (by kernel_rfl) (by simp) ?_
                    refine AllReady.cons rfl (fun K hK => ?_) AllReady.nil
                    go_simp
                    refine (HBYB.out _ HBS.out).mono ?_
                    rintro e w' ⟨rfl, hw⟩
                    subst hw
                    refine hK _ _ ?_
                    clear hK K
                    go_frame
                    refine wpAny_take (i := 24) (v := ?_) rfl (by kernel_rfl) (by kernel_rfl) (by kernel_rfl) (fun _ _ _ h => h) (Or.inl ⟨by rfl, ?_⟩) ?_
                    rotate_left
                    · intro w
                      go_simp
                      with_reducible rfl
                    change wpAny _ _ _ _ _ _ (Act.put _ (some 153) _) _
                    go_frame
                    refine wpAny_take (i := 25) (v := ?_) rfl (by kernel_rfl) (by kernel_rfl) (by kernel_rfl) (fun _ _ _ h => h) (Or.inl ⟨by rfl, ?_⟩) ?_
                    rotate_left
                    · intro w
                      go_simp
                      with_reducible rfl
                    change wpAny _ _ _ _ _ _ (Act.put _ (some 154) _) _
                    go_frame
                    refine wpAny_take (i := 26) (v := ?_) rfl (by kernel_rfl) (by kernel_rfl) (by kernel_rfl) (fun _ _ _ h => h) (Or.inl ⟨by rfl, ?_⟩) ?_
                    rotate_left
                    · intro w
                      go_simp
                      with_reducible rfl
                    change wpAny _ _ _ _ _ _ (Act.put _ (some 155) _) _
                    go_frame
                    refine wpAny_take (i := 27) (v := ?_) rfl (by kernel_rfl) (by kernel_rfl) (by kernel_rfl) (fun _ _ _ h => h) (Or.inl ⟨by rfl, ?_⟩) ?_
                    rotate_left
                    · intro w
                      go_simp
                      with_reducible rfl
                    change wpAny _ _ _ _ _ _ (Act.put _ (some 156) _) _
                    go_frame
                    refine wpAny_take (i := 29) (v := ?_) rfl (by kernel_rfl) (by kernel_rfl) (by kernel_rfl) (fun _ _ _ h => h) (Or.inl ⟨by rfl, ?_⟩) ?_
                    rotate_left
                    · intro w
                      go_simp
                      with_reducible rfl
                    change wpAny _ _ _ _ _ _ (Act.put _ (some 158) _) _
                    go_frame
                    refine wpAny_ready (rs := [28]) (by kernel_rfl) (by simp) ?_
                    refine AllReady.cons rfl (fun K hK => ?_) AllReady.nil
                    go_simp
                    refine (HDO.out _ HBS.out).mono ?_
                    rintro e w' ⟨rfl, hw⟩
                    subst hw
                    refine hK _ _ ?_
                    clear hK K
                    go_frame
                    refine wpAny_take (i := 30) (v := ?_) rfl (by kernel_rfl) (by kernel_rfl) (by kernel_rfl) (fun _ _ _ h => h) (Or.inl ⟨by rfl, ?_⟩) ?_
                    rotate_left
                    · intro w
                      go_simp
                      with_reducible rfl
                    change wpAny _ _ _ _ _ _ (Act.put _ (some 159) _) _
                    go_frame
                    refine wpAny_take (i := 31) (v := ?_) rfl (by kernel_rfl) (by kernel_rfl) (by kernel_rfl) (fun _ _ _ h => h) (Or.inl ⟨by rfl, ?_⟩) ?_
                    rotate_left
                    · intro w
                      go_simp
                      with_reducible rfl
                    change wpAny _ _ _ _ _ _ (Act.put _ (some 160) _) _
                    go_frame
                    refine wpAny_take (i := 32) (v := ?_) rfl (by kernel_rfl) (by kernel_rfl) (by kernel_rfl) (fun _ _ _ h => h) (Or.inl ⟨by rfl, ?_⟩) ?_
                    rotate_left
                    · intro w
                      go_simp
                      with_reducible rfl
                    change wpAny _ _ _ _ _ _ (Act.put _ (some 161) _) _
                    go_frame
                    refine wpAny_ready (rs := [33]) (by kernel_rfl) (by simp) ?_
                    refine AllReady.cons rfl (fun K hK => ?_) AllReady.nil
                    go_simp
                    refine (HAW.out _ (below_next HBL.out HBS.out HBL.out.size)).mono ?_
                    rintro e w9 ⟨rfl, hb9⟩
                    have HB9 : Hid (Below w8.heap.size w8 w9) := below_next HBS.out hb9 HBS.out.size
                    clear hb9
                    refine hK _ _ ?_
                    clear hK K
                    go_frame
                    refine wpAny_take (i := 34) (v := ?_) rfl (by kernel_rfl) (by kernel_rfl) (by kernel_rfl) (fun _ _ _ h => h) (Or.inl ⟨by rfl, ?_⟩) ?_
                    rotate_left
                    · intro w
                      go_simp
                      with_reducible rfl
                    change wpAny _ _ _ _ _ _ (Act.put _ (some 163) _) _
                    go_frame
                    refine wpAny_take (i := 35) (v := ?_) rfl (by kernel_rfl) (by kernel_rfl) (by kernel_rfl) (fun _ _ _ h => h) (Or.inl ⟨by rfl, ?_⟩) ?_
                    rotate_left
                    · intro w
                      go_simp
                      with_reducible rfl
                    change wpAny _ _ _ _ _ _ (Act.put _ (some 6) _) _
                    go_frame
                    refine wpAny_done (by kernel_rfl) ?_ _
                    refine noPanic_normal ?_
                    go_wp2
                    go_ret
                    exact ⟨rfl, below_next HBL.out HB9.out HBL.out.size⟩
        · have t2 : (60 : Int) < (P.length : Int) := by omega
          have t2d : decide ((60 : Int) < (P.length : Int)) = true := decide_eq_true t2
          go_wp2_with fail
          refine (HAW.out _ (Below.refl _ _)).mono ?_
          rintro e w1 ⟨rfl, hb1⟩
          go_wp2_with fail
          go_ret
          exact ⟨rfl, hb1⟩
      · have t1 : (2000 : Int) < ((sumT ds N : Nat) : Int) := by omega
        go_wp2_with fail
        refine (HAW.out _ (Below.refl _ _)).mono ?_
        rintro e w1 ⟨rfl, hb1⟩
        go_wp2_with fail
        go_ret
        exact ⟨rfl, hb1⟩
end Go.Proofs.Ytoifmfdaghmleaa
