/-
  The state of a disk, and where it lies.
-/
import Derived.Test.YtelndbjjkhlacaaDkMap
import Derived.Test.YtelndbjjkhlacaaMapPtr
import Derived.Test.YtelndbjjkhlacaaAppendRow
import Derived.Test.YtelndbjjkhlacaaSeqX
namespace Go.Proofs.Ytelndbjjkhlacaa
open Go.RowKit Go.Maps

structure Turn where
  k : Int
  a : ByteArray
  b : ByteArray
  f : Option Nat
structure DSt where
  quota : Int
  calls : Int
  stop : Int
  fail : Int
  failE : Int
  dead : Bool
  files : List Nat
  fb : Nat → List Nat
  fl : Nat → Nat
  names : DT
  last : DT
  turns : List Turn
def bytV (d : List Nat) : List Value := d.map fun c : Nat => .int .u8 (c : Int)
def turnV (t : Turn) : List Value := [.int .i64 t.k, .string t.a, .string t.b, pF t.f]
def turnVs (l : List Turn) : List Value := l.flatMap turnV
theorem turnVs_nil : turnVs [] = [] := rfl
theorem turnVs_snoc (l : List Turn) (t : Turn) : turnVs (l ++ [t]) = turnVs l ++ turnV t := by simp [turnVs]
theorem turnVs_len (l : List Turn) : (turnVs l).length = l.length * 4 := by
  induction l with
  | nil => rfl
  | cons t l ih => simp [turnVs] at ih ⊢; rw [show (turnV t).length = 4 from rfl, ih]; omega
theorem bytV_len (d : List Nat) : (bytV d).length = d.length := by simp [bytV]
theorem bytV_app (d e : List Nat) : bytV (d ++ e) = bytV d ++ bytV e := by simp [bytV]
inductive Role where
  | disk | names | last | files | turns | file | bytes (f : Nat) | other
def diskV (S : DSt) (vf vt : Value) (bn bl : Nat) : Nat → Value
  | 0 => .int .i64 S.quota
  | 1 => .int .i64 S.calls
  | 2 => .int .i64 S.stop
  | 3 => .int .i64 S.fail
  | 4 => .int .i64 S.failE
  | 5 => .bool S.dead
  | 6 => vf
  | 7 => .map (some bn)
  | 8 => .map (some bl)
  | _ => vt
def fileV (v : Value) (n : Nat) : Nat → Value
  | 0 => v
  | _ => .int .i64 (n : Int)
/-- block bd is a disk in this state; what belongs to it has a role, each block one; all lie from block B on -/
structure DiskIn (B : Nat) (w : World) (bd : Nat) (ρ : Nat → Role) (S : DSt) (vf vt : Value) (bn bl : Nat) (V : Nat → Value) : Prop where
  head : w.rowIs bd 60 10 (diskV S vf vt bn bl)
  names : NmAt w bn S.names
  last : NmAt w bl S.last
  files : w.ownsRow B 62 1 vf S.files.length (S.files.map ptrB)
  turns : w.ownsRow B 66 4 vt S.turns.length (turnVs S.turns)
  file : ∀ f ∈ S.files, w.rowIs f 64 2 (fileV (V f) (S.fl f))
  bytes : ∀ f ∈ S.files, w.ownsRow B 5 1 (V f) (S.fb f).length (bytV (S.fb f))
  rd : ρ bd = .disk
  rn : ρ bn = .names
  rl : ρ bl = .last
  rf : ∀ g, vf.ownBlock = some g → ρ g = .files
  rt : ∀ g, vt.ownBlock = some g → ρ g = .turns
  rfile : ∀ f ∈ S.files, ρ f = .file
  rbytes : ∀ f ∈ S.files, ∀ g, (V f).ownBlock = some g → ρ g = .bytes f
  base : ∀ b, ρ b ≠ .other → B ≤ b ∧ b < w.heap.size
/-- what a disk's state keeps to -/
structure DOk (S : DSt) : Prop where
  nodup : S.files.Nodup
  names : NamesOk S.names S.files
  last : NamesOk S.last S.files
  turns : ∀ t ∈ S.turns, ∀ f, t.f = some f → f ∈ S.files
  long : ∀ f ∈ S.files, (S.fb f).length ≤ 200000
  lasts : ∀ f ∈ S.files, S.fl f ≤ (S.fb f).length
  byte : ∀ f ∈ S.files, ∀ c ∈ S.fb f, c < 256
  tkind : ∀ t ∈ S.turns, t.k = 0 → t.f ≠ none
  tnames : ∀ t ∈ S.turns, t.a.size ≤ maxLen ∧ t.b.size ≤ maxLen
  few : (S.files.length : Int) ≤ S.calls ∧ (size S.names : Int) ≤ S.calls ∧ ((size S.last + S.turns.length : Nat) : Int) ≤ S.calls
  nums : 0 ≤ S.quota ∧ S.quota ≤ 2000000 ∧ 0 ≤ S.calls ∧ S.calls ≤ 100000 ∧ -1 ≤ S.stop ∧ S.stop ≤ 1000000 ∧ 0 ≤ S.fail ∧ S.fail ≤ 1000000
theorem DOk.small {S : DSt} (h : DOk S) : size S.names ≤ 100000 ∧ size S.last ≤ 100000 := by
  have h1 := h.few; have h2 := h.nums.2.2.2.1
  omega
theorem DOk.many {S : DSt} (h : DOk S) : S.files.length ≤ 100000 ∧ S.turns.length ≤ 100000 := by
  have h1 := h.few; have h2 := h.nums.2.2.2.1
  omega
def DiskAt (B : Nat) (w : World) (bd : Nat) (S : DSt) : Prop := ∃ ρ vf vt bn bl V, DiskIn B w bd ρ S vf vt bn bl V
section
variable {B : Nat} {w w' : World} {bd : Nat} {ρ : Nat → Role} {S : DSt} {vf vt : Value} {bn bl : Nat} {V : Nat → Value}
theorem rowIs_keepX {K : Nat → Prop} {b n : Nat} {t : TypeId} {f : Nat → Value} (h : w.rowIs b t n f) (hk : KeepX K w w') (hb : K b) : w'.rowIs b t n f := h.of_block (hk.block b h.lt hb)
theorem owns_keepX {K : Nat → Prop} {base : Nat} {e : TypeId} {size : Nat} {v : Value} {n : Nat} {xs : List Value} (h : w.ownsRow base e size v n xs) (hk : KeepX K w w') (hb : ∀ g, v.ownBlock = some g → K g) : w'.ownsRow base e size v n xs := by
  refine ⟨h.1, ?_⟩
  rcases h.2 with h0 | ⟨g, cap, cur, rfl, h1, h2, h3⟩
  · exact .inl h0
  · exact .inr ⟨g, cap, cur, rfl, h1, (hk.block g (Array.getElem?_eq_some_iff.1 h2).1 (hb g rfl)).trans h2, h3⟩
theorem nm_keepX {K : Nat → Prop} {b : Nat} {D : DT} (h : NmAt w b D) (hk : KeepX K w w') (hb : K b) : NmAt w' b D := h.of_block (hk.block b h.lt hb)
theorem DiskIn.kept (h : DiskIn B w bd ρ S vf vt bn bl V) (hk : KeepX (fun b => ρ b ≠ .other) w w') : DiskIn B w' bd ρ S vf vt bn bl V where
  head := rowIs_keepX h.head hk (by rw [h.rd]; simp)
  names := nm_keepX h.names hk (by rw [h.rn]; simp)
  last := nm_keepX h.last hk (by rw [h.rl]; simp)
  files := owns_keepX h.files hk (fun g hg => by rw [h.rf g hg]; simp)
  turns := owns_keepX h.turns hk (fun g hg => by rw [h.rt g hg]; simp)
  file f hf := rowIs_keepX (h.file f hf) hk (by rw [h.rfile f hf]; simp)
  bytes f hf := owns_keepX (h.bytes f hf) hk (fun g hg => by rw [h.rbytes f hf g hg]; simp)
  rd := h.rd
  rn := h.rn
  rl := h.rl
  rf := h.rf
  rt := h.rt
  rfile := h.rfile
  rbytes := h.rbytes
  base b hb := ⟨(h.base b hb).1, Nat.lt_of_lt_of_le (h.base b hb).2 hk.size⟩
theorem DiskIn.below (h : DiskIn B w bd ρ S vf vt bn bl V) (hb : Below w.heap.size w w') : DiskIn B w' bd ρ S vf vt bn bl V := h.kept (KeepX.of_below hb)
theorem DiskAt.below (h : DiskAt B w bd S) (hb : Below w.heap.size w w') : DiskAt B w' bd S := by
  obtain ⟨ρ, vf, vt, bn, bl, V, h⟩ := h
  exact ⟨ρ, vf, vt, bn, bl, V, h.below hb⟩
theorem DiskIn.lt (h : DiskIn B w bd ρ S vf vt bn bl V) : bd < w.heap.size := h.head.lt
/-- the disk's own cells turned; nothing else -/
theorem DiskIn.setHead (h : DiskIn B w bd ρ S vf vt bn bl V) (i : Nat) (v : Value) (S' : DSt) (e1 : S'.files = S.files) (e2 : S'.fb = S.fb) (e3 : S'.fl = S.fl) (e4 : S'.names = S.names) (e5 : S'.last = S.last) (e6 : S'.turns = S.turns)
    (hv : ∀ j, j < 10 → diskV S' vf vt bn bl j = if j = i then v else diskV S vf vt bn bl j) : DiskIn B (w.setCell ⟨bd, i, none⟩ v) bd ρ S' vf vt bn bl V := by
  have hk : KeepX (fun b => b ≠ bd) w (w.setCell ⟨bd, i, none⟩ v) := KeepX.setCell w ⟨bd, i, none⟩ v (fun h => h rfl)
  have hne : ∀ b, ρ b ≠ .disk → b ≠ bd := fun b hb e => hb (by rw [e, h.rd])
  refine ⟨(h.head.set i v).congr fun j hj => (hv j hj).symm, ?_, ?_, ?_, ?_, ?_, ?_, h.rd, h.rn, h.rl, h.rf, h.rt, ?_, ?_, fun b hb => ⟨(h.base b hb).1, Nat.lt_of_lt_of_le (h.base b hb).2 hk.size⟩⟩
  · rw [e4]; exact nm_keepX h.names hk (hne _ (by rw [h.rn]; simp))
  · rw [e5]; exact nm_keepX h.last hk (hne _ (by rw [h.rl]; simp))
  · rw [e1]; exact owns_keepX h.files hk (fun g hg => hne _ (by rw [h.rf g hg]; simp))
  · rw [e6]; exact owns_keepX h.turns hk (fun g hg => hne _ (by rw [h.rt g hg]; simp))
  · intro f hf; rw [e1] at hf; rw [e3]; exact rowIs_keepX (h.file f hf) hk (hne _ (by rw [h.rfile f hf]; simp))
  · intro f hf; rw [e1] at hf; rw [e2]; exact owns_keepX (h.bytes f hf) hk (fun g hg => hne _ (by rw [h.rbytes f hf g hg]; simp))
  · intro f hf; rw [e1] at hf; exact h.rfile f hf
  · intro f hf; rw [e1] at hf; exact h.rbytes f hf
end
end Go.Proofs.Ytelndbjjkhlacaa
