/-
  concordanceref23.number: the number that a text begins with; and that it is the one which cmd reads.
-/
import Derived.Test.YtdcobmoeligdkaaGreatDoorCmRUnq
namespace Go.Proofs.YtdcobmoeligdkaaGreatDoor
open Go.RowKit Go.Shelf

def digB (c : UInt8) : Prop := 48 ≤ c.toNat ∧ c.toNat ≤ 57
instance (c : UInt8) : Decidable (digB c) := by unfold digB; exact inferInstance
/-- how many digits there are, up to some -/
def lead : Nat → List UInt8 → Nat
  | 0, _ => 0
  | _ + 1, [] => 0
  | f + 1, c :: r => if digB c then lead f r + 1 else 0
def valD (l : List UInt8) : Nat := l.foldl (fun n c => 10 * n + (c.toNat - 48)) 0
theorem valD_snoc (l : List UInt8) (c : UInt8) : valD (l ++ [c]) = 10 * valD l + (c.toNat - 48) := by unfold valD; rw [List.foldl_append]; rfl
theorem lead_le : ∀ (f : Nat) (s : List UInt8), lead f s ≤ f ∧ lead f s ≤ s.length
  | 0, s => by simp [lead]
  | f + 1, [] => by simp [lead]
  | f + 1, c :: r => by
    rw [lead]
    have := lead_le f r
    split
    · simp only [List.length_cons]; omega
    · simp
theorem lead_all : ∀ (f : Nat) (s : List UInt8), ∀ c ∈ s.take (lead f s), digB c
  | 0, s => by simp [lead]
  | f + 1, [] => by simp [lead]
  | f + 1, c :: r => by
    rw [lead]
    split
    · rename_i h
      rw [List.take_succ_cons]
      intro x hx
      rcases List.mem_cons.1 hx with rfl | hx
      · exact h
      · exact lead_all f r x hx
    · simp
theorem lead_stop : ∀ (f : Nat) (s : List UInt8), lead f s < f → ∀ y t, s.drop (lead f s) = y :: t → ¬ digB y
  | 0, s, h => by omega
  | f + 1, [], _ => by simp [lead]
  | f + 1, c :: r, h => by
    intro y t
    rw [lead] at h ⊢
    split
    · rename_i hd
      rw [if_pos hd] at h
      rw [List.drop_succ_cons]
      exact lead_stop f r (by omega) y t
    · rename_i hd
      intro e
      have : c = y := (List.cons.inj e).1
      rw [← this]; exact hd
theorem lead_app : ∀ (d r : List UInt8) (f : Nat), (∀ c ∈ d, digB c) → EndOk r → d.length < f → lead f (d ++ r) = d.length
  | [], r, f, _, hr, hf => by
    rcases hr with rfl | ⟨t, rfl⟩
    · cases f <;> simp [lead]
    · cases f with
      | zero => simp [lead]
      | succ f =>
        rw [List.nil_append, lead, if_neg (by decide)]; rfl
  | c :: d, r, f, hd, hr, hf => by
    cases f with
    | zero => simp at hf
    | succ f =>
      rw [List.cons_append, lead, if_pos (hd c (by simp)), lead_app d r f (fun x hx => hd x (by simp [hx])) hr (by simpa using hf)]
      rfl
/-- digits without a nought ahead are a number's -/
theorem dec_val : ∀ (n : Nat) (l : List UInt8), l.length = n → 1 ≤ n → (∀ c ∈ l, digB c) → (n = 1 ∨ l.head? ≠ some 48) → Lib.decDigits (valD l) = l ∧ (l.head? ≠ some 48 → 1 ≤ valD l) := by
  intro n
  induction n with
  | zero => intro l _ h; omega
  | succ n ih =>
    intro l hl _ hd hz
    have hne : l ≠ [] := by intro e; rw [e] at hl; cases hl
    obtain ⟨m, c, rfl⟩ : ∃ m c, l = m ++ [c] := ⟨l.dropLast, l.getLast hne, (List.dropLast_concat_getLast hne).symm⟩
    have hml : m.length = n := by simpa using hl
    have hc := hd c (by simp)
    have hcd : digB c := hc
    unfold digB at hc
    rw [valD_snoc]
    by_cases h0 : n = 0
    · have : m = [] := List.eq_nil_of_length_eq_zero (by omega)
      subst this
      have e0 : valD [] = 0 := rfl
      rw [e0, Nat.mul_zero, Nat.zero_add, dec_small (by omega)]
      refine ⟨?_, fun h => ?_⟩
      · rw [List.nil_append, show 48 + (c.toNat - 48) = c.toNat by omega]; simp
      · rcases Nat.eq_zero_or_pos (c.toNat - 48) with h1 | h1
        · exfalso; apply h
          have : c = 48 := UInt8.toNat_inj.1 (by show c.toNat = 48; omega)
          rw [this]; rfl
        · omega
    · have hh : (m ++ [c]).head? = m.head? := by
        cases m with
        | nil => simp at hml; omega
        | cons a r => rfl
      rw [hh] at hz ⊢
      have hz2 : m.head? ≠ some 48 := hz.resolve_left (by omega)
      have h1 := ih m hml (by omega) (fun x hx => hd x (by simp [hx])) (.inr hz2)
      have h2 := h1.2 hz2
      rw [dec_big (by omega), show (10 * valD m + (c.toNat - 48)) / 10 = valD m by omega, show (10 * valD m + (c.toNat - 48)) % 10 = c.toNat - 48 by omega, h1.1]
      refine ⟨?_, fun _ => by omega⟩
      rw [show 48 + (c.toNat - 48) = c.toNat by omega]; simp
/-- whether a text begins with a number -/
def numOk (s : List UInt8) : Prop := 1 ≤ lead 10 s ∧ lead 10 s ≤ 9 ∧ (lead 10 s = 1 ∨ s.head? ≠ some 48)
theorem blank_le (r : List UInt8) : blank r ≤ r.length ∧ EndOk (r.drop (blank r)) ∧ ∀ b ∈ r.take (blank r), b ≠ 32 := by
  induction r with
  | nil => exact ⟨by simp [blank, Lib.indexByte], .inl (by simp), by simp⟩
  | cons c r ih =>
    by_cases hc : c = 32
    · subst hc
      have h0 : blank (32 :: r) = 0 := by
        have := blank_at [] (32 :: r) (by simp) (.inr ⟨r, rfl⟩)
        simpa using this
      rw [h0]
      exact ⟨Nat.zero_le _, .inr ⟨r, rfl⟩, by simp⟩
    · have h1 : blank (c :: r) = blank r + 1 := by
        have e := blank_at (c :: r.take (blank r)) (r.drop (blank r)) (by
          intro b hb
          rcases List.mem_cons.1 hb with rfl | hb
          · exact hc
          · exact ih.2.2 b hb) ih.2.1
        rw [List.cons_append, List.take_append_drop, List.length_cons, List.length_take, Nat.min_eq_left ih.1] at e
        exact e
      rw [h1]
      refine ⟨by simp only [List.length_cons]; omega, by rw [List.drop_succ_cons]; exact ih.2.1, fun b hb => ?_⟩
      rw [List.take_succ_cons] at hb
      rcases List.mem_cons.1 hb with rfl | hb
      · exact hc
      · exact ih.2.2 b hb
theorem digB_ne {c : UInt8} (h : digB c) : c ≠ 32 := by
  intro e; rw [e] at h; exact absurd h (by decide)
theorem numR_end {cs : List UInt8} {st : PCmd} (y : UInt8) (t : List UInt8) (hy : y ≠ 32) : runS cs (y :: t) st = none := by
  cases cs with
  | nil => exact run_rest _ _ _
  | cons c cs => exact run_noblank _ _ _ _ _ (fun h => hy (UInt8.toNat_inj.1 h))
theorem step_num (cs r : List UInt8) (st : PCmd) (h : numOk r) : runS (110 :: cs) (32 :: r) st = runS cs (r.drop (lead 10 r)) (putN st (valD (r.take (lead 10 r)))) := by
  obtain ⟨h1, h9, h0⟩ := h
  have hle := lead_le 10 r
  have hall := lead_all 10 r
  have hlen : (r.take (lead 10 r)).length = lead 10 r := by rw [List.length_take]; omega
  have hhd : (r.take (lead 10 r)).head? = r.head? := by
    cases r with
    | nil => simp
    | cons a t => rw [show lead 10 (a :: t) = (lead 10 (a :: t) - 1) + 1 by omega, List.take_succ_cons]; rfl
  have hdv := (dec_val (lead 10 r) (r.take (lead 10 r)) hlen h1 hall (by rw [hhd]; exact h0)).1
  have hv : valD (r.take (lead 10 r)) < 1000000000 := dec_lt9 (by rw [hdv, hlen]; exact h9)
  have hsplit : r = r.take (lead 10 r) ++ r.drop (lead 10 r) := (List.take_append_drop _ _).symm
  rcases hd : r.drop (lead 10 r) with _ | ⟨y, t⟩
  · have e : r = Lib.decDigits (valD (r.take (lead 10 r))) ++ [] := by rw [hdv, List.append_nil]; rw [hd, List.append_nil] at hsplit; exact hsplit
    conv => lhs; rw [e]
    exact run_n cs st _ [] hv (.inl rfl)
  · by_cases hy : y = 32
    · have e : r = Lib.decDigits (valD (r.take (lead 10 r))) ++ 32 :: t := by rw [hdv]; rw [hd, hy] at hsplit; exact hsplit
      conv => lhs; rw [e]
      rw [run_n cs st _ _ hv (.inr ⟨t, rfl⟩), hy]
    · rw [numR_end y t hy]
      have hny := lead_stop 10 r (by omega) y t hd
      have hbl := blank_le r
      rw [run_piece, piece_n]
      have hyi : r[lead 10 r]? = some y := by
        have := congrArg (fun l : List UInt8 => l[0]?) hd
        simpa [List.getElem?_drop] using this
      have hlt : lead 10 r < blank r := by
        rcases Nat.lt_or_ge (lead 10 r) (blank r) with h | h
        · exact h
        · exfalso
          have he := hbl.2.1
          rcases Nat.eq_or_lt_of_le h with h | h
          · rw [h, hd] at he
            rcases he with he | ⟨u, he⟩
            · cases he
            · exact hy (List.cons.inj he).1
          · have hbi : r[blank r]? = some (r[blank r]'(by omega)) := List.getElem?_eq_getElem _
            have hm : r[blank r]'(by omega) ∈ r.take (lead 10 r) := by
              rw [List.mem_take_iff_getElem]
              exact ⟨blank r, by omega, rfl⟩
            have hdg := digB_ne (hall _ hm)
            rcases he with he | ⟨u, he⟩
            · have := congrArg List.length he; rw [List.length_drop] at this; simp at this; omega
            · have := congrArg (fun l : List UInt8 => l[0]?) he
              simp only [List.getElem?_drop, Nat.add_zero, hbi] at this
              exact hdg (Option.some.inj this)
      have hmem : y ∈ r.take (blank r) := by
        rw [List.mem_take_iff_getElem]
        obtain ⟨hi, he⟩ := List.getElem?_eq_some_iff.1 hyi
        exact ⟨lead 10 r, by omega, he⟩
      rw [putS_num, numR_bad hmem hny]; rfl
theorem step_nonum (cs r : List UInt8) (st : PCmd) (h : ¬ numOk r) : runS (110 :: cs) (32 :: r) st = none := by
  rw [run_piece, piece_n, putS_num]
  cases hn : numR (r.take (blank r)) with
  | none => rfl
  | some n =>
    exfalso
    apply h
    have hbl := blank_le r
    obtain ⟨h1, h2⟩ := numR_some hn
    have e : r = Lib.decDigits n ++ r.drop (blank r) := by rw [← h2]; exact (List.take_append_drop _ _).symm
    have h3 := dec_len9 h1
    have hl : lead 10 r = (Lib.decDigits n).length := by
      conv => lhs; rw [e]
      exact lead_app _ _ 10 (dec_digits n) hbl.2.1 (by omega)
    have hp : 1 ≤ (Lib.decDigits n).length := by rw [dec_len]; exact Lib.nDigits_pos n
    refine ⟨by omega, by omega, ?_⟩
    by_cases h0 : r.head? = some 48
    · left
      obtain ⟨b, t, hbt⟩ : ∃ b t, Lib.decDigits n = b :: t := by
        cases hd : Lib.decDigits n with
        | nil => rw [hd] at hp; simp at hp
        | cons b t => exact ⟨b, t, rfl⟩
      rw [e, hbt] at h0
      have hb : b = 48 := Option.some.inj h0
      have := dec_head0 n b t hbt (by rw [hb]; rfl)
      rw [hl, this, dec_small (by omega)]; rfl
    · exact .inr h0
def RNumPost (w : World) (s : List UInt8) (e : Ending) (w' : World) : Prop :=
  (∃ b : Bool, e = .returned (.tuple #[.int .i64 (valD (s.take (lead 10 s)) : Nat), .int .i64 (lead 10 s : Nat), .bool b]) ∧ (b = true ↔ numOk s)) ∧ Below w.heap.size w w'
set_option maxRecDepth 100000 in
set_option maxHeartbeats 4000000 in
theorem rnumber_any (w : World) (s : List UInt8) (hs : s.length ≤ 100000) : Calls Tryz.prog 57 #[.string (uS s)] w (RNumPost w s) := by
  have hsz := uS_size s
  have HL0 := Lib.hid (lead_le 10 s)
  go_enter Tryz.func57, Tryz.ntmps57
  go_wp2
  go_loopw [5, 6] (fun v5 v6 wr => ∃ (i v : Nat), i ≤ 10 ∧ i ≤ s.length ∧ v < 10 ^ i ∧ v5 = .int .i64 (v : Int) ∧ v6 = .int .i64 (i : Int) ∧ Below w.heap.size w wr ∧ Hid (lead 10 s = i + lead (10 - i) (s.drop i) ∧ v = valD (s.take i))) (fun _ v6 _ => s.length - (intOf v6).toNat)
  case atStart => exact ⟨0, 0, by omega, by omega, by omega, rfl, rfl, Below.refl _ _, by simp, rfl⟩
  case round =>
    obtain ⟨i, v, hi10, hi, hv, rfl, rfl, hb, HI⟩ := hrel
    have HB := Lib.hid hb
    have HV := Lib.hid hv
    have hv10 : v < 10000000000 := Nat.lt_of_lt_of_le hv (Nat.le_trans (Nat.pow_le_pow_right (by omega) hi10) (by decide))
    clear hb hv
    by_cases hgo : i < s.length ∧ i < 10 ∧ ∀ c, s[i]? = some c → digB c
    · obtain ⟨hlt, h10, hdg⟩ := hgo
      obtain ⟨c, hc⟩ : ∃ c, s[i]? = some c := ⟨s[i], List.getElem?_eq_getElem hlt⟩
      have hd := hdg c hc
      have hdd : digB c := hd
      unfold digB at hd
      have hdr : s.drop i = c :: s.drop (i + 1) := by
        rw [List.drop_eq_getElem_cons hlt]; congr 1
        exact Option.some.inj ((List.getElem?_eq_getElem hlt).symm.trans hc)
      have HN : Hid (lead 10 s = (i + 1) + lead (10 - (i + 1)) (s.drop (i + 1)) ∧ 10 * v + (c.toNat - 48) = valD (s.take (i + 1))) := by
        refine ⟨?_, ?_⟩
        · rw [HI.out.1, hdr, show 10 - i = (10 - (i + 1)) + 1 by omega, lead, if_pos hdd]; omega
        · rw [List.take_succ_eq_append_getElem hlt, valD_snoc, ← HI.out.2]
          rw [Option.some.inj ((List.getElem?_eq_getElem hlt).symm.trans hc)]
      have HV2 : Hid (10 * v + (c.toNat - 48) < 10 ^ (i + 1)) := by
        show _ < _
        have := HV.out
        rw [Nat.pow_succ]; omega
      have hix := ixS s i c hc i rfl
      clear hdg hdr hdd hc HI
      have g1 : (48 : Int) ≤ (c.toNat : Int) := by omega
      have g2 : (c.toNat : Int) ≤ 57 := by omega
      have hw1 : IntKind.u8.wrap ((c.toNat : Int) - 48) = (c.toNat : Int) - 48 := IntWalk.u8_in _ (by omega)
      have hw2 : IntKind.i64.wrap ((c.toNat : Int) - 48) = (c.toNat : Int) - 48 := IntWalk.i64_in _ (by omega)
      have hvn : ((10 * v + (c.toNat - 48) : Nat) : Int) = 10 * (v : Int) + ((c.toNat : Int) - 48) := by omega
      have HVN := Lib.hid hvn
      have hcl : c.toNat < 256 := by omega
      clear hd hvn
      generalize hvv : 10 * v + (c.toNat - 48) = vn at *
      clear hvv
      generalize c.toNat = cn at *
      go_wp2
      go_roundw
      case rel => exact ⟨i + 1, vn, by omega, by omega, HV2.out, by rw [HVN.out], by go_num, HB.out, HN.out⟩
      case measure => simp [intOf]; omega
    · have HE : Hid (lead 10 s = i) := by
        show _ = _
        rw [HI.out.1]
        have : lead (10 - i) (s.drop i) = 0 := by
          rcases Nat.lt_or_ge i 10 with h10 | h10
          · rcases hd : s.drop i with _ | ⟨c, t⟩
            · rw [show 10 - i = (9 - i) + 1 by omega, lead]
            · rw [show 10 - i = (9 - i) + 1 by omega, lead, if_neg]
              intro hdc
              have hlt : i < s.length := by
                rcases Nat.lt_or_ge i s.length with h | h
                · exact h
                · rw [List.drop_eq_nil_of_le h] at hd; cases hd
              refine hgo ⟨hlt, h10, fun c' hc' => ?_⟩
              have := congrArg (fun l : List UInt8 => l[0]?) hd
              simp only [List.getElem?_drop, Nat.add_zero, hc'] at this
              rw [Option.some.inj this]; exact hdc
          · rw [show 10 - i = 0 by omega, lead]
        omega
      have HY : Hid (∀ (b : Bool) W, Below w.heap.size w W → (b = true ↔ (1 ≤ i ∧ i ≤ 9 ∧ (i = 1 ∨ s.head? ≠ some 48))) → RNumPost w s (.returned (.tuple #[.int .i64 (v : Int), .int .i64 (i : Int), .bool b])) W) := fun b W hW hb => by
        refine ⟨⟨b, ?_, ?_⟩, hW⟩
        · rw [HE.out, ← HI.out.2]
        · unfold numOk; rw [HE.out]; exact hb
      have hex : (i < s.length → i < 10 → ∃ c : UInt8, s[i]? = some c ∧ ¬ digB c) := fun h1 h2 => by
        refine ⟨s[i], List.getElem?_eq_getElem h1, fun hd => hgo ⟨h1, h2, fun c hc => ?_⟩⟩
        rw [← Option.some.inj ((List.getElem?_eq_getElem h1).symm.trans hc)]; exact hd
      clear hgo HE HI HV
      have hfin : (i = 0 ∧ Hid (∀ W, Below w.heap.size w W → RNumPost w s (.returned (.tuple #[.int .i64 (v : Int), .int .i64 (i : Int), .bool false])) W)) ∨ (10 = i ∧ Hid (∀ W, Below w.heap.size w W → RNumPost w s (.returned (.tuple #[.int .i64 (v : Int), .int .i64 (i : Int), .bool false])) W)) ∨ (i = 1 ∧ Hid (∀ W, Below w.heap.size w W → RNumPost w s (.returned (.tuple #[.int .i64 (v : Int), .int .i64 (i : Int), .bool true])) W)) ∨ (2 ≤ i ∧ i ≤ 9 ∧ ∃ c : UInt8, s[0]? = some c ∧ Hid (∀ W, Below w.heap.size w W → RNumPost w s (.returned (.tuple #[.int .i64 (v : Int), .int .i64 (i : Int), .bool ((c.toNat : Int) != 48)])) W)) := by
        rcases Nat.lt_or_ge i 1 with h | h
        · exact .inl ⟨by omega, fun W hW => HY.out false W hW ⟨fun h => Bool.noConfusion h, fun h => by omega⟩⟩
        · rcases Nat.lt_or_ge i 2 with h2 | h2
          · exact .inr (.inr (.inl ⟨by omega, fun W hW => HY.out true W hW ⟨fun _ => ⟨by omega, by omega, .inl (by omega)⟩, fun _ => rfl⟩⟩))
          · rcases Nat.lt_or_ge i 10 with h3 | h3
            · have h0 : s[0]? = some (s[0]'(by omega)) := List.getElem?_eq_getElem _
              refine .inr (.inr (.inr ⟨h2, by omega, s[0]'(by omega), h0, fun W hW => HY.out _ W hW ⟨fun hb => ⟨by omega, by omega, .inr ?_⟩, fun hb => ?_⟩⟩))
              · rw [List.head?_eq_getElem?, h0]
                intro e
                rw [bne_iff_ne] at hb
                exact hb (by rw [Option.some.inj e]; rfl)
              · rw [bne_iff_ne]
                intro e
                refine (hb.2.2.resolve_left (by omega)) ?_
                rw [List.head?_eq_getElem?, h0]
                congr 1
                exact UInt8.toNat_inj.1 (by show _ = 48; omega)
            · exact .inr (.inl ⟨by omega, fun W hW => HY.out false W hW ⟨fun h => Bool.noConfusion h, fun h => by omega⟩⟩)
      clear HY
      by_cases hA : i < s.length
      · rcases Nat.lt_or_ge i 10 with hB | hB
        · obtain ⟨c, hc, hnd⟩ := hex hA hB
          have hix := ixS s i c hc i rfl
          have hcl := c.toNat_lt
          by_cases g1 : (48 : Int) ≤ (c.toNat : Int)
          · have g2 : ¬ (c.toNat : Int) ≤ 57 := fun h => hnd ⟨by omega, by omega⟩
            clear hnd hc hex
            generalize c.toNat = cn at *
            rcases hfin with ⟨hf, HYF⟩ | ⟨hf, HYF⟩ | ⟨hf, HYF⟩ | ⟨hf2, hf9, c0, hc0, HYF⟩
            · have f1 : ¬ (1 : Int) ≤ (i : Int) := by omega
              have f1d : decide ((1 : Int) ≤ (i : Int)) = false := decide_eq_false f1
              clear hf hv10
              go_wp2
              all_goals
                go_quiet (fail)
                go_wp2
                go_ret3
                exact HYF.out _ (below_drewN HB.out _)
            · have f1 : (1 : Int) ≤ (i : Int) := by omega
              have f1d : decide ((1 : Int) ≤ (i : Int)) = true := decide_eq_true f1
              have f2 : ¬ (i : Int) ≤ 9 := by omega
              have f2d : decide ((i : Int) ≤ 9) = false := decide_eq_false f2
              clear hf hv10
              go_wp2
              all_goals
                go_quiet (fail)
                go_wp2
                go_ret3
                exact HYF.out _ (below_drewN HB.out _)
            · have f1 : (1 : Int) ≤ (i : Int) := by omega
              have f1d : decide ((1 : Int) ≤ (i : Int)) = true := decide_eq_true f1
              have f2 : (i : Int) ≤ 9 := by omega
              have f2d : decide ((i : Int) ≤ 9) = true := decide_eq_true f2
              have f3 : ((i : Int) == 1) = true := by rw [beq_iff_eq]; omega
              clear hf hv10
              go_wp2
              all_goals
                go_quiet (fail)
                go_wp2
                go_ret3
                exact HYF.out _ (below_drewN HB.out _)
            · have f1 : (1 : Int) ≤ (i : Int) := by omega
              have f1d : decide ((1 : Int) ≤ (i : Int)) = true := decide_eq_true f1
              have f2 : (i : Int) ≤ 9 := by omega
              have f2d : decide ((i : Int) ≤ 9) = true := decide_eq_true f2
              have f3 : ((i : Int) == 1) = false := by rw [beq_eq_false_iff_ne]; omega
              have hx0 := ixS s 0 c0 hc0 0 rfl
              clear hf2 hf9 hc0 hv10
              generalize c0.toNat = c0n at *
              go_wp2
              all_goals
                go_quiet (fail)
                go_wp2
                go_ret3
                exact HYF.out _ (below_drewN HB.out _)
          · clear hnd hc hex
            generalize c.toNat = cn at *
            rcases hfin with ⟨hf, HYF⟩ | ⟨hf, HYF⟩ | ⟨hf, HYF⟩ | ⟨hf2, hf9, c0, hc0, HYF⟩
            · have f1 : ¬ (1 : Int) ≤ (i : Int) := by omega
              have f1d : decide ((1 : Int) ≤ (i : Int)) = false := decide_eq_false f1
              clear hf hv10
              go_wp2
              all_goals
                go_quiet (fail)
                go_wp2
                go_ret3
                exact HYF.out _ (below_drewN HB.out _)
            · have f1 : (1 : Int) ≤ (i : Int) := by omega
              have f1d : decide ((1 : Int) ≤ (i : Int)) = true := decide_eq_true f1
              have f2 : ¬ (i : Int) ≤ 9 := by omega
              have f2d : decide ((i : Int) ≤ 9) = false := decide_eq_false f2
              clear hf hv10
              go_wp2
              all_goals
                go_quiet (fail)
                go_wp2
                go_ret3
                exact HYF.out _ (below_drewN HB.out _)
            · have f1 : (1 : Int) ≤ (i : Int) := by omega
              have f1d : decide ((1 : Int) ≤ (i : Int)) = true := decide_eq_true f1
              have f2 : (i : Int) ≤ 9 := by omega
              have f2d : decide ((i : Int) ≤ 9) = true := decide_eq_true f2
              have f3 : ((i : Int) == 1) = true := by rw [beq_iff_eq]; omega
              clear hf hv10
              go_wp2
              all_goals
                go_quiet (fail)
                go_wp2
                go_ret3
                exact HYF.out _ (below_drewN HB.out _)
            · have f1 : (1 : Int) ≤ (i : Int) := by omega
              have f1d : decide ((1 : Int) ≤ (i : Int)) = true := decide_eq_true f1
              have f2 : (i : Int) ≤ 9 := by omega
              have f2d : decide ((i : Int) ≤ 9) = true := decide_eq_true f2
              have f3 : ((i : Int) == 1) = false := by rw [beq_eq_false_iff_ne]; omega
              have hx0 := ixS s 0 c0 hc0 0 rfl
              clear hf2 hf9 hc0 hv10
              generalize c0.toNat = c0n at *
              go_wp2
              all_goals
                go_quiet (fail)
                go_wp2
                go_ret3
                exact HYF.out _ (below_drewN HB.out _)
        · clear hex
          rcases hfin with ⟨hf, HYF⟩ | ⟨hf, HYF⟩ | ⟨hf, HYF⟩ | ⟨hf2, hf9, c0, hc0, HYF⟩
          · have f1 : ¬ (1 : Int) ≤ (i : Int) := by omega
            have f1d : decide ((1 : Int) ≤ (i : Int)) = false := decide_eq_false f1
            clear hf hv10
            go_wp2
            all_goals
              go_quiet (fail)
              go_wp2
              go_ret3
              exact HYF.out _ (below_drewN HB.out _)
          · have f1 : (1 : Int) ≤ (i : Int) := by omega
            have f1d : decide ((1 : Int) ≤ (i : Int)) = true := decide_eq_true f1
            have f2 : ¬ (i : Int) ≤ 9 := by omega
            have f2d : decide ((i : Int) ≤ 9) = false := decide_eq_false f2
            clear hf hv10
            go_wp2
            all_goals
              go_quiet (fail)
              go_wp2
              go_ret3
              exact HYF.out _ (below_drewN HB.out _)
          · have f1 : (1 : Int) ≤ (i : Int) := by omega
            have f1d : decide ((1 : Int) ≤ (i : Int)) = true := decide_eq_true f1
            have f2 : (i : Int) ≤ 9 := by omega
            have f2d : decide ((i : Int) ≤ 9) = true := decide_eq_true f2
            have f3 : ((i : Int) == 1) = true := by rw [beq_iff_eq]; omega
            clear hf hv10
            go_wp2
            all_goals
              go_quiet (fail)
              go_wp2
              go_ret3
              exact HYF.out _ (below_drewN HB.out _)
          · have f1 : (1 : Int) ≤ (i : Int) := by omega
            have f1d : decide ((1 : Int) ≤ (i : Int)) = true := decide_eq_true f1
            have f2 : (i : Int) ≤ 9 := by omega
            have f2d : decide ((i : Int) ≤ 9) = true := decide_eq_true f2
            have f3 : ((i : Int) == 1) = false := by rw [beq_eq_false_iff_ne]; omega
            have hx0 := ixS s 0 c0 hc0 0 rfl
            clear hf2 hf9 hc0 hv10
            generalize c0.toNat = c0n at *
            go_wp2
            all_goals
              go_quiet (fail)
              go_wp2
              go_ret3
              exact HYF.out _ (below_drewN HB.out _)
      · clear hex
        rcases hfin with ⟨hf, HYF⟩ | ⟨hf, HYF⟩ | ⟨hf, HYF⟩ | ⟨hf2, hf9, c0, hc0, HYF⟩
        · have f1 : ¬ (1 : Int) ≤ (i : Int) := by omega
          have f1d : decide ((1 : Int) ≤ (i : Int)) = false := decide_eq_false f1
          clear hf hv10
          go_wp2
          all_goals
            go_quiet (fail)
            go_wp2
            go_ret3
            exact HYF.out _ (below_drewN HB.out _)
        · have f1 : (1 : Int) ≤ (i : Int) := by omega
          have f1d : decide ((1 : Int) ≤ (i : Int)) = true := decide_eq_true f1
          have f2 : ¬ (i : Int) ≤ 9 := by omega
          have f2d : decide ((i : Int) ≤ 9) = false := decide_eq_false f2
          clear hf hv10
          go_wp2
          all_goals
            go_quiet (fail)
            go_wp2
            go_ret3
            exact HYF.out _ (below_drewN HB.out _)
        · have f1 : (1 : Int) ≤ (i : Int) := by omega
          have f1d : decide ((1 : Int) ≤ (i : Int)) = true := decide_eq_true f1
          have f2 : (i : Int) ≤ 9 := by omega
          have f2d : decide ((i : Int) ≤ 9) = true := decide_eq_true f2
          have f3 : ((i : Int) == 1) = true := by rw [beq_iff_eq]; omega
          clear hf hv10
          go_wp2
          all_goals
            go_quiet (fail)
            go_wp2
            go_ret3
            exact HYF.out _ (below_drewN HB.out _)
        · have f1 : (1 : Int) ≤ (i : Int) := by omega
          have f1d : decide ((1 : Int) ≤ (i : Int)) = true := decide_eq_true f1
          have f2 : (i : Int) ≤ 9 := by omega
          have f2d : decide ((i : Int) ≤ 9) = true := decide_eq_true f2
          have f3 : ((i : Int) == 1) = false := by rw [beq_eq_false_iff_ne]; omega
          have hx0 := ixS s 0 c0 hc0 0 rfl
          clear hf2 hf9 hc0 hv10
          generalize c0.toNat = c0n at *
          go_wp2
          all_goals
            go_quiet (fail)
            go_wp2
            go_ret3
            exact HYF.out _ (below_drewN HB.out _)
end Go.Proofs.YtdcobmoeligdkaaGreatDoor
