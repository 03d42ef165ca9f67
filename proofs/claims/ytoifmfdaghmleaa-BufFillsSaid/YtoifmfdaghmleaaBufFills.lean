/-
  BufFills: a buffer takes as many documents, and as many bytes, as the bounds say, and no more; what is dropped makes room.
-/
import Derived.Test.YtoifmfdaghmleaaBufKeys
set_option linter.unusedVariables false
namespace Go.Proofs.Ytoifmfdaghmleaa
open Go.RowKit Go.Lib Go.Sort Go.Shelf Go.Proofs.Ytoifmfdaghmleaa.Tx

abbrev daF : Int → List Nat := fun i => if i = 1000 then [120] else []
abbrev dbF (kk : Nat) : Int → List Nat := fun i => List.replicate (if i ≤ 30 then 1990 else if i = 31 then kk else 300) 0
theorem daF_no {i : Int} (h : i ≠ 1000) : daF i = [] := if_neg h
theorem dbF_len (kk : Nat) (i : Int) : (dbF kk i).length = if i ≤ 30 then 1990 else if i = 31 then kk else 300 := List.length_replicate
set_option maxRecDepth 100000 in
set_option maxHeartbeats 8000000 in
theorem bufFills_walk (w : World) (hmx : MaxCell w) (n : Int) (hn : (Lit.int .i64 n).wf = true) (long : Int) (hl : (Lit.int .i64 long).wf = true) :
    Calls Try.prog 3 #[.int .i64 n, .int .i64 long] w fun e w' => e = .returned (.bool true) ∧ Below w.heap.size w w' := by
  obtain ⟨n7, hn7, hn8⟩ : ∃ m : Nat, bits .and .i64 n 7 = (m : Int) ∧ m ≤ 7 := by
    have em : bits .and .i64 n 7 = n % 8 := i64_mask n 3 (by omega)
    exact ⟨(n % 8).toNat, by rw [em]; omega, by omega⟩
  obtain ⟨k6, hk6, hk7⟩ : ∃ m : Nat, bits .and .i64 long 63 = (m : Int) ∧ m ≤ 63 := by
    have em : bits .and .i64 long 63 = long % 64 := i64_mask long 6 (by omega)
    exact ⟨(long % 64).toNat, by rw [em]; omega, by omega⟩
  have HNA := Lib.hid (newBuf daF w)
  have HNB := Lib.hid (fun W => newBuf (dbF (k6 + 230)) W)
  have HMX := Lib.hid hmx
  have HN8 := Lib.hid hn8
  have HK7 := Lib.hid hk7
  clear hmx hn hl hk7
  go_enter Try.func3, Try.ntmps3
  go_wp2_with fail
  refine HNA.out.mono ?_
  rintro e w1 ⟨ba, ma, rfl, hba, hb1⟩
  go_wp2_with fail
  refine (HNB.out w1).mono ?_
  rintro e w2 ⟨bb, mb, rfl, hbb, hb2⟩
  have HTB := Lib.hid (two_new hba hb1 hbb hb2)
  have eg1 := fun W => egPtrB ba W
  have eg2 := fun W => egPtrB bb W
  clear hba hb1 hbb hb2 HNA HNB
  have hwn : IntKind.i64.wrap ((n7 : Int) + 296) = (n7 : Int) + 296 := IntWalk.i64_in _ (by omega)
  go_wp2
  go_loopw [7, 8] (fun v7 v8 wr => ∃ (k : Nat) (va : Value) (L : List BEnt), k ≤ n7 + 296 ∧ v7 = .int .i64 ((k : Int) + 1) ∧ TwoBuf w daF (dbF (k6 + 230)) wr ba ma va L bb mb (.slice none 0 0) [] ∧ KeyN L (min k 300) 0 (fun x => 1 ≤ x ∧ x ≤ ((min k 300 : Nat) : Int))) (fun v7 v8 _ => n7 + 297 - (intOf v7).toNat)
  case atStart => exact ⟨0, _, [], Nat.zero_le _, rfl, HTB.out, KeyN.nil.congr (by omega) rfl (fun x => by simp; omega)⟩
  case round =>
    obtain ⟨k, va, L, hk, rfl, htb, hky⟩ := hrel
    by_cases hlt : k < n7 + 296
    · have t0 : (k : Int) + 1 ≤ (n7 : Int) + 296 := by omega
      have hid : daF ((k : Int) + 1) = [] := daF_no (by have := HN8.out; omega)
      have hwk : IntKind.i64.wrap ((k : Int) + 1 + 1) = (k : Int) + 1 + 1 := IntWalk.i64_in _ (by have := HN8.out; omega)
      have HT := Lib.hid htb
      have HY := Lib.hid hky
      clear htb hky
      by_cases h3 : k < 300
      · have hni : ¬ ((1 : Int) ≤ (k : Int) + 1 ∧ (k : Int) + 1 ≤ ((min k 300 : Nat) : Int)) := by omega
        have hlen := HY.out.len
        have htot := HY.out.tot
        have HAD := Lib.hid (addB_ok HT.out.a HT.out.bel.size ((k : Int) + 1) (by omega) (fun h => hni ((HY.out.mem _).1 h)) none 0 0 (by rw [hid]; exact Row.nil _ _ _) (by rw [hid]; rfl) (by omega) (by omega) (by omega))
        have HPT := Lib.hid (fun z => HY.out.put z hni)
        have t3 : (k : Int) + 1 ≤ 300 := by omega
        have t4 : decide ((k : Int) + 1 ≤ 300) = true := decide_eq_true t3
        clear hlen htot hid hni
        go_wp2_with fail
        refine HAD.out.mono ?_
        rintro e w3 ⟨rfl, z, hz, htn⟩
        obtain ⟨va', ht3⟩ := HT.out.left htn
        have hk3 := HPT.out z
        rw [hz] at hk3
        have HT3 := Lib.hid ht3
        have HK3 := Lib.hid hk3
        clear htn ht3 hk3 hz HAD HPT
        go_wp2
        go_roundw
        case rel => exact ⟨k + 1, va', _, by omega, by go_num, HT3.out, HK3.out.congr (by omega) rfl (fun x => by constructor <;> (intro h; omega))⟩
        case measure => simp [intOf]; omega
      · have hni : ¬ ((1 : Int) ≤ (k : Int) + 1 ∧ (k : Int) + 1 ≤ ((min k 300 : Nat) : Int)) := by omega
        have hlen := HY.out.len
        have htot := HY.out.tot
        have hrr : roomR L 0 = 65 := by unfold roomR; rw [if_neg (by omega), if_pos (by omega)]
        have had := addB_many HT.out.a (by omega) (by omega) ((k : Int) + 1) (by omega) (fun h => hni ((HY.out.mem _).1 h)) none 0 0 (by omega) (by rw [hrr]; omega)
        rw [hrr] at had
        have HAD := Lib.hid had
        have t3 : ¬ (k : Int) + 1 ≤ 300 := by omega
        have t4 : decide ((k : Int) + 1 ≤ 300) = false := decide_eq_false t3
        clear hlen htot hid hni hrr had
        go_wp2_with fail
        refine HAD.out.mono ?_
        rintro e w3 ⟨rfl, hb⟩
        have HT3 := Lib.hid (HT.out.kept hb)
        clear hb HAD
        go_wp2
        go_roundw
        case rel => exact ⟨k + 1, va, L, by omega, by go_num, HT3.out, HY.out.congr (by omega) rfl (fun x => by constructor <;> (intro h; omega))⟩
        case measure => simp [intOf]; omega
    · obtain rfl : k = n7 + 296 := by omega
      have t0 : ¬ ((n7 + 296 : Nat) : Int) + 1 ≤ (n7 : Int) + 296 := by omega
      have HT := Lib.hid htb
      have HY := Lib.hid (hky.congr (m' := min (n7 + 296) 300) rfl rfl (fun x => Iff.rfl))
      clear htb hky hlt
      obtain ⟨M, hM⟩ : ∃ M, M = min (n7 + 296) 300 := ⟨_, rfl⟩
      rw [← hM] at HY
      have HMB : Hid (296 ≤ M ∧ M ≤ 300) := ⟨by omega, by omega⟩
      clear hM hk hn8
      have hmk : ∀ W : World, (Instr.makeSlice 26 (.int .i64 1990) (.int .i64 1990)).run Try.prog W = .ok (.slice (some ⟨W.heap.size, 0, none⟩) 1990 1990) (W.alloc (.cells (madeCells #[.int .u8 0] 1990) 5)) := make_u85 1990 (by omega)
      go_wp2
      clear t0 hn7 hwn
      go_loopw [9] (fun v9 wx => ∃ (j : Nat) (vb : Value) (Lb : List BEnt), j ≤ 30 ∧ v9 = .int .i64 ((j : Int) + 1) ∧ TwoBuf w daF (dbF (k6 + 230)) wx ba ma va L bb mb vb Lb ∧ KeyN Lb j (1990 * j) (fun x => 1 ≤ x ∧ x ≤ (j : Int))) (fun v9 _ => 31 - (intOf v9).toNat)
      case atStart => exact ⟨0, _, [], Nat.zero_le _, rfl, HT.out, KeyN.nil.congr rfl rfl (fun x => by simp; omega)⟩
      case round =>
        obtain ⟨j, vb, Lb, hj, rfl, htb, hky⟩ := hrel
        clear HT
        by_cases hlt : j < 30
        · have t0 : (j : Int) + 1 ≤ 30 := by omega
          have hni : ¬ ((1 : Int) ≤ (j : Int) + 1 ∧ (j : Int) + 1 ≤ (j : Int)) := by omega
          have hlen := hky.len
          have htot := hky.tot
          have hdl : (dbF (k6 + 230) ((j : Int) + 1)).length = 1990 := by rw [dbF_len, if_pos (by omega)]
          have hdv : dbF (k6 + 230) ((j : Int) + 1) = List.replicate 1990 0 := by show List.replicate _ 0 = _; rw [if_pos (by omega)]
          have HT : Hid (TwoBuf w daF (dbF (k6 + 230)) (wr.alloc (.cells (madeCells #[.int .u8 0] 1990) 5)) ba ma va L bb mb vb Lb) := htb.kept ((Below.refl _ wr).alloc (Nat.le_refl _) _)
          have HAD := Lib.hid (addB_ok HT.out.b HT.out.bel.size ((j : Int) + 1) (by omega) (fun h => hni ((hky.mem _).1 h)) (some ⟨wr.heap.size, 0, none⟩) 1990 1990 (by rw [hdv]; exact row_made wr 1990) hdl.symm (by omega) (by omega) (by omega))
          have HPT := Lib.hid (fun z => hky.put z hni)
          have hwk : IntKind.i64.wrap ((j : Int) + 1 + 1) = (j : Int) + 1 + 1 := IntWalk.i64_in _ (by omega)
          clear hlen htot hdl hdv hni htb hky
          go_wp2_with fail
          generalize (wr.alloc (.cells (madeCells #[.int .u8 0] 1990) 5)) = w3 at *
          refine HAD.out.mono ?_
          rintro e w4 ⟨rfl, z, hz, htn⟩
          obtain ⟨vb', ht3⟩ := HT.out.right htn
          have hk3 := HPT.out z
          rw [hz] at hk3
          have HT3 := Lib.hid ht3
          have HK3 := Lib.hid hk3
          clear htn ht3 hk3 hz HAD HPT hmk
          go_wp2
          go_roundw
          case rel => exact ⟨j + 1, vb', _, by omega, by go_num, HT3.out, HK3.out.congr rfl (by omega) (fun x => by constructor <;> (intro h; omega))⟩
          case measure => simp [intOf]; omega
        · obtain rfl : j = 30 := by omega
          have HT := Lib.hid htb
          have HYB := Lib.hid hky
          have hk230 : k6 + 230 ≤ 293 := by have := HK7.out; omega
          have hmk2 : ∀ W : World, (Instr.makeSlice 26 (.int .i64 ((k6 : Int) + 230)) (.int .i64 ((k6 : Int) + 230))).run Try.prog W = .ok (.slice (some ⟨W.heap.size, 0, none⟩) (k6 + 230) (k6 + 230)) (W.alloc (.cells (madeCells #[.int .u8 0] (k6 + 230)) 5)) := make_u85 (k6 + 230) (by omega)
          have hw1 : IntKind.i64.wrap ((k6 : Int) + 230) = (k6 : Int) + 230 := IntWalk.i64_in _ (by omega)
          have hw2 : IntKind.i64.wrap (59730 + ((k6 : Int) + 230)) = 59730 + ((k6 : Int) + 230) := IntWalk.i64_in _ (by omega)
          have hw3 : IntKind.i64.wrap (59730 + ((k6 : Int) + 230) + 1) = 59730 + ((k6 : Int) + 230) + 1 := IntWalk.i64_in _ (by omega)
          have hni : ¬ ((1 : Int) ≤ 31 ∧ (31 : Int) ≤ ((30 : Nat) : Int)) := by omega
          clear htb hky hlt hj hmk
          have HT5 : Hid (TwoBuf w daF (dbF (k6 + 230)) (wr.alloc (.cells (madeCells #[.int .u8 0] (k6 + 230)) 5)) ba ma va L bb mb vb Lb) := HT.out.kept ((Below.refl _ wr).alloc (Nat.le_refl _) _)
          have HRM := Lib.hid (row_made wr (k6 + 230))
          go_wp2_with fail
          generalize (wr.alloc (.cells (madeCells #[.int .u8 0] (k6 + 230)) 5)) = w5 at *
          by_cases h269 : k6 + 230 ≤ 269
          · have hdl : (dbF (k6 + 230) 31).length = k6 + 230 := by rw [dbF_len, if_neg (by omega), if_pos rfl]
            have hdv : dbF (k6 + 230) 31 = List.replicate (k6 + 230) 0 := by show List.replicate _ 0 = _; rw [if_neg (by omega), if_pos rfl]
            have hlen := HYB.out.len
            have htot := HYB.out.tot
            refine (addB_ok HT5.out.b HT5.out.bel.size 31 (by omega) (fun h => hni ((HYB.out.mem _).1 h)) (some ⟨wr.heap.size, 0, none⟩) (k6 + 230) (k6 + 230) (by rw [hdv]; exact HRM.out) hdl.symm (by omega) (by omega) (by omega)).mono ?_
            rintro e w6 ⟨rfl, z, hz, htn⟩
            obtain ⟨vb', ht3⟩ := HT5.out.right htn
            have hk3 := HYB.out.put z hni
            rw [hz] at hk3
            have t6 : 59730 + ((k6 : Int) + 230) + 1 ≤ 60000 := by omega
            have t7 : decide (59730 + ((k6 : Int) + 230) + 1 ≤ 60000) = true := decide_eq_true t6
            have HT6 : Hid (∃ vb Lb m t p, TwoBuf w daF (dbF (k6 + 230)) w6 ba ma va L bb mb vb Lb ∧ KeyN Lb m t p ∧ m ≤ 31 ∧ t ≤ 59969 ∧ p 30 ∧ ¬ p 32) := ⟨vb', _, 31, _, _, ht3, hk3, by omega, by omega, by omega, by omega⟩
            clear ht3 hk3 htn hz hlen htot hdl hdv HRM HT HYB HT5 hni hmk2
            go_wp2_with fail
            obtain ⟨vb6, Lb6, m6, tt6, p6, ht6, hy6, hm6, htt6, hp30, hp32⟩ := HT6.out
            have hlenA := HY.out.len
            have htotA := HY.out.tot
            have hMM := HMB.out
            have hdA := dropB ht6.a (by omega) (by omega) 7
            rw [memB_true ((HY.out.mem 7).2 (by omega))] at hdA
            have hya := HY.out.del ht6.a (id := 7) (by omega)
            have HYA := Lib.hid hya
            have HY6 := Lib.hid hy6
            have HT6x := Lib.hid ht6
            have HDA := Lib.hid hdA
            have HMS : Hid (m6 ≤ 31 ∧ tt6 ≤ 59969) := ⟨hm6, htt6⟩
            have HP30 := Lib.hid hp30
            have HP32 := Lib.hid hp32
            clear hlenA htotA hMM hdA hya hy6 ht6 hm6 htt6 hp30 hp32 HT6
            refine HDA.out.mono ?_
            rintro e w7 ⟨rfl, htn⟩
            obtain ⟨va7, ht7⟩ := HT6x.out.left htn
            have hcv := Lib.run_convert_bytes_const (P := Try.prog) w7 26 5 #[.int .u8 120] 1 1 Try.underlying26 Try.underlying5
            have HT8 : Hid (TwoBuf w daF (dbF (k6 + 230)) (w7.alloc (.cells #[.int .u8 120] 5 (1, 2))) ba ma va7 (delE ltI L 7) bb mb vb6 Lb6) := ht7.kept ((Below.refl _ w7).alloc (Nat.le_refl _) _)
            have HRX := Lib.hid (row_bytesF w7 [120] 5 (1, 2))
            clear htn ht7 HDA HT6x
            go_wp2_with fail
            generalize hw8 : (w7.alloc (.cells #[.int .u8 120] 5 (1, 2))) = w8 at *
            have hlenA := HYA.out.len
            have htotA := HYA.out.tot
            rw [daF_no (by omega), List.length_nil] at htotA
            have hMM := HMB.out
            have HAD := Lib.hid (addB_ok HT8.out.a HT8.out.bel.size 1000 (by omega) (fun h => by have := ((HYA.out.mem 1000).1 h).1; omega) (some ⟨w7.heap.size, 0, none⟩) 1 1 (by rw [← hw8]; exact HRX.out) rfl (by omega) (by omega) (by omega))
            clear hlenA htotA hMM hcv hw8 HRX
            refine HAD.out.mono ?_
            rintro e w9 ⟨rfl, z9, -, htn⟩
            obtain ⟨va9, ht9⟩ := HT8.out.left htn
            have hlenB := HY6.out.len
            have htotB := HY6.out.tot
            have hMS := HMS.out
            have hdB := dropB ht9.b (by omega) (by omega) 30
            rw [memB_true ((HY6.out.mem 30).2 HP30.out)] at hdB
            have HYB6 := Lib.hid (HY6.out.del ht9.b (id := 30) HP30.out)
            have HDB := Lib.hid hdB
            have HT9 := Lib.hid ht9
            have hmk3 : ∀ W : World, (Instr.makeSlice 26 (.int .i64 300) (.int .i64 300)).run Try.prog W = .ok (.slice (some ⟨W.heap.size, 0, none⟩) 300 300) (W.alloc (.cells (madeCells #[.int .u8 0] 300) 5)) := make_u85 300 (by omega)
            clear htn ht9 hlenB htotB hMS hdB HAD HT8
            go_wp2_with fail
            refine HDB.out.mono ?_
            rintro e wa ⟨rfl, htn⟩
            obtain ⟨vba, hta⟩ := HT9.out.right htn
            have HTA : Hid (TwoBuf w daF (dbF (k6 + 230)) (wa.alloc (.cells (madeCells #[.int .u8 0] 300) 5)) ba ma va9 _ bb mb vba (delE ltI Lb6 30)) := hta.kept ((Below.refl _ wa).alloc (Nat.le_refl _) _)
            have HRM2 := Lib.hid (row_made wa 300)
            clear htn hta HDB HT9
            go_wp2_with fail
            generalize (wa.alloc (.cells (madeCells #[.int .u8 0] 300) 5)) = wb at *
            have hlenB := HYB6.out.len
            have htotB := HYB6.out.tot
            have hMS := HMS.out
            rw [dbF_len, if_pos (by omega)] at htotB
            have hdl : (dbF (k6 + 230) 32).length = 300 := by rw [dbF_len, if_neg (by omega), if_neg (by omega)]
            have hdv : dbF (k6 + 230) 32 = List.replicate 300 0 := by show List.replicate _ 0 = _; rw [if_neg (by omega), if_neg (by omega)]
            have HAD := Lib.hid (addB_ok HTA.out.b HTA.out.bel.size 32 (by omega) (fun h => HP32.out ((HYB6.out.mem 32).1 h).1) (some ⟨wa.heap.size, 0, none⟩) 300 300 (by rw [hdv]; exact HRM2.out) hdl.symm (by omega) (by omega) (by omega))
            clear hlenB htotB hMS hdl hdv hmk3 HRM2
            refine HAD.out.mono ?_
            rintro e wc ⟨rfl, zc, -, htn⟩
            obtain ⟨vbc, htc⟩ := HTA.out.right htn
            have HBC := Lib.hid htc.bel
            have HAW := Lib.hid (awakeB wc (MaxCell.kept HMX.out htc.bel))
            clear htn htc HAD HTA
            go_wp2_with fail
            refine HAW.out.mono ?_
            rintro e wd ⟨rfl, hbd⟩
            have HBD := Lib.hid (below_next HBC.out hbd HBC.out.size)
            clear hbd HAW
            go_wp2
            go_ret
            exact ⟨rfl, HBD.out⟩
          · have hlen := HYB.out.len
            have htot := HYB.out.tot
            have hrr : roomR Lb (k6 + 230) = 65 := by unfold roomR; rw [if_neg (by omega), if_neg (by omega), if_pos (by omega)]
            have had := addB_many HT5.out.b (by omega) (by omega) 31 (by omega) (fun h => hni ((HYB.out.mem _).1 h)) (some ⟨wr.heap.size, 0, none⟩) (k6 + 230) (k6 + 230) (by omega) (by rw [hrr]; omega)
            rw [hrr] at had
            refine had.mono ?_
            rintro e w6 ⟨rfl, hb6⟩
            have t6 : ¬ 59730 + ((k6 : Int) + 230) + 1 ≤ 60000 := by omega
            have t7 : decide (59730 + ((k6 : Int) + 230) + 1 ≤ 60000) = false := decide_eq_false t6
            have HT6 : Hid (∃ vb Lb m t p, TwoBuf w daF (dbF (k6 + 230)) w6 ba ma va L bb mb vb Lb ∧ KeyN Lb m t p ∧ m ≤ 31 ∧ t ≤ 59969 ∧ p 30 ∧ ¬ p 32) := ⟨vb, _, 30, _, _, HT5.out.kept hb6, HYB.out, by omega, by omega, by omega, by omega⟩
            clear hlen htot hrr had hb6 HRM HT HYB HT5 hni hmk2
            go_wp2_with fail
            obtain ⟨vb6, Lb6, m6, tt6, p6, ht6, hy6, hm6, htt6, hp30, hp32⟩ := HT6.out
            have hlenA := HY.out.len
            have htotA := HY.out.tot
            have hMM := HMB.out
            have hdA := dropB ht6.a (by omega) (by omega) 7
            rw [memB_true ((HY.out.mem 7).2 (by omega))] at hdA
            have hya := HY.out.del ht6.a (id := 7) (by omega)
            have HYA := Lib.hid hya
            have HY6 := Lib.hid hy6
            have HT6x := Lib.hid ht6
            have HDA := Lib.hid hdA
            have HMS : Hid (m6 ≤ 31 ∧ tt6 ≤ 59969) := ⟨hm6, htt6⟩
            have HP30 := Lib.hid hp30
            have HP32 := Lib.hid hp32
            clear hlenA htotA hMM hdA hya hy6 ht6 hm6 htt6 hp30 hp32 HT6
            refine HDA.out.mono ?_
            rintro e w7 ⟨rfl, htn⟩
            obtain ⟨va7, ht7⟩ := HT6x.out.left htn
            have hcv := Lib.run_convert_bytes_const (P := Try.prog) w7 26 5 #[.int .u8 120] 1 1 Try.underlying26 Try.underlying5
            have HT8 : Hid (TwoBuf w daF (dbF (k6 + 230)) (w7.alloc (.cells #[.int .u8 120] 5 (1, 2))) ba ma va7 (delE ltI L 7) bb mb vb6 Lb6) := ht7.kept ((Below.refl _ w7).alloc (Nat.le_refl _) _)
            have HRX := Lib.hid (row_bytesF w7 [120] 5 (1, 2))
            clear htn ht7 HDA HT6x
            go_wp2_with fail
            generalize hw8 : (w7.alloc (.cells #[.int .u8 120] 5 (1, 2))) = w8 at *
            have hlenA := HYA.out.len
            have htotA := HYA.out.tot
            rw [daF_no (by omega), List.length_nil] at htotA
            have hMM := HMB.out
            have HAD := Lib.hid (addB_ok HT8.out.a HT8.out.bel.size 1000 (by omega) (fun h => by have := ((HYA.out.mem 1000).1 h).1; omega) (some ⟨w7.heap.size, 0, none⟩) 1 1 (by rw [← hw8]; exact HRX.out) rfl (by omega) (by omega) (by omega))
            clear hlenA htotA hMM hcv hw8 HRX
            refine HAD.out.mono ?_
            rintro e w9 ⟨rfl, z9, -, htn⟩
            obtain ⟨va9, ht9⟩ := HT8.out.left htn
            have hlenB := HY6.out.len
            have htotB := HY6.out.tot
            have hMS := HMS.out
            have hdB := dropB ht9.b (by omega) (by omega) 30
            rw [memB_true ((HY6.out.mem 30).2 HP30.out)] at hdB
            have HYB6 := Lib.hid (HY6.out.del ht9.b (id := 30) HP30.out)
            have HDB := Lib.hid hdB
            have HT9 := Lib.hid ht9
            have hmk3 : ∀ W : World, (Instr.makeSlice 26 (.int .i64 300) (.int .i64 300)).run Try.prog W = .ok (.slice (some ⟨W.heap.size, 0, none⟩) 300 300) (W.alloc (.cells (madeCells #[.int .u8 0] 300) 5)) := make_u85 300 (by omega)
            clear htn ht9 hlenB htotB hMS hdB HAD HT8
            go_wp2_with fail
            refine HDB.out.mono ?_
            rintro e wa ⟨rfl, htn⟩
            obtain ⟨vba, hta⟩ := HT9.out.right htn
            have HTA : Hid (TwoBuf w daF (dbF (k6 + 230)) (wa.alloc (.cells (madeCells #[.int .u8 0] 300) 5)) ba ma va9 _ bb mb vba (delE ltI Lb6 30)) := hta.kept ((Below.refl _ wa).alloc (Nat.le_refl _) _)
            have HRM2 := Lib.hid (row_made wa 300)
            clear htn hta HDB HT9
            go_wp2_with fail
            generalize (wa.alloc (.cells (madeCells #[.int .u8 0] 300) 5)) = wb at *
            have hlenB := HYB6.out.len
            have htotB := HYB6.out.tot
            have hMS := HMS.out
            rw [dbF_len, if_pos (by omega)] at htotB
            have hdl : (dbF (k6 + 230) 32).length = 300 := by rw [dbF_len, if_neg (by omega), if_neg (by omega)]
            have hdv : dbF (k6 + 230) 32 = List.replicate 300 0 := by show List.replicate _ 0 = _; rw [if_neg (by omega), if_neg (by omega)]
            have HAD := Lib.hid (addB_ok HTA.out.b HTA.out.bel.size 32 (by omega) (fun h => HP32.out ((HYB6.out.mem 32).1 h).1) (some ⟨wa.heap.size, 0, none⟩) 300 300 (by rw [hdv]; exact HRM2.out) hdl.symm (by omega) (by omega) (by omega))
            clear hlenB htotB hMS hdl hdv hmk3 HRM2
            refine HAD.out.mono ?_
            rintro e wc ⟨rfl, zc, -, htn⟩
            obtain ⟨vbc, htc⟩ := HTA.out.right htn
            have HBC := Lib.hid htc.bel
            have HAW := Lib.hid (awakeB wc (MaxCell.kept HMX.out htc.bel))
            clear htn htc HAD HTA
            go_wp2_with fail
            refine HAW.out.mono ?_
            rintro e wd ⟨rfl, hbd⟩
            have HBD := Lib.hid (below_next HBC.out hbd HBC.out.size)
            clear hbd HAW
            go_wp2
            go_ret
            exact ⟨rfl, HBD.out⟩
end Go.Proofs.Ytoifmfdaghmleaa
