/-
  Plain facts on bits and counts: no program is in sight. The number of set bits of a word as the library reckons it is the number of set bits.
-/
namespace Go.Proofs.Ytjpoebmjfedecaa.Wv

/-- how many of the first k bits of x are set -/
def pc : Nat → Nat → Nat
  | 0, _ => 0
  | k + 1, x => pc k x + (x.testBit k).toNat

theorem pc_le (k x : Nat) : pc k x ≤ k := by
  induction k with
  | zero => simp [pc]
  | succ k ih => simp only [pc]; have := Bool.toNat_le (x.testBit k); omega

theorem pc_add (m k x : Nat) : pc (m + k) x = pc m x + pc k (x / 2 ^ m) := by
  induction k with
  | zero => simp [pc]
  | succ k ih =>
    show pc (m + k) x + (x.testBit (m + k)).toNat = pc m x + (pc k (x / 2 ^ m) + ((x / 2 ^ m).testBit k).toNat)
    rw [ih, Nat.testBit_div_two_pow, Nat.add_comm k m]; omega

theorem pc_congr (k x y : Nat) (h : ∀ j, j < k → x.testBit j = y.testBit j) : pc k x = pc k y := by
  induction k with
  | zero => rfl
  | succ k ih => simp only [pc]; rw [ih (fun j hj => h j (by omega)), h k (by omega)]

theorem pc8 (k q b : Nat) (hb : b < 256) : pc (8 + k) (256 * q + b) = pc 8 b + pc k q := by
  rw [pc_add, show (256 * q + b) / 2 ^ 8 = q by omega, pc_congr 8 (256 * q + b) b]
  intro j hj
  rw [show (256 : Nat) = 2 ^ 8 from rfl, Nat.testBit_two_pow_mul_add (b_lt := by omega)]
  simp [hj]

theorem and256 (a b c d : Nat) (hb : b < 256) (hd : d < 256) : (256 * a + b) &&& (256 * c + d) = 256 * (a &&& c) + (b &&& d) := by
  apply Nat.eq_of_testBit_eq
  intro i
  have hbd : b &&& d < 2 ^ 8 := Nat.and_lt_two_pow _ (by omega)
  rw [Nat.testBit_and, show (256 : Nat) = 2 ^ 8 from rfl, Nat.testBit_two_pow_mul_add (b_lt := hbd), Nat.testBit_two_pow_mul_add (b_lt := by omega), Nat.testBit_two_pow_mul_add (b_lt := by omega)]
  split <;> simp [Nat.testBit_and]

def msk (d : Nat) : Nat → Nat
  | 0 => 0
  | k + 1 => 256 * msk d k + d

theorem msk_succ (d k : Nat) : msk d (k + 1) = 256 * msk d k + d := rfl

def st1 (k x : Nat) : Nat := (x / 2 &&& msk 85 k) + (x &&& msk 85 k)
def st2 (k x : Nat) : Nat := (x / 4 &&& msk 51 k) + (x &&& msk 51 k)
def st3 (k x : Nat) : Nat := ((x / 16 + x) &&& msk 15 k)
def t1 (b : Nat) : Nat := (b / 2 &&& 85) + (b &&& 85)
def t2 (b : Nat) : Nat := (b / 4 &&& 51) + (b &&& 51)
def t3 (b : Nat) : Nat := (b / 16 + b) &&& 15

theorem sh1 : ∀ r : Fin 2, ∀ b : Fin 256, (128 * r.val + b.val / 2) &&& 85 = (b.val / 2) &&& 85 := by decide +kernel
theorem sh2 : ∀ r : Fin 4, ∀ b : Fin 256, (64 * r.val + b.val / 4) &&& 51 = (b.val / 4) &&& 51 := by decide +kernel
theorem fin1 : ∀ b : Fin 256, t1 b.val < 256 ∧ t2 (t1 b.val) < 256 ∧ t2 (t1 b.val) % 16 ≤ 4 ∧ t2 (t1 b.val) / 16 ≤ 4 ∧ t3 (t2 (t1 b.val)) = pc 8 b.val := by decide +kernel

theorem st1_succ (k q b : Nat) (hb : b < 256) : st1 (k + 1) (256 * q + b) = 256 * st1 k q + t1 b := by
  have e : (128 * (q % 2) + b / 2) &&& 85 = (b / 2) &&& 85 := sh1 ⟨q % 2, by omega⟩ ⟨b, hb⟩
  unfold st1 t1
  rw [msk_succ, show (256 * q + b) / 2 = 256 * (q / 2) + (128 * (q % 2) + b / 2) by omega, and256 _ _ _ _ (by omega) (by omega), and256 _ _ _ _ (by omega) (by omega), e]
  omega
theorem st2_succ (k q b : Nat) (hb : b < 256) : st2 (k + 1) (256 * q + b) = 256 * st2 k q + t2 b := by
  have e : (64 * (q % 4) + b / 4) &&& 51 = (b / 4) &&& 51 := sh2 ⟨q % 4, by omega⟩ ⟨b, hb⟩
  unfold st2 t2
  rw [msk_succ, show (256 * q + b) / 4 = 256 * (q / 4) + (64 * (q % 4) + b / 4) by omega, and256 _ _ _ _ (by omega) (by omega), and256 _ _ _ _ (by omega) (by omega), e]
  omega
theorem st3_succ (k q b : Nat) (hb : b < 256) (h1 : b % 16 ≤ 4) (h2 : b / 16 ≤ 4) (h3 : q % 16 ≤ 4) : st3 (k + 1) (256 * q + b) = 256 * st3 k q + t3 b := by
  unfold st3 t3
  rw [msk_succ, show (256 * q + b) / 16 + (256 * q + b) = 256 * (q / 16 + q) + (16 * (q % 16) + b / 16 + b) by omega, and256 _ _ _ _ (by omega) (by omega)]
  have e : ∀ x : Nat, x &&& 15 = x % 16 := fun x => Nat.and_two_pow_sub_one_eq_mod x 4
  rw [e, e]
  omega

/-- what the library's steps make of x -/
def swar (x : Nat) : Nat :=
  let a := st3 8 (st2 8 (st1 8 x))
  let b := a + a / 256
  let c := b + b / 65536
  (c + c / 4294967296) % 128

theorem swar_eq (x : Nat) (hx : x < 18446744073709551616) : swar x = pc 64 x ∧ st3 8 (st2 8 (st1 8 x)) ≤ 578721382704613384 := by
  obtain ⟨q1, b0, e0, h0, g0⟩ : ∃ q b, x = 256 * q + b ∧ b < 256 ∧ q < 72057594037927936 := ⟨x / 256, x % 256, by omega, by omega, by omega⟩
  obtain ⟨q2, b1, e1, h1, g1⟩ : ∃ q b, q1 = 256 * q + b ∧ b < 256 ∧ q < 281474976710656 := ⟨q1 / 256, q1 % 256, by omega, by omega, by omega⟩
  obtain ⟨q3, b2, e2, h2, g2⟩ : ∃ q b, q2 = 256 * q + b ∧ b < 256 ∧ q < 1099511627776 := ⟨q2 / 256, q2 % 256, by omega, by omega, by omega⟩
  obtain ⟨q4, b3, e3, h3, g3⟩ : ∃ q b, q3 = 256 * q + b ∧ b < 256 ∧ q < 4294967296 := ⟨q3 / 256, q3 % 256, by omega, by omega, by omega⟩
  obtain ⟨q5, b4, e4, h4, g4⟩ : ∃ q b, q4 = 256 * q + b ∧ b < 256 ∧ q < 16777216 := ⟨q4 / 256, q4 % 256, by omega, by omega, by omega⟩
  obtain ⟨q6, b5, e5, h5, g5⟩ : ∃ q b, q5 = 256 * q + b ∧ b < 256 ∧ q < 65536 := ⟨q5 / 256, q5 % 256, by omega, by omega, by omega⟩
  obtain ⟨b7, b6, e6, h6, h7⟩ : ∃ q b, q6 = 256 * q + b ∧ b < 256 ∧ q < 256 := ⟨q6 / 256, q6 % 256, by omega, by omega, by omega⟩
  clear g0 g1 g2 g3 g4 g5 hx
  subst e6; subst e5; subst e4; subst e3; subst e2; subst e1; subst e0
  obtain ⟨a0, c0, d0, f0, p0⟩ := fin1 ⟨b0, h0⟩
  obtain ⟨a1, c1, d1, f1, p1⟩ := fin1 ⟨b1, h1⟩
  obtain ⟨a2, c2, d2, f2, p2⟩ := fin1 ⟨b2, h2⟩
  obtain ⟨a3, c3, d3, f3, p3⟩ := fin1 ⟨b3, h3⟩
  obtain ⟨a4, c4, d4, f4, p4⟩ := fin1 ⟨b4, h4⟩
  obtain ⟨a5, c5, d5, f5, p5⟩ := fin1 ⟨b5, h5⟩
  obtain ⟨a6, c6, d6, f6, p6⟩ := fin1 ⟨b6, h6⟩
  obtain ⟨a7, c7, d7, f7, p7⟩ := fin1 ⟨b7, h7⟩
  dsimp only at *
  have hb7 : b7 = 256 * 0 + b7 := by omega
  have k0 := pc_le 8 b0
  have k1 := pc_le 8 b1
  have k2 := pc_le 8 b2
  have k3 := pc_le 8 b3
  have k4 := pc_le 8 b4
  have k5 := pc_le 8 b5
  have k6 := pc_le 8 b6
  have k7 := pc_le 8 b7
  have E1 : st1 1 b7 = t1 b7 := by have h := st1_succ 0 0 b7 h7; simpa [st1, msk] using h
  have E2 : st2 1 (t1 b7) = t2 (t1 b7) := by have h := st2_succ 0 0 (t1 b7) a7; simpa [st2, msk] using h
  have E3 : st3 1 (t2 (t1 b7)) = t3 (t2 (t1 b7)) := by have h := st3_succ 0 0 (t2 (t1 b7)) c7 d7 f7 (by omega); simpa [st3, msk] using h
  rw [st1_succ 7 _ _ h0, st1_succ 6 _ _ h1, st1_succ 5 _ _ h2, st1_succ 4 _ _ h3, st1_succ 3 _ _ h4, st1_succ 2 _ _ h5, st1_succ 1 _ _ h6, E1]
  rw [st2_succ 7 _ _ a0, st2_succ 6 _ _ a1, st2_succ 5 _ _ a2, st2_succ 4 _ _ a3, st2_succ 3 _ _ a4, st2_succ 2 _ _ a5, st2_succ 1 _ _ a6, E2]
  have S3 : st3 8 (256 * (256 * (256 * (256 * (256 * (256 * (256 * t2 (t1 b7) + t2 (t1 b6)) + t2 (t1 b5)) + t2 (t1 b4)) + t2 (t1 b3)) + t2 (t1 b2)) + t2 (t1 b1)) + t2 (t1 b0)) =
      256 * (256 * (256 * (256 * (256 * (256 * (256 * pc 8 b7 + pc 8 b6) + pc 8 b5) + pc 8 b4) + pc 8 b3) + pc 8 b2) + pc 8 b1) + pc 8 b0 := by
    rw [st3_succ 7 _ _ c0 d0 f0 (by omega), st3_succ 6 _ _ c1 d1 f1 (by omega), st3_succ 5 _ _ c2 d2 f2 (by omega), st3_succ 4 _ _ c3 d3 f3 (by omega), st3_succ 3 _ _ c4 d4 f4 (by omega), st3_succ 2 _ _ c5 d5 f5 (by omega), st3_succ 1 _ _ c6 d6 f6 (by omega), E3, p0, p1, p2, p3, p4, p5, p6, p7]
  refine ⟨?_, by rw [S3]; omega⟩
  have P : pc 64 (256 * (256 * (256 * (256 * (256 * (256 * (256 * b7 + b6) + b5) + b4) + b3) + b2) + b1) + b0) = pc 8 b0 + (pc 8 b1 + (pc 8 b2 + (pc 8 b3 + (pc 8 b4 + (pc 8 b5 + (pc 8 b6 + pc 8 b7)))))) := by
    rw [show (64 : Nat) = 8 + (8 + (8 + (8 + (8 + (8 + (8 + 8)))))) from rfl, pc8 _ _ _ h0, pc8 _ _ _ h1, pc8 _ _ _ h2, pc8 _ _ _ h3, pc8 _ _ _ h4, pc8 _ _ _ h5, pc8 _ _ _ h6]
  rw [P]
  unfold swar
  rw [st1_succ 7 _ _ h0, st1_succ 6 _ _ h1, st1_succ 5 _ _ h2, st1_succ 4 _ _ h3, st1_succ 3 _ _ h4, st1_succ 2 _ _ h5, st1_succ 1 _ _ h6, E1]
  rw [st2_succ 7 _ _ a0, st2_succ 6 _ _ a1, st2_succ 5 _ _ a2, st2_succ 4 _ _ a3, st2_succ 3 _ _ a4, st2_succ 2 _ _ a5, st2_succ 1 _ _ a6, E2]
  rw [S3]
  dsimp only
  clear S3 P E1 E2 E3 p0 p1 p2 p3 p4 p5 p6 p7 a0 a1 a2 a3 a4 a5 a6 a7 c0 c1 c2 c3 c4 c5 c6 c7 d0 d1 d2 d3 d4 d5 d6 d7 f0 f1 f2 f3 f4 f5 f6 f7 h0 h1 h2 h3 h4 h5 h6 h7 hb7
  generalize pc 8 b0 = p0 at *
  generalize pc 8 b1 = p1 at *
  generalize pc 8 b2 = p2 at *
  generalize pc 8 b3 = p3 at *
  generalize pc 8 b4 = p4 at *
  generalize pc 8 b5 = p5 at *
  generalize pc 8 b6 = p6 at *
  generalize pc 8 b7 = p7 at *
  have X1 : (256 * (256 * (256 * (256 * (256 * (256 * (256 * p7 + p6) + p5) + p4) + p3) + p2) + p1) + p0) / 256 = 256 * (256 * (256 * (256 * (256 * (256 * p7 + p6) + p5) + p4) + p3) + p2) + p1 := by omega
  rw [X1]
  have X2 : (256 * (256 * (256 * (256 * (256 * (256 * (256 * p7 + p6) + p5) + p4) + p3) + p2) + p1) + p0 + (256 * (256 * (256 * (256 * (256 * (256 * p7 + p6) + p5) + p4) + p3) + p2) + p1)) / 65536 = 256 * (256 * (256 * (256 * (256 * p7 + p6) + p5) + p4) + p3) + p2 + (256 * (256 * (256 * (256 * p7 + p6) + p5) + p4) + p3) := by omega
  rw [X2]
  have X3 : (256 * (256 * (256 * (256 * (256 * (256 * (256 * p7 + p6) + p5) + p4) + p3) + p2) + p1) + p0 + (256 * (256 * (256 * (256 * (256 * (256 * p7 + p6) + p5) + p4) + p3) + p2) + p1) + (256 * (256 * (256 * (256 * (256 * p7 + p6) + p5) + p4) + p3) + p2 + (256 * (256 * (256 * (256 * p7 + p6) + p5) + p4) + p3))) / 4294967296 = 256 * (256 * (256 * p7 + (p6 + p7)) + (p5 + p6 + p7)) + (p4 + p5 + p6 + p7) := by
    clear X1 X2
    omega
  rw [X3]
  clear X1 X2 X3
  omega

/-- how many of the first i are set -/
def cnt (p : Nat → Bool) : Nat → Nat
  | 0 => 0
  | i + 1 => cnt p i + (p i).toNat

theorem cnt_le (p : Nat → Bool) (i : Nat) : cnt p i ≤ i := by
  induction i with
  | zero => simp [cnt]
  | succ i ih => simp only [cnt]; have := Bool.toNat_le (p i); omega
theorem cnt_add (p : Nat → Bool) (i m : Nat) : cnt p (i + m) = cnt p i + cnt (fun j => p (i + j)) m := by
  induction m with
  | zero => simp [cnt]
  | succ m ih => show cnt p (i + m) + (p (i + m)).toNat = _; rw [ih]; simp only [cnt]; omega
theorem cnt_mono (p : Nat → Bool) {i j : Nat} (h : i ≤ j) : cnt p i ≤ cnt p j := by
  obtain ⟨m, rfl⟩ := Nat.le.dest h; rw [cnt_add]; omega
theorem cnt_congr (p q : Nat → Bool) (i : Nat) (h : ∀ j, j < i → p j = q j) : cnt p i = cnt q i := by
  induction i with
  | zero => rfl
  | succ i ih => simp only [cnt]; rw [ih (fun j hj => h j (by omega)), h i (by omega)]
theorem cnt_past (p : Nat → Bool) (n : Nat) (h : ∀ j, n ≤ j → p j = false) (i : Nat) (hi : n ≤ i) : cnt p i = cnt p n := by
  obtain ⟨m, rfl⟩ := Nat.le.dest hi
  rw [cnt_add]
  have : ∀ m, cnt (fun j => p (n + j)) m = 0 := by
    intro m
    induction m with
    | zero => rfl
    | succ m ih => simp only [cnt, ih, h (n + m) (by omega)]; rfl
  rw [this]; omega
theorem cnt_min (p : Nat → Bool) (n : Nat) (h : ∀ j, n ≤ j → p j = false) (i : Nat) : cnt p (min i n) = cnt p i := by
  by_cases hi : i ≤ n
  · rw [Nat.min_eq_left hi]
  · rw [Nat.min_eq_right (by omega), cnt_past p n h i (by omega)]

/-- the number whose first n bits are p's -/
def wdn (p : Nat → Bool) : Nat → Nat
  | 0 => 0
  | n + 1 => 2 ^ n * (p n).toNat + wdn p n
theorem wdn_lt (p : Nat → Bool) (n : Nat) : wdn p n < 2 ^ n := by
  induction n with
  | zero => simp [wdn]
  | succ n ih =>
    simp only [wdn]; rw [Nat.pow_succ]
    cases p n <;> simp <;> omega
theorem testBit_wdn (p : Nat → Bool) (n j : Nat) : (wdn p n).testBit j = (decide (j < n) && p j) := by
  induction n with
  | zero => simp [wdn]
  | succ n ih =>
    simp only [wdn]
    rw [Nat.testBit_two_pow_mul_add (b_lt := wdn_lt p n), ih]
    by_cases h : j < n
    · simp [h, show j < n + 1 by omega]
    · by_cases h2 : j = n
      · subst h2; simp; cases p j <;> simp
      · have : 0 < j - n := by omega
        simp [h, show ¬ j < n + 1 by omega]
        cases p n <;> simp
        exact Nat.testBit_lt_two_pow (by have := Nat.two_pow_pos (j - n); calc 1 < 2 ^ 1 := by omega
                                                                                _ ≤ 2 ^ (j - n) := Nat.pow_le_pow_right (by omega) (by omega))
theorem pc_wdn (p : Nat → Bool) (n m : Nat) (h : m ≤ n) : pc m (wdn p n) = cnt p m := by
  induction m with
  | zero => rfl
  | succ m ih => simp only [pc, cnt]; rw [ih (by omega), testBit_wdn]; simp [show m < n by omega]
theorem pc_and (k m x : Nat) (h : m ≤ k) : pc k (x &&& (2 ^ m - 1)) = pc m x := by
  obtain ⟨d, rfl⟩ := Nat.le.dest h
  rw [pc_add, Nat.and_two_pow_sub_one_eq_mod, Nat.div_eq_of_lt (Nat.mod_lt _ (Nat.two_pow_pos m))]
  have h0 : ∀ d, pc d 0 = 0 := by intro d; induction d with | zero => rfl | succ d ih => simp [pc, ih]
  rw [h0, pc_congr m (x % 2 ^ m) x]
  · omega
  · intro j hj; rw [Nat.testBit_mod_two_pow]; simp [hj]

/-- how many words so many bits take -/
def nw (n : Nat) : Nat := (n + 63) / 64
/-- the k-th word of bits -/
def wd (p : Nat → Bool) (k : Nat) : Nat := wdn (fun j => p (64 * k + j)) 64
theorem wd_lt (p : Nat → Bool) (k : Nat) : wd p k < 18446744073709551616 := wdn_lt _ 64
theorem wd_congr (p q : Nat → Bool) (k : Nat) (h : ∀ j, j < 64 → p (64 * k + j) = q (64 * k + j)) : wd p k = wd q k := by
  apply Nat.eq_of_testBit_eq
  intro j
  unfold wd
  rw [testBit_wdn, testBit_wdn]
  by_cases hj : j < 64
  · simp [hj, h j hj]
  · simp [hj]
/-- the first n alone -/
def cut (n : Nat) (p : Nat → Bool) : Nat → Bool := fun j => decide (j < n) && p j
theorem wd_cut_succ_true (n : Nat) (p : Nat → Bool) (h : p n = true) (q m : Nat) (hq : n = 64 * q + m) (hm : m < 64) (k : Nat) :
    wd (cut (n + 1) p) k = if k = q then wd (cut n p) q ||| 2 ^ m else wd (cut n p) k := by
  split
  · subst_vars
    apply Nat.eq_of_testBit_eq
    intro j
    unfold wd
    rw [Nat.testBit_or, testBit_wdn, testBit_wdn, Nat.testBit_two_pow]
    by_cases hj : j < 64
    · simp only [hj, decide_true, Bool.true_and, cut]
      by_cases e : m = j
      · subst e; simp [h]
      · simp only [e, decide_false, Bool.or_false]
        congr 1
        apply decide_eq_decide.2; omega
    · simp [hj]; omega
  · apply wd_congr
    intro j hj
    simp only [cut]
    congr 1
    apply decide_eq_decide.2; omega
theorem wd_cut_succ_false (n : Nat) (p : Nat → Bool) (h : p n = false) (k : Nat) : wd (cut (n + 1) p) k = wd (cut n p) k := by
  apply wd_congr
  intro j hj
  simp only [cut]
  by_cases e : 64 * k + j = n
  · rw [e, h]; simp
  · congr 1; apply decide_eq_decide.2; omega
theorem wd_cut_zero (p : Nat → Bool) (k : Nat) : wd (cut 0 p) k = 0 := by
  apply Nat.eq_of_testBit_eq
  intro j
  unfold wd
  rw [testBit_wdn]; simp [cut]
theorem cnt_word (p : Nat → Bool) (k : Nat) : cnt p (64 * (k + 1)) = cnt p (64 * k) + pc 64 (wd p k) := by
  unfold wd
  rw [pc_wdn _ _ _ (Nat.le_refl _), show 64 * (k + 1) = 64 * k + 64 by omega, cnt_add]
theorem cnt_part (p : Nat → Bool) (k m : Nat) (h : m ≤ 64) : cnt p (64 * k + m) = cnt p (64 * k) + pc 64 (wd p k &&& (2 ^ m - 1)) := by
  unfold wd
  rw [pc_and _ _ _ h, pc_wdn _ _ _ h, cnt_add]
theorem bit_word (p : Nat → Bool) (k m : Nat) (h : m < 64) : wd p k / 2 ^ m % 2 = (p (64 * k + m)).toNat := by
  have e : (wd p k).testBit m = p (64 * k + m) := by unfold wd; rw [testBit_wdn]; simp [h]
  rw [← e, Nat.testBit_eq_decide_div_mod_eq]
  have := Nat.mod_two_eq_zero_or_one (wd p k / 2 ^ m)
  rcases this with h | h <;> simp [h]

/-- those of the first n that are not set -/
def neg (n : Nat) (p : Nat → Bool) : Nat → Bool := fun j => decide (j < n) && !p j
theorem neg_past (n : Nat) (p : Nat → Bool) : ∀ j, n ≤ j → neg n p j = false := fun j hj => by simp [neg, show ¬ j < n by omega]
theorem cnt_neg (n : Nat) (p : Nat → Bool) (h : ∀ j, n ≤ j → p j = false) (i : Nat) : cnt p i + cnt (neg n p) i = min i n := by
  induction i with
  | zero => simp [cnt]
  | succ i ih =>
    simp only [cnt]
    by_cases hi : i < n
    · have : (p i).toNat + (neg n p i).toNat = 1 := by simp only [neg, hi, decide_true, Bool.true_and]; cases p i <;> rfl
      omega
    · rw [h i (by omega), neg_past n p i (by omega)]; simp only [Bool.toNat_false]; omega
/-- the place of the k-th that is set, or -1 -/
def sel (q : Nat → Bool) (n : Nat) (k : Int) : Int :=
  match (List.range n).find? (fun j => q j && decide ((cnt q j : Int) = k)) with
  | some j => j
  | none => -1
theorem sel_some (q : Nat → Bool) (n : Nat) (k : Int) (j : Nat) (hj : j < n) (hq : q j = true) (hk : (cnt q j : Int) = k) : sel q n k = j := by
  unfold sel
  have h : (List.range n).find? (fun j => q j && decide ((cnt q j : Int) = k)) = some j := by
    rw [List.find?_range_eq_some]
    refine ⟨by simp [hq, hk], by simpa using hj, fun i hi => ?_⟩
    cases hqi : q i
    · simp
    · have h1 : cnt q (i + 1) ≤ cnt q j := cnt_mono q (by omega)
      simp only [cnt, hqi, Bool.toNat_true] at h1
      simp; omega
  rw [h]
theorem sel_none (q : Nat → Bool) (n : Nat) (k : Int) (h : k < 0 ∨ (cnt q n : Int) ≤ k) : sel q n k = -1 := by
  unfold sel
  have h : (List.range n).find? (fun j => q j && decide ((cnt q j : Int) = k)) = none := by
    rw [List.find?_eq_none]
    intro j hj
    have hj' : j < n := by simpa using hj
    cases hqi : q j
    · simp
    · have h1 : cnt q (j + 1) ≤ cnt q n := cnt_mono q (by omega)
      simp only [cnt, hqi, Bool.toNat_true] at h1
      simp; omega
  rw [h]
theorem sel_rank (q : Nat → Bool) (n : Nat) (k : Int) (j : Nat) (hj : j < n) (h1 : (cnt q j : Int) ≤ k) (h2 : k < (cnt q (j + 1) : Int)) : sel q n k = j := by
  have hq : q j = true := by
    cases hqi : q j
    · simp only [cnt, hqi, Bool.toNat_false] at h2; omega
    · rfl
  simp only [cnt, hq, Bool.toNat_true] at h2
  exact sel_some q n k j hj hq (by omega)
theorem sel_is (q : Nat → Bool) (n : Nat) (k : Int) (h0 : 0 ≤ k) (h1 : k < (cnt q n : Int)) : ∃ j, j < n ∧ q j = true ∧ (cnt q j : Int) = k ∧ sel q n k = j := by
  induction n with
  | zero => simp [cnt] at h1; omega
  | succ n ih =>
    by_cases h : k < (cnt q n : Int)
    · obtain ⟨j, a, b, c, _⟩ := ih h
      exact ⟨j, by omega, b, c, sel_some q _ k j (by omega) b c⟩
    · have hq : q n = true := by
        cases hqi : q n
        · simp only [cnt, hqi, Bool.toNat_false] at h1; omega
        · rfl
      simp only [cnt, hq, Bool.toNat_true] at h1
      exact ⟨n, by omega, hq, by omega, sel_some q _ k n (by omega) hq (by omega)⟩

theorem cnt_zero (p : Nat → Bool) : cnt p 0 = 0 := rfl
theorem cnt_succ (p : Nat → Bool) (i : Nat) : cnt p (i + 1) = cnt p i + (p i).toNat := rfl
theorem pc_zero (x : Nat) : pc 0 x = 0 := rfl
/-- how far the rank has come behind k rounds -/
def rkTo (p : Nat → Bool) (i : Int) (k : Nat) : Nat := cnt p (min k i.toNat)
theorem rkTo_in (p : Nat → Bool) (i : Int) (k : Nat) (h : (k : Int) < i) : rkTo p i (k + 1) = rkTo p i k + (p k).toNat := by
  unfold rkTo; rw [show min (k + 1) i.toNat = k + 1 by omega, show min k i.toNat = k by omega, cnt_succ]
theorem rkTo_out (p : Nat → Bool) (i : Int) (k : Nat) (h : ¬ (k : Int) < i) : rkTo p i (k + 1) = rkTo p i k := by
  unfold rkTo; rw [show min (k + 1) i.toNat = i.toNat by omega, show min k i.toNat = i.toNat by omega]
theorem rkTo_le (p : Nat → Bool) (i : Int) (k : Nat) : rkTo p i k ≤ k := by
  unfold rkTo; exact Nat.le_trans (cnt_le _ _) (by omega)

theorem sel_zero (q : Nat → Bool) (k : Int) : sel q 0 k = -1 := rfl
theorem sel_step (q : Nat → Bool) (n : Nat) (k : Int) : sel q (n + 1) k = if q n = true ∧ (cnt q n : Int) = k then (n : Int) else sel q n k := by
  by_cases h : q n = true ∧ (cnt q n : Int) = k
  · rw [if_pos h]
    exact sel_some q (n + 1) k n (by omega) h.1 h.2
  · rw [if_neg h]
    by_cases h0 : 0 ≤ k ∧ k < (cnt q n : Int)
    · obtain ⟨j, hj, hq, hk, hs⟩ := sel_is q n k h0.1 h0.2
      rw [hs, sel_some q (n + 1) k j (by omega) hq hk]
    · rw [sel_none q n k (by omega)]
      refine sel_none q (n + 1) k ?_
      rcases Int.lt_or_le k 0 with hk | hk
      · exact .inl hk
      · right
        rw [cnt_succ]
        cases hq : q n
        · simp; omega
        · have : (cnt q n : Int) ≠ k := fun e => h ⟨hq, e⟩
          simp; omega
attribute [irreducible] cnt pc wd sel nw

end Go.Proofs.Ytjpoebmjfedecaa.Wv
