/- The float64 words that stand for whole numbers: their sums, differences, order, cut and conversions are those of the whole numbers, as long as these are below 2^53. No condition beside what each theorem states. -/
import Derived.Laws.FloatArith
namespace Go.Proofs.YtmhnodbmcciifaaDoor.Flt
open Ieee

/-- The word 'b' stands for the whole number 'n'. -/
def Is (b : Nat) (n : Int) : Prop := ∃ (s : Bool) (m k : Nat), double.read b = .number s m (-(k : Int)) ∧ signed s m 0 = n * 2 ^ k

theorem signed_shift (s : Bool) (m p : Nat) : signed s m p = signed s m 0 * 2 ^ p := by
  unfold signed
  cases s
  · simp [Nat.shiftLeft_eq]
  · simp [Nat.shiftLeft_eq, Int.neg_mul]

theorem natAbs_signed (s : Bool) (m : Nat) : (signed s m 0).natAbs = m := by
  unfold signed
  cases s <;> simp

theorem signed_mul (s : Bool) (m q : Nat) : signed s (m * q) 0 = signed s m 0 * q := by
  unfold signed
  cases s
  · simp
  · simp [Int.neg_mul]

theorem mul_two_pow_ne {a : Nat} (h : a ≠ 0) (d : Nat) : a * 2 ^ d ≠ 0 := Nat.mul_ne_zero h (by have := Nat.two_pow_pos d; omega)

theorem log2_mul_pow {a : Nat} (h : a ≠ 0) (d : Nat) : (a * 2 ^ d).log2 = a.log2 + d := by
  rw [Nat.log2_eq_iff (mul_two_pow_ne h d)]
  have h1 := Nat.log2_self_le h
  have h2 := Nat.lt_log2_self (n := a)
  refine ⟨?_, ?_⟩
  · rw [Nat.pow_add]; exact Nat.mul_le_mul_right _ h1
  · rw [show a.log2 + d + 1 = (a.log2 + 1) + d from by omega, Nat.pow_add]
    exact Nat.mul_lt_mul_of_pos_right h2 (Nat.two_pow_pos d)

theorem leastPlace_double : double.leastPlace = -1074 := by decide
theorem binade_double : double.binade = 4503599627370496 := by decide
theorem infRung_double : double.infRung = 9218868437227405312 := by decide
theorem signWeight_double : double.signWeight = 9223372036854775808 := by decide

theorem word_mod (s : Bool) (r : Nat) (h : r < 9223372036854775808) : double.word s r % double.signWeight = r := by
  unfold Format.word
  rw [signWeight_double]
  cases s
  · exact Nat.mod_eq_of_lt h
  · rw [if_pos rfl, Nat.add_mod_left]; exact Nat.mod_eq_of_lt h

theorem word_sign (s : Bool) (r : Nat) (h : r < 9223372036854775808) : (double.word s r / double.signWeight % 2 == 1) = s := by
  unfold Format.word
  rw [signWeight_double]
  cases s
  · have : r / 9223372036854775808 = 0 := Nat.div_eq_of_lt h
    simp [this]
  · have : (9223372036854775808 + r) / 9223372036854775808 = 1 := by
      rw [Nat.add_div_left _ (by omega), Nat.div_eq_of_lt h]
    rw [if_pos rfl, this]; rfl

theorem read_word (s : Bool) (r : Nat) (h1 : 4503599627370496 ≤ r) (h2 : r < 9218868437227405312) :
    double.read (double.word s r) = .number s (4503599627370496 + r % 4503599627370496) (-1074 + ((r / 4503599627370496 - 1 : Nat) : Int)) := by
  have h : r < 9223372036854775808 := by omega
  unfold Format.read
  simp only [word_mod s r h, word_sign s r h, binade_double, infRung_double, leastPlace_double]
  rw [if_neg (by omega), if_pos h2]

theorem read_zero (s : Bool) : double.read (double.word s 0) = .number s 0 (-1074) := by
  unfold Format.read
  simp only [word_mod s 0 (by omega), word_sign s 0 (by omega), binade_double, leastPlace_double]
  rw [if_pos (by omega)]

theorem min_neg (k l : Nat) : min (-(k : Int)) (-(l : Int)) = -((max k l : Nat) : Int) := by omega

theorem at_base (s : Bool) (m k M : Nat) (n : Int) (h : k ≤ M) (e : signed s m 0 = n * 2 ^ k) : signed s m (-(k : Int) - -(M : Int)).toNat = n * 2 ^ M := by
  rw [signed_shift, show (-(k : Int) - -(M : Int)).toNat = M - k from by omega, e, Int.mul_assoc, ← Int.pow_add]
  congr 2
  omega

theorem compare_scale (x y : Int) (M : Nat) : compare (x * 2 ^ M) (y * 2 ^ M) = compare x y := by
  have hp : (0 : Int) < 2 ^ M := Int.pow_pos (by decide)
  rcases Int.lt_trichotomy x y with h | h | h
  · rw [Int.compare_eq_lt.2 h, Int.compare_eq_lt]
    exact Int.mul_lt_mul_of_pos_right h hp
  · subst h; simp
  · rw [Int.compare_eq_gt.2 h, Int.compare_eq_gt]
    exact Int.mul_lt_mul_of_pos_right h hp

/-- Two such words stand to each other as their numbers do. -/
theorem order_is {a b : Nat} {x y : Int} (ha : Is a x) (hb : Is b y) : double.order a b = some (compare x y) := by
  obtain ⟨s, m, k, ra, ea⟩ := ha
  obtain ⟨t, n, l, rb, eb⟩ := hb
  unfold Format.order
  rw [ra, rb]
  simp only [Datum.order, min_neg]
  rw [at_base s m k (max k l) x (by omega) ea, at_base t n l (max k l) y (by omega) eb, compare_scale]

theorem cut_exact (way : Toward) (neg : Bool) (a d : Nat) (ha : a ≠ 0) : way.cut neg (a * 2 ^ d) d = a := by
  have hl := log2_mul_pow ha d
  have hg : min d ((a * 2 ^ d).log2 + 2) = d := by omega
  unfold Toward.cut
  simp only [hg, Nat.one_shiftLeft]
  have hp : 0 < 2 ^ d := Nat.two_pow_pos d
  rw [Nat.mul_div_cancel a hp, Nat.mul_mod_left]
  cases way <;> simp

/-- The case of a number that is not 0: 'A' its amount, 'L' the place of its first digit. -/
theorem nearest_word (s : Bool) (A L k : Nat) (ha : A ≠ 0) (hL : A.log2 = L) (h52 : L ≤ 52) :
    double.nearest s (A * 2 ^ k) (-(k : Int)) = double.word s ((L + 1022) * 4503599627370496 + A * 2 ^ (52 - L)) ∧ 4503599627370496 ≤ A * 2 ^ (52 - L) ∧ A * 2 ^ (52 - L) < 9007199254740992 := by
  have hm0 := mul_two_pow_ne ha k
  have hlog := log2_mul_pow ha k
  have hlo : 2 ^ L ≤ A := by rw [← hL]; exact Nat.log2_self_le ha
  have hhi : A < 2 ^ (L + 1) := by rw [← hL]; exact Nat.lt_log2_self
  have hk1 : 4503599627370496 ≤ A * 2 ^ (52 - L) := by
    have : 2 ^ L * 2 ^ (52 - L) ≤ A * 2 ^ (52 - L) := Nat.mul_le_mul_right _ hlo
    rw [← Nat.pow_add, show L + (52 - L) = 52 from by omega] at this
    simpa using this
  have hk2 : A * 2 ^ (52 - L) < 9007199254740992 := by
    have : A * 2 ^ (52 - L) < 2 ^ (L + 1) * 2 ^ (52 - L) := Nat.mul_lt_mul_of_pos_right hhi (Nat.two_pow_pos _)
    rw [← Nat.pow_add, show L + 1 + (52 - L) = 53 from by omega] at this
    simpa using this
  have hkept : Toward.even.cut s ((A * 2 ^ k) <<< (-(k : Int) - ((L : Int) - 52)).toNat) (((L : Int) - 52) - -(k : Int)).toNat = A * 2 ^ (52 - L) := by
    by_cases hk : k ≤ 52 - L
    · have e1 : (-(k : Int) - ((L : Int) - 52)).toNat = 52 - L - k := by omega
      have e2 : (((L : Int) - 52) - -(k : Int)).toNat = 0 := by omega
      rw [e1, e2, Nat.shiftLeft_eq, Nat.mul_assoc, ← Nat.pow_add, show k + (52 - L - k) = 52 - L from by omega]
      have := cut_exact .even s (A * 2 ^ (52 - L)) 0 (mul_two_pow_ne ha _)
      rwa [Nat.pow_zero, Nat.mul_one] at this
    · have e1 : (-(k : Int) - ((L : Int) - 52)).toNat = 0 := by omega
      have e2 : (((L : Int) - 52) - -(k : Int)).toNat = k - (52 - L) := by omega
      rw [e1, e2, Nat.shiftLeft_zero]
      have : A * 2 ^ k = A * 2 ^ (52 - L) * 2 ^ (k - (52 - L)) := by
        rw [Nat.mul_assoc, ← Nat.pow_add, show 52 - L + (k - (52 - L)) = k from by omega]
      rw [this]
      exact cut_exact .even s _ _ (mul_two_pow_ne ha _)
  refine ⟨?_, hk1, hk2⟩
  have hlast : max (-(k : Int) + ((A * 2 ^ k).log2 : Nat) - (double.fractionBits : Nat)) double.leastPlace = (L : Int) - 52 := by
    rw [hlog, leastPlace_double, hL, show double.fractionBits = 52 from rfl]; omega
  have hl2 : ((L : Int) - 52 - double.leastPlace).toNat = L + 1022 := by rw [leastPlace_double]; omega
  have e : double.nearest s (A * 2 ^ k) (-(k : Int)) = double.word s (min ((L + 1022) * double.binade + A * 2 ^ (52 - L)) double.infRung) := by
    unfold Format.nearest
    rw [if_neg hm0]
    dsimp only
    rw [hlast, hkept, hl2]
  rw [e, binade_double, infRung_double]
  have hmin : min ((L + 1022) * 4503599627370496 + A * 2 ^ (52 - L)) 9218868437227405312 = (L + 1022) * 4503599627370496 + A * 2 ^ (52 - L) := by
    generalize A * 2 ^ (52 - L) = K at *
    clear hkept hlast hl2 e hlo hhi hlog
    omega
  rw [hmin]

/-- What is written of a whole number below 2^53 is read as it. -/
theorem nearest_is (s : Bool) (m k : Nat) (n : Int) (e : signed s m 0 = n * 2 ^ k) (hn : n.natAbs < 9007199254740992) : Is (double.nearest s m (-(k : Int))) n := by
  have hm : m = n.natAbs * 2 ^ k := by
    have := natAbs_signed s m
    rw [e, Int.natAbs_mul, Int.natAbs_pow] at this
    exact this.symm
  by_cases h0 : n = 0
  · subst h0
    have : m = 0 := by simpa using hm
    subst this
    unfold Format.nearest
    rw [if_pos rfl]
    exact ⟨s, 0, 1074, read_zero s, by rw [Int.zero_mul]; cases s <;> rfl⟩
  · have ha : n.natAbs ≠ 0 := by omega
    generalize hA : n.natAbs = A at *
    have h52 : A.log2 ≤ 52 := by
      have := (Nat.log2_lt ha (k := 53)).2 (by simpa using hn)
      omega
    obtain ⟨hw, h1, h2⟩ := nearest_word s A A.log2 k ha rfl h52
    have hsg : signed s A 0 = n := by
      have h3 : signed s (A * 2 ^ k) 0 = n * 2 ^ k := by rw [← hm]; exact e
      rw [signed_mul] at h3
      have hp : ((2 ^ k : Nat) : Int) ≠ 0 := by have := Nat.two_pow_pos k; omega
      have h4 : signed s A 0 * ((2 ^ k : Nat) : Int) = n * ((2 ^ k : Nat) : Int) := by rw [h3]; simp
      exact Int.eq_of_mul_eq_mul_right hp h4
    refine ⟨s, A * 2 ^ (52 - A.log2), 52 - A.log2, ?_, ?_⟩
    · rw [hm, hw]
      generalize A * 2 ^ (52 - A.log2) = K at *
      generalize A.log2 = L at *
      have hr : (L + 1022) * 4503599627370496 + K < 9218868437227405312 := by omega
      have hr' : 4503599627370496 ≤ (L + 1022) * 4503599627370496 + K := by omega
      rw [read_word s _ hr' hr]
      have e1 : 4503599627370496 + ((L + 1022) * 4503599627370496 + K) % 4503599627370496 = K := by omega
      have e2 : ((L + 1022) * 4503599627370496 + K) / 4503599627370496 - 1 = L + 1022 := by omega
      have e3 : (-1074 : Int) + ((L + 1022 : Nat) : Int) = -((52 - L : Nat) : Int) := by omega
      rw [e1, e2, e3]
    · rw [signed_mul, hsg]
      simp

theorem Is.range {b : Nat} {n : Int} (h : Is b n) : ∃ d, double.read b = d ∧ d.isNaN = false := by
  obtain ⟨s, m, k, e, _⟩ := h
  exact ⟨_, e, rfl⟩

/-- The word written of a whole number. -/
theorem write_int (n : Int) (h : n.natAbs < 9007199254740992) : Is (FloatKind.f64.nearest n) n := by
  have e : signed (decide (n < 0)) n.natAbs 0 = n * 2 ^ 0 := by
    unfold signed
    simp only [Nat.shiftLeft_zero, decide_eq_true_eq]
    split <;> omega
  exact nearest_is (decide (n < 0)) n.natAbs 0 n e h

/-- The exact sum, written. -/
theorem add_is {a b : Nat} {x y : Int} (ha : Is a x) (hb : Is b y) (h : (x + y).natAbs < 9007199254740992) : ∃ r, double.add a b = some r ∧ Is r (x + y) := by
  obtain ⟨s, m, k, ra, ea⟩ := ha
  obtain ⟨t, n, l, rb, eb⟩ := hb
  unfold Format.add
  rw [ra, rb]
  simp only [Datum.sum, min_neg, Option.map_some]
  rw [at_base s m k (max k l) x (by omega) ea, at_base t n l (max k l) y (by omega) eb]
  refine ⟨_, rfl, ?_⟩
  refine nearest_is _ _ (max k l) (x + y) ?_ h
  have hp : (0 : Int) < 2 ^ max k l := Int.pow_pos (by decide)
  rw [← Int.add_mul]
  generalize x + y = z
  by_cases h0 : z = 0
  · subst h0
    simp [signed]
  · have hz : z * 2 ^ max k l ≠ 0 := Int.mul_ne_zero h0 (by omega)
    rw [if_neg hz]
    unfold signed
    simp only [Nat.shiftLeft_zero, decide_eq_true_eq]
    split <;> omega

theorem neg_is {b : Nat} {y : Int} (hb : Is b y) : ∃ (t : Bool) (n l : Nat), (double.read b).opposite = .number t n (-(l : Int)) ∧ signed t n 0 = (-y) * 2 ^ l := by
  obtain ⟨t, n, l, rb, eb⟩ := hb
  refine ⟨!t, n, l, by rw [rb]; rfl, ?_⟩
  have : signed (!t) n 0 = -signed t n 0 := by
    unfold signed
    cases t <;> simp
  rw [this, eb, Int.neg_mul]

theorem sub_is {a b : Nat} {x y : Int} (ha : Is a x) (hb : Is b y) (h : (x - y).natAbs < 9007199254740992) : ∃ r, double.sub a b = some r ∧ Is r (x - y) := by
  obtain ⟨s, m, k, ra, ea⟩ := ha
  obtain ⟨t, n, l, rb, eb⟩ := neg_is hb
  unfold Format.sub
  rw [ra, rb]
  simp only [Datum.sum, min_neg, Option.map_some]
  rw [at_base s m k (max k l) x (by omega) ea, at_base t n l (max k l) (-y) (by omega) eb]
  refine ⟨_, rfl, ?_⟩
  refine nearest_is _ _ (max k l) (x - y) ?_ h
  have hp : (0 : Int) < 2 ^ max k l := Int.pow_pos (by decide)
  rw [← Int.add_mul, ← Int.sub_eq_add_neg]
  generalize x - y = z
  by_cases h0 : z = 0
  · subst h0
    simp [signed]
  · have hz : z * 2 ^ max k l ≠ 0 := Int.mul_ne_zero h0 (by omega)
    rw [if_neg hz]
    unfold signed
    simp only [Nat.shiftLeft_zero, decide_eq_true_eq]
    split <;> omega

/-- The cut towards 0 of 'm / 2^k' is the quotient. -/
theorem cut_zero (s : Bool) (m k : Nat) : Toward.zero.cut s m k = m / 2 ^ k := by
  unfold Toward.cut
  simp only [Nat.one_shiftLeft, Bool.toNat_false, Nat.add_zero]
  by_cases h : k ≤ m.log2 + 2
  · rw [Nat.min_eq_left h]
  · rw [Nat.min_eq_right (by omega)]
    have h1 : m < 2 ^ (m.log2 + 1) := Nat.lt_log2_self
    have h2 : 2 ^ (m.log2 + 1) ≤ 2 ^ (m.log2 + 2) := Nat.pow_le_pow_right (by decide) (by omega)
    have h3 : 2 ^ (m.log2 + 1) ≤ 2 ^ k := Nat.pow_le_pow_right (by decide) (by omega)
    rw [Nat.div_eq_of_lt (by omega), Nat.div_eq_of_lt (by omega)]

theorem integral_neg (s : Bool) (m k : Nat) : (Datum.number s m (-(k : Int))).integral .zero = .number s (m / 2 ^ k) 0 := by
  unfold Datum.integral
  simp only [Int.neg_neg, Int.toNat_natCast]
  rw [show (-(k : Int)).toNat = 0 from by omega, Nat.shiftLeft_zero, cut_zero]

theorem mag_of {s : Bool} {m k : Nat} {n : Int} (e : signed s m 0 = n * 2 ^ k) : m = n.natAbs * 2 ^ k := by
  have := natAbs_signed s m
  rw [e, Int.natAbs_mul, Int.natAbs_pow] at this
  exact this.symm

theorem sign_of {s : Bool} {m k : Nat} {n : Int} (e : signed s m 0 = n * 2 ^ k) : signed s n.natAbs 0 = n := by
  rw [mag_of e, signed_mul] at e
  have hp : ((2 ^ k : Nat) : Int) ≠ 0 := by have := Nat.two_pow_pos k; omega
  exact Int.eq_of_mul_eq_mul_right hp (by rw [e]; simp)

/-- 'int(x)'. -/
theorem toInt_is {b : Nat} {n : Int} (h : Is b n) : (double.read b).toInt .zero = some n := by
  obtain ⟨s, m, k, r, e⟩ := h
  unfold Datum.toInt
  rw [r, integral_neg, mag_of e, Nat.mul_div_cancel _ (Nat.two_pow_pos k)]
  simp only [sign_of e]

/-- What 'math.Trunc' gives of a word that is no NaN. -/
def trunc (b : Nat) : Nat := double.write ((double.read b).integral .zero)

theorem trunc_is {b : Nat} {n : Int} (h : Is b n) (hn : n.natAbs < 9007199254740992) : Is (trunc b) n := by
  obtain ⟨s, m, k, r, e⟩ := h
  unfold trunc
  rw [r, integral_neg, mag_of e, Nat.mul_div_cancel _ (Nat.two_pow_pos k)]
  exact nearest_is s n.natAbs 0 n (by rw [sign_of e]; simp) hn

/-- -2^20 and 2^20. -/
def lo : Nat := 13920626448202203136
def hi : Nat := 4697254411347427328

theorem lo_is : Is lo (-1048576) := ⟨true, 4503599627370496, 32, by decide +kernel, by decide +kernel⟩
theorem hi_is : Is hi 1048576 := ⟨false, 4503599627370496, 32, by decide +kernel, by decide +kernel⟩
theorem zero_is : Is 0 0 := ⟨false, 0, 1074, by decide +kernel, by rw [Int.zero_mul]; rfl⟩
theorem one_is : Is 4607182418800017408 1 := ⟨false, 4503599627370496, 52, by decide +kernel, by decide +kernel⟩
theorem four_is : Is 4616189618054758400 4 := ⟨false, 4503599627370496, 50, by decide +kernel, by decide +kernel⟩

theorem read_place {b : Nat} {s : Bool} {m : Nat} {e : Int} (h : double.read b = .number s m e) : (∃ k : Nat, e = -(k : Int)) ∨ (4503599627370496 ≤ m ∧ 0 < e) := by
  unfold Format.read at h
  simp only [binade_double, infRung_double, leastPlace_double] at h
  split at h
  · injection h with _ _ h3
    exact .inl ⟨1074, by omega⟩
  · split at h
    · injection h with _ h2 h3
      generalize b % double.signWeight = r at *
      by_cases h0 : e ≤ 0
      · exact .inl ⟨(-e).toNat, by omega⟩
      · exact .inr ⟨by omega, by omega⟩
    · split at h <;> cases h

/-- Whether a part is whole, and not too great. -/
def wholeB (b : Nat) : Bool := double.order b (trunc b) == some .eq && double.order b lo == some .gt && double.order b hi == some .lt

theorem order_lo {b : Nat} {s : Bool} {m : Nat} {e : Int} (h : double.read b = .number s m e) (he : 0 ≤ e) : double.order b lo = some (compare (signed s m (e + 32).toNat) (-4503599627370496)) := by
  unfold Format.order
  rw [h, show double.read lo = .number true 4503599627370496 (-32) from by decide +kernel]
  simp only [Datum.order]
  rw [show min e (-32) = -32 from by omega, show (-32 - -32 : Int).toNat = 0 from rfl, show e - -32 = e + 32 from by omega]
  rfl

theorem order_hi {b : Nat} {s : Bool} {m : Nat} {e : Int} (h : double.read b = .number s m e) (he : 0 ≤ e) : double.order b hi = some (compare (signed s m (e + 32).toNat) 4503599627370496) := by
  unfold Format.order
  rw [h, show double.read hi = .number false 4503599627370496 (-32) from by decide +kernel]
  simp only [Datum.order]
  rw [show min e (-32) = -32 from by omega, show (-32 - -32 : Int).toNat = 0 from rfl, show e - -32 = e + 32 from by omega]
  rfl

theorem whole_is {b : Nat} (h : wholeB b = true) : ∃ n : Int, Is b n ∧ -1048576 < n ∧ n < 1048576 := by
  unfold wholeB at h
  simp only [Bool.and_eq_true, beq_iff_eq] at h
  obtain ⟨⟨h1, h2⟩, h3⟩ := h
  cases hr : double.read b with
  | nan s f => unfold Format.order at h1; rw [hr] at h1; simp [Datum.order] at h1
  | infinity s =>
    cases s
    · unfold Format.order at h3
      rw [hr, show double.read hi = .number false 4503599627370496 (-32) from by decide +kernel] at h3
      simp [Datum.order] at h3
    · unfold Format.order at h2
      rw [hr, show double.read lo = .number true 4503599627370496 (-32) from by decide +kernel] at h2
      simp [Datum.order] at h2
  | number s m e =>
    have hk : ∃ k : Nat, e = -(k : Int) := by
      rcases read_place hr with h0 | ⟨hm, he⟩
      · exact h0
      · exfalso
        rw [order_lo hr (by omega)] at h2
        rw [order_hi hr (by omega)] at h3
        simp only [Option.some.injEq, Int.compare_eq_gt, Int.compare_eq_lt] at h2 h3
        rw [signed_shift] at h2 h3
        have hp : (1 : Int) ≤ 2 ^ (e + 32).toNat := by have : (0 : Int) < 2 ^ (e + 32).toNat := Int.pow_pos (by decide); omega
        have hms : signed s m 0 = m ∨ signed s m 0 = -m := by unfold signed; cases s <;> simp
        have hge : (4503599627370496 : Int) ≤ (m : Int) * 2 ^ (e + 32).toNat := by
          have : (m : Int) * 1 ≤ (m : Int) * 2 ^ (e + 32).toNat := Int.mul_le_mul_of_nonneg_left hp (by omega)
          omega
        rcases hms with hs | hs <;> rw [hs] at h2 h3
        · omega
        · rw [Int.neg_mul] at h2; omega
    obtain ⟨k, rfl⟩ := hk
    have ht : Is (trunc b) (signed s (m / 2 ^ k) 0) := by
      unfold trunc
      rw [hr, integral_neg]
      refine nearest_is s (m / 2 ^ k) 0 _ (by simp) ?_
      rw [natAbs_signed]
      have hm : m < 9007199254740992 := by
        unfold Format.read at hr
        simp only [binade_double, infRung_double, leastPlace_double] at hr
        split at hr
        · injection hr with _ h5 _; omega
        · split at hr
          · injection hr with _ h5 _; omega
          · split at hr <;> cases hr
      exact Nat.lt_of_le_of_lt (Nat.div_le_self _ _) hm
    have hb : Is b (signed s (m / 2 ^ k) 0) := by
      refine ⟨s, m, k, hr, ?_⟩
      obtain ⟨t, n, l, rt, et⟩ := ht
      unfold Format.order at h1
      rw [hr, rt] at h1
      simp only [Datum.order, min_neg, Option.some.injEq, Int.compare_eq_eq] at h1
      rw [at_base t n l (max k l) _ (by omega) et, signed_shift] at h1
      have e1 : (-(k : Int) - -((max k l : Nat) : Int)).toNat = max k l - k := by omega
      rw [e1] at h1
      have e2 : (2 : Int) ^ max k l = 2 ^ k * 2 ^ (max k l - k) := by rw [← Int.pow_add]; congr 1; omega
      rw [e2, ← Int.mul_assoc] at h1
      have hp : (2 : Int) ^ (max k l - k) ≠ 0 := by have : (0 : Int) < 2 ^ (max k l - k) := Int.pow_pos (by decide); omega
      exact Int.eq_of_mul_eq_mul_right hp h1
    refine ⟨_, hb, ?_, ?_⟩
    · rw [order_is hb lo_is] at h2
      simpa only [Option.some.injEq, Int.compare_eq_gt] using h2
    · rw [order_is hb hi_is] at h3
      simpa only [Option.some.injEq, Int.compare_eq_lt] using h3

theorem is_whole {b : Nat} {n : Int} (h : Is b n) (h1 : -1048576 < n) (h2 : n < 1048576) : wholeB b = true := by
  unfold wholeB
  rw [order_is h (trunc_is h (by omega)), order_is h lo_is, order_is h hi_is, Int.compare_eq_gt.2 h1, Int.compare_eq_lt.2 h2]
  simp

/-- No NaN. -/
def Num (b : Nat) : Prop := (double.read b).isNaN = false

theorem Is.num {b : Nat} {n : Int} (h : Is b n) : Num b := by
  obtain ⟨s, m, k, e, _⟩ := h
  unfold Num
  rw [e]; rfl

theorem word_num (s : Bool) (r : Nat) (h : r ≤ 9218868437227405312) : Num (double.word s r) := by
  unfold Num Format.read
  simp only [word_mod s r (by omega), word_sign s r (by omega), binade_double, infRung_double, leastPlace_double]
  split
  · rfl
  · split
    · rfl
    · rw [if_pos (by omega)]; rfl

theorem nearest_num (s : Bool) (m : Nat) (e : Int) : Num (double.nearest s m e) := by
  unfold Format.nearest
  split
  · exact word_num s 0 (by omega)
  · exact word_num s _ (by rw [infRung_double]; exact Nat.min_le_right _ _)

theorem int_num (n : Int) : Num (FloatKind.f64.nearest n) := nearest_num _ _ _

/-- A word plus one that is a number: no NaN comes of it. -/
theorem add_num {a b : Nat} {y : Int} (ha : Num a) (hb : Is b y) : ∃ r, double.add a b = some r ∧ Num r := by
  obtain ⟨t, n, l, rb, _⟩ := hb
  unfold Num at ha
  unfold Format.add
  rw [rb]
  cases hr : double.read a with
  | nan s f => rw [hr] at ha; cases ha
  | infinity s => exact ⟨_, rfl, word_num s _ (by rw [infRung_double]; omega)⟩
  | number s m e => exact ⟨_, rfl, nearest_num _ _ _⟩

theorem add_half_num {a : Nat} (ha : Num a) : ∃ r, double.add a 4602678819172646912 = some r ∧ Num r := by
  unfold Num at ha
  unfold Format.add
  rw [show double.read 4602678819172646912 = .number false 4503599627370496 (-53) from by decide +kernel]
  cases hr : double.read a with
  | nan s f => rw [hr] at ha; cases ha
  | infinity s => exact ⟨_, rfl, word_num s _ (by rw [infRung_double]; omega)⟩
  | number s m e => exact ⟨_, rfl, nearest_num _ _ _⟩

end Go.Proofs.YtmhnodbmcciifaaDoor.Flt
