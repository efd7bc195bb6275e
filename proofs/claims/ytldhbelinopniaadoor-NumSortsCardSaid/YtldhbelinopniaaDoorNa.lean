/- Plain numbers: the words of float64, their kinds, their order, and what the model's comparisons say of them. No program in sight. -/
import GoSem.Core.Float
namespace Tocsin
open Ieee

/-- Is the word a NaN's? -/
def isNan (x : Nat) : Bool := decide (9218868437227405312 < x % 9223372036854775808)
/-- The word, or the one NaN's. -/
def one (x : Nat) : Nat := if isNan x then 9221120237041090561 else x
/-- The kind of a magnitude. -/
def kindMag (m : Nat) : Int := if m = 9218868437227405312 then 8 else if 4503599627370496 ≤ m then 7 else if 0 < m then 6 else 5
def kind (x : Nat) : Int :=
  if isNan x then 9 else if 9223372036854775808 ≤ x then 9 - kindMag (x % 9223372036854775808) else kindMag (x % 9223372036854775808)
/-- The place in the order. -/
def rank (x : Nat) : Nat :=
  if isNan x then 18446744073709551615 else if 9223372036854775808 ≤ x then 9223372036854775808 - (x - 9223372036854775808) - 1 else 9223372036854775808 + x
def cmp (a b : Nat) : Int := if rank a < rank b then -1 else if rank b < rank a then 1 else 0

theorem fmt_signWeight : double.signWeight = 9223372036854775808 := by decide +kernel
theorem fmt_binade : double.binade = 4503599627370496 := by decide +kernel
theorem fmt_infRung : double.infRung = 9218868437227405312 := by decide +kernel
theorem fmt_least : double.leastPlace = -1074 := by decide +kernel

/-- The magnitude of a finite rung, in units of the least place. -/
def mag (r : Nat) : Nat := if r < 4503599627370496 then r else (4503599627370496 + r % 4503599627370496) * 2 ^ (r / 4503599627370496 - 1)

theorem mag_lt {r s : Nat} (h : r < s) : mag r < mag s := by
  unfold mag
  by_cases hr : r < 4503599627370496
  · rw [if_pos hr]
    by_cases hs : s < 4503599627370496
    · rw [if_pos hs]; exact h
    · rw [if_neg hs]
      have : 1 ≤ 2 ^ (s / 4503599627370496 - 1) := Nat.one_le_two_pow
      have h2 : (4503599627370496 + s % 4503599627370496) * 1 ≤ (4503599627370496 + s % 4503599627370496) * 2 ^ (s / 4503599627370496 - 1) := Nat.mul_le_mul_left _ this
      omega
  · have hs : ¬ s < 4503599627370496 := by omega
    rw [if_neg hr, if_neg hs]
    have hq : r / 4503599627370496 ≤ s / 4503599627370496 := Nat.div_le_div_right (by omega)
    by_cases he : r / 4503599627370496 = s / 4503599627370496
    · rw [he]
      exact Nat.mul_lt_mul_of_pos_right (by omega) (Nat.two_pow_pos _)
    · have h1 : 2 ^ (r / 4503599627370496 - 1 + 1) ≤ 2 ^ (s / 4503599627370496 - 1) := Nat.pow_le_pow_right (by decide) (by omega)
      rw [Nat.pow_succ] at h1
      have h2 : (4503599627370496 + r % 4503599627370496) * 2 ^ (r / 4503599627370496 - 1) < 9007199254740992 * 2 ^ (r / 4503599627370496 - 1) := Nat.mul_lt_mul_of_pos_right (by omega) (Nat.two_pow_pos _)
      have h3 : 4503599627370496 * 2 ^ (s / 4503599627370496 - 1) ≤ (4503599627370496 + s % 4503599627370496) * 2 ^ (s / 4503599627370496 - 1) := Nat.mul_le_mul_right _ (by omega)
      omega

theorem mag_zero : mag 0 = 0 := by decide
theorem mag_inj {r s : Nat} (h : mag r = mag s) : r = s := by
  rcases Nat.lt_trichotomy r s with h1 | h1 | h1
  · have := mag_lt h1; omega
  · exact h1
  · have := mag_lt h1; omega

/-- What a finite word reads as: its sign, and digits and place whose product is the rung's magnitude. -/
theorem read_finite (x : Nat) (hf : x % 9223372036854775808 < 9218868437227405312) :
    ∃ m, ∃ k : Nat, double.read x = .number (x / 9223372036854775808 % 2 == 1) m (-1074 + k) ∧ m * 2 ^ k = mag (x % 9223372036854775808) := by
  unfold Format.read
  simp only [fmt_signWeight, fmt_binade, fmt_infRung, fmt_least]
  by_cases h1 : x % 9223372036854775808 < 4503599627370496
  · rw [if_pos h1]
    exact ⟨x % 9223372036854775808, 0, by simp, by unfold mag; rw [if_pos h1]; simp⟩
  · rw [if_neg h1, if_pos hf]
    exact ⟨4503599627370496 + x % 9223372036854775808 % 4503599627370496, x % 9223372036854775808 / 4503599627370496 - 1, rfl, by unfold mag; rw [if_neg h1]⟩

theorem read_inf (x : Nat) (hf : x % 9223372036854775808 = 9218868437227405312) : double.read x = .infinity (x / 9223372036854775808 % 2 == 1) := by
  unfold Format.read
  simp only [fmt_signWeight, fmt_binade, fmt_infRung, fmt_least]
  rw [if_neg (by omega), if_neg (by omega), if_pos hf]

theorem read_nan (x : Nat) (hf : 9218868437227405312 < x % 9223372036854775808) : ∃ t, double.read x = .nan (x / 9223372036854775808 % 2 == 1) t := by
  unfold Format.read
  simp only [fmt_signWeight, fmt_binade, fmt_infRung, fmt_least]
  rw [if_neg (by omega), if_neg (by omega), if_neg (by omega)]
  exact ⟨_, rfl⟩

/-- A word's value as a whole number of least units; the infinities lie beyond. -/
def sval (x : Nat) : Int := if x / 9223372036854775808 % 2 = 1 then -(mag (x % 9223372036854775808) : Int) else (mag (x % 9223372036854775808) : Int)

theorem signed_eq (s : Bool) (m k : Nat) : signed s m k = if s then -((m * 2 ^ k : Nat) : Int) else ((m * 2 ^ k : Nat) : Int) := by
  unfold signed; simp [Nat.shiftLeft_eq]

theorem cmp_scale (a b : Int) (n : Nat) (hn : 0 < n) : compare (a * n) (b * n) = compare a b := by
  have hn' : (0 : Int) < n := by omega
  rcases Int.lt_trichotomy a b with h | h | h
  · have h2 : a * n < b * n := Int.mul_lt_mul_of_pos_right h hn'
    rw [compare_eq_iff_lt' h, compare_eq_iff_lt' h2]
  · rw [h]; simp
  · have h2 : b * n < a * n := Int.mul_lt_mul_of_pos_right h hn'
    rw [compare_eq_iff_gt' h, compare_eq_iff_gt' h2]
where
  compare_eq_iff_lt' {a b : Int} (h : a < b) : compare a b = .lt := by rw [Int.compare_eq_lt]; exact h
  compare_eq_iff_gt' {a b : Int} (h : b < a) : compare a b = .gt := by rw [Int.compare_eq_gt]; exact h

theorem order_finite (x y : Nat) (hx : x % 9223372036854775808 < 9218868437227405312) (hy : y % 9223372036854775808 < 9218868437227405312) :
    double.order x y = some (compare (sval x) (sval y)) := by
  obtain ⟨m, k, hm, hmk⟩ := read_finite x hx
  obtain ⟨n, j, hn, hnj⟩ := read_finite y hy
  unfold Format.order
  rw [hm, hn]
  simp only [Datum.order, signed_eq]
  congr 1
  have key : ∀ s : Bool, ∀ a b : Nat, ∀ c : Nat, (if s then -((a * 2 ^ (b + c) : Nat) : Int) else ((a * 2 ^ (b + c) : Nat) : Int)) = (if s then -((a * 2 ^ b : Nat) : Int) else ((a * 2 ^ b : Nat) : Int)) * (2 ^ c : Nat) := by
    intro s a b c
    cases s <;> simp [Nat.pow_add, Int.mul_assoc, Int.neg_mul]
  have e1 : sval x = (if (x / 9223372036854775808 % 2 == 1) = true then -((m * 2 ^ k : Nat) : Int) else ((m * 2 ^ k : Nat) : Int)) := by
    unfold sval; rw [hmk]; simp
  have e2 : sval y = (if (y / 9223372036854775808 % 2 == 1) = true then -((n * 2 ^ j : Nat) : Int) else ((n * 2 ^ j : Nat) : Int)) := by
    unfold sval; rw [hnj]; simp
  rw [e1, e2]
  rcases Nat.le_total k j with h | h
  · obtain ⟨c, rfl⟩ := Nat.exists_eq_add_of_le h
    have b1 : (-1074 + (k : Int) - min (-1074 + (k : Int)) (-1074 + ((k + c : Nat) : Int))).toNat = 0 := by omega
    have b2 : (-1074 + ((k + c : Nat) : Int) - min (-1074 + (k : Int)) (-1074 + ((k + c : Nat) : Int))).toNat = c := by omega
    rw [b1, b2]
    rw [← cmp_scale _ _ (2 ^ k) (Nat.two_pow_pos _), ← key, ← key]
    rw [show 0 + k = k by omega, Nat.add_comm c k]
  · obtain ⟨c, rfl⟩ := Nat.exists_eq_add_of_le h
    have b1 : (-1074 + ((j + c : Nat) : Int) - min (-1074 + ((j + c : Nat) : Int)) (-1074 + (j : Int))).toNat = c := by omega
    have b2 : (-1074 + (j : Int) - min (-1074 + ((j + c : Nat) : Int)) (-1074 + (j : Int))).toNat = 0 := by omega
    rw [b1, b2]
    rw [← cmp_scale _ _ (2 ^ j) (Nat.two_pow_pos _), ← key, ← key]
    rw [show 0 + j = j by omega, Nat.add_comm c j]

theorem mag_lt_iff (r s : Nat) : mag r < mag s ↔ r < s := by
  refine ⟨fun h => ?_, mag_lt⟩
  rcases Nat.lt_trichotomy r s with h1 | h1 | h1
  · exact h1
  · rw [h1] at h; omega
  · have := mag_lt h1; omega

theorem compare_lt {a b : Int} (h : a < b) : compare a b = .lt := by rw [Int.compare_eq_lt]; exact h
theorem compare_gt {a b : Int} (h : b < a) : compare a b = .gt := by rw [Int.compare_eq_gt]; exact h

/-- Of two words that are numbers, the infinities among them, the model's order is the values'. -/
theorem order_num (x y : Nat) (hx : isNan x = false) (hy : isNan y = false) : double.order x y = some (compare (sval x) (sval y)) := by
  have hx' : x % 9223372036854775808 ≤ 9218868437227405312 := by simpa [isNan] using hx
  have hy' : y % 9223372036854775808 ≤ 9218868437227405312 := by simpa [isNan] using hy
  by_cases fx : x % 9223372036854775808 < 9218868437227405312
  · by_cases fy : y % 9223372036854775808 < 9218868437227405312
    · exact order_finite x y fx fy
    · have ey : y % 9223372036854775808 = 9218868437227405312 := by omega
      obtain ⟨m, k, hm, _⟩ := read_finite x fx
      have hl := mag_lt fx
      unfold Format.order
      rw [hm, read_inf y ey]
      simp only [Datum.order, sval, ey]
      rcases Nat.mod_two_eq_zero_or_one (y / 9223372036854775808) with h | h <;> rcases Nat.mod_two_eq_zero_or_one (x / 9223372036854775808) with h2 | h2 <;> simp only [h, h2] <;> simp
      · symm; exact compare_lt (by omega)
      · symm; exact compare_lt (by omega)
      · symm; exact compare_gt (by omega)
      · symm; exact compare_gt (by omega)
  · have ex : x % 9223372036854775808 = 9218868437227405312 := by omega
    by_cases fy : y % 9223372036854775808 < 9218868437227405312
    · obtain ⟨m, k, hm, _⟩ := read_finite y fy
      have hl := mag_lt fy
      unfold Format.order
      rw [hm, read_inf x ex]
      simp only [Datum.order, sval, ex]
      rcases Nat.mod_two_eq_zero_or_one (y / 9223372036854775808) with h | h <;> rcases Nat.mod_two_eq_zero_or_one (x / 9223372036854775808) with h2 | h2 <;> simp only [h, h2] <;> simp
      · symm; exact compare_gt (by omega)
      · symm; exact compare_lt (by omega)
      · symm; exact compare_gt (by omega)
      · symm; exact compare_lt (by omega)
    · have ey : y % 9223372036854775808 = 9218868437227405312 := by omega
      have hl : 0 < mag 9218868437227405312 := by have := @mag_lt 0 9218868437227405312 (by decide); omega
      unfold Format.order
      rw [read_inf x ex, read_inf y ey]
      simp only [Datum.order, sval, ex, ey]
      rcases Nat.mod_two_eq_zero_or_one (y / 9223372036854775808) with h | h <;> rcases Nat.mod_two_eq_zero_or_one (x / 9223372036854775808) with h2 | h2 <;> simp only [h, h2] <;> simp
      · symm; exact compare_lt (by omega)
      · symm; exact compare_gt (by omega)

theorem order_nan_left (x y : Nat) (hx : isNan x = true) : double.order x y = none := by
  obtain ⟨t, ht⟩ := read_nan x (by simpa [isNan] using hx)
  unfold Format.order; rw [ht]; rfl
theorem order_nan_right (x y : Nat) (hy : isNan y = true) : double.order x y = none := by
  obtain ⟨t, ht⟩ := read_nan y (by simpa [isNan] using hy)
  unfold Format.order; rw [ht]; cases double.read x <;> rfl

theorem order_self (x : Nat) : (double.order x x != some .eq) = isNan x := by
  cases h : isNan x
  · rw [order_num x x h h]; simp
  · rw [order_nan_left x x h]; rfl

theorem lt_iff (x y : Nat) (hx : isNan x = false) (hy : isNan y = false) : (double.order x y == some .lt) = decide (sval x < sval y) := by
  rw [order_num x y hx hy, Bool.eq_iff_iff]
  simp [Int.compare_eq_lt]
theorem gt_iff (x y : Nat) (hx : isNan x = false) (hy : isNan y = false) : (double.order x y == some .gt) = decide (sval y < sval x) := by
  rw [order_num x y hx hy, Bool.eq_iff_iff]
  simp [Int.compare_eq_gt]

theorem kindMag_bounds (m : Nat) : 5 ≤ kindMag m ∧ kindMag m ≤ 8 := by unfold kindMag; split <;> (try split) <;> (try split) <;> omega

/-- Within one kind the values and the places go together; between two, the kinds decide. -/
theorem place (a b : Nat) (ha : a < 18446744073709551616) (hb : b < 18446744073709551616) :
    (decide (kind a < kind b) || (kind a == kind b && double.order a b == some .lt)) = decide (rank a < rank b) := by
  cases na : isNan a <;> cases nb : isNan b
  · rw [lt_iff a b na nb, Bool.eq_iff_iff]
    have la := (mag_lt_iff (a % 9223372036854775808) (b % 9223372036854775808))
    have lb := (mag_lt_iff (b % 9223372036854775808) (a % 9223372036854775808))
    simp only [isNan, decide_eq_false_iff_not] at na nb
    simp only [Bool.or_eq_true, Bool.and_eq_true, decide_eq_true_eq, beq_iff_eq]
    simp only [kind, rank, isNan, sval, kindMag, na, nb, decide_false, Bool.false_eq_true, if_false]
    generalize hA : mag (a % 9223372036854775808) = A at *
    generalize hB : mag (b % 9223372036854775808) = B at *
    have pA : 0 < A ↔ 0 < a % 9223372036854775808 := by rw [← hA]; have := mag_lt_iff 0 (a % 9223372036854775808); rwa [mag_zero] at this
    have pB : 0 < B ↔ 0 < b % 9223372036854775808 := by rw [← hB]; have := mag_lt_iff 0 (b % 9223372036854775808); rwa [mag_zero] at this
    clear hA hB
    by_cases sa : 9223372036854775808 ≤ a
    · have qa : a / 9223372036854775808 % 2 = 1 := by omega
      by_cases sb : 9223372036854775808 ≤ b
      · have qb : b / 9223372036854775808 % 2 = 1 := by omega
        rw [if_pos sa, if_pos sb, if_pos qa, if_pos qb, if_pos sa, if_pos sb]; omega
      · have qb : ¬ b / 9223372036854775808 % 2 = 1 := by omega
        rw [if_pos sa, if_neg sb, if_pos qa, if_neg qb, if_pos sa, if_neg sb]; omega
    · have qa : ¬ a / 9223372036854775808 % 2 = 1 := by omega
      by_cases sb : 9223372036854775808 ≤ b
      · have qb : b / 9223372036854775808 % 2 = 1 := by omega
        rw [if_neg sa, if_pos sb, if_neg qa, if_pos qb, if_neg sa, if_pos sb]; omega
      · have qb : ¬ b / 9223372036854775808 % 2 = 1 := by omega
        rw [if_neg sa, if_neg sb, if_neg qa, if_neg qb, if_neg sa, if_neg sb]; omega
  · have kb : kind b = 9 := by simp [kind, nb]
    have ka : kind a ≤ 8 := by have := kindMag_bounds (a % 9223372036854775808); simp only [kind, na]; simp; split <;> omega
    have ra : rank a < 18446744073709551615 := by simp only [isNan, decide_eq_false_iff_not] at na; simp only [rank, isNan, na, decide_false]; simp; split <;> omega
    rw [show rank b = 18446744073709551615 by simp [rank, nb], kb]
    simp [ra]; left; omega
  · have ka : kind a = 9 := by simp [kind, na]
    have kb : kind b ≤ 8 := by have := kindMag_bounds (b % 9223372036854775808); simp only [kind, nb]; simp; split <;> omega
    have rb : rank b < 18446744073709551615 := by simp only [isNan, decide_eq_false_iff_not] at nb; simp only [rank, isNan, nb, decide_false]; simp; split <;> omega
    rw [show rank a = 18446744073709551615 by simp [rank, na], ka, order_nan_left a b na]
    simp; omega
  · rw [show rank a = 18446744073709551615 by simp [rank, na], show rank b = 18446744073709551615 by simp [rank, nb], order_nan_left a b na]
    simp [kind, na, nb]

theorem gt_swap (a b : Nat) : (double.order a b == some .gt) = (double.order b a == some .lt) := by
  cases na : isNan a
  · cases nb : isNan b
    · rw [gt_iff a b na nb, lt_iff b a nb na]
    · rw [order_nan_right a b nb, order_nan_left b a nb]; rfl
  · rw [order_nan_right b a na, order_nan_left a b na]; rfl

theorem place2 (a b : Nat) (ha : a < 18446744073709551616) (hb : b < 18446744073709551616) (h : ¬ rank a < rank b) :
    (decide (kind b < kind a) || double.order a b == some .gt) = decide (rank b < rank a) := by
  have h1 := place a b ha hb
  have h2 := place b a hb ha
  rw [gt_swap]
  rw [Bool.eq_iff_iff] at h1 h2 ⊢
  simp only [Bool.or_eq_true, Bool.and_eq_true, decide_eq_true_eq, beq_iff_eq] at h1 h2 ⊢
  rw [← h2]
  constructor
  · rintro (h3 | h3)
    · exact .inl h3
    · rcases Int.lt_trichotomy (kind b) (kind a) with h4 | h4 | h4
      · exact .inl h4
      · exact .inr ⟨h4, h3⟩
      · exact absurd (h1.1 (.inl h4)) h
  · rintro (h3 | h3)
    · exact .inl h3
    · exact .inr h3.2

theorem kind_bounds (x : Nat) : 1 ≤ kind x ∧ kind x ≤ 9 := by
  have := kindMag_bounds (x % 9223372036854775808)
  unfold kind; split
  · omega
  · split <;> omega

theorem one_lt (x : Nat) (h : x < 18446744073709551616) : one x < 18446744073709551616 := by unfold one; split <;> omega
theorem isNan_one (x : Nat) : isNan (one x) = isNan x := by
  unfold one
  cases h : isNan x
  · simp [h]
  · rfl
theorem one_one (x : Nat) : one (one x) = one x := by
  have := isNan_one x
  cases h : isNan x
  · simp [one, h]
  · simp [one, h]
theorem rank_lt (x : Nat) (hx : x < 18446744073709551616) : rank x < 18446744073709551616 := by
  unfold rank; split
  · omega
  · split <;> omega
theorem rank_one (x : Nat) : rank (one x) = rank x := by
  cases h : isNan x
  · simp [one, h]
  · have : rank x = 18446744073709551615 := by simp [rank, h]
    rw [this]; simp [one, h]; decide
/-- What has one place has one form. -/
theorem rank_inj {a b : Nat} (ha : a < 18446744073709551616) (hb : b < 18446744073709551616) (h : rank a = rank b) : one a = one b := by
  cases na : isNan a <;> cases nb : isNan b
  · simp only [isNan, decide_eq_false_iff_not] at na nb
    simp only [one, rank, isNan, na, nb, decide_false, Bool.false_eq_true, if_false] at h ⊢
    by_cases sa : 9223372036854775808 ≤ a <;> by_cases sb : 9223372036854775808 ≤ b <;> simp only [sa, sb, if_true, if_false] at h <;> omega
  · simp only [isNan, decide_eq_false_iff_not] at na
    simp only [rank, nb] at h
    simp only [isNan, na, decide_false, Bool.false_eq_true, if_false, if_true] at h
    split at h <;> omega
  · simp only [isNan, decide_eq_false_iff_not] at nb
    simp only [rank, na] at h
    simp only [isNan, nb, decide_false, Bool.false_eq_true, if_false, if_true] at h
    split at h <;> omega
  · simp [one, na, nb]
theorem one_eq_iff {a b : Nat} (ha : a < 18446744073709551616) (hb : b < 18446744073709551616) : one a = one b ↔ rank a = rank b :=
  ⟨fun h => by rw [← rank_one a, ← rank_one b, h], rank_inj ha hb⟩

end Tocsin
