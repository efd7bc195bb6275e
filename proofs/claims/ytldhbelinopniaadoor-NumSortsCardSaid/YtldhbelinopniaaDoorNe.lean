/- Plain numbers: which word a whole multiple of a power of two has, and rounding to a whole number. No program in sight. -/
import Derived.Test.YtldhbelinopniaaDoorNa
namespace Tocsin
open Ieee

/-- The word of 'k * 2 ^ (e - 1074)', k of 53 digits. -/
def wordOf (s : Bool) (k e : Nat) : Nat := (if s then 9223372036854775808 else 0) + (e * 4503599627370496 + k)

theorem word_eq (s : Bool) (r : Nat) : double.word s r = (if s then 9223372036854775808 else 0) + r := by
  unfold Format.word; rw [fmt_signWeight]; cases s <;> simp

theorem cut_exact (way : Toward) (s : Bool) (n d : Nat) (h : n % 2 ^ d = 0) : way.cut s n d = n / 2 ^ d := by
  unfold Toward.cut
  simp only [Nat.shiftLeft_eq, Nat.one_mul]
  by_cases hd : d ≤ n.log2 + 2
  · rw [Nat.min_eq_left hd, h]; cases way <;> simp
  · have hlt : n < 2 ^ (n.log2 + 1) := Nat.lt_log2_self
    have h2 : n < 2 ^ d := Nat.lt_of_lt_of_le hlt (Nat.pow_le_pow_right (by decide) (by omega))
    rw [Nat.mod_eq_of_lt h2] at h
    subst h
    cases way <;> simp

theorem log2_of {k a : Nat} (h1 : 2 ^ a ≤ k) (h2 : k < 2 ^ (a + 1)) : k.log2 = a := by
  have hk : k ≠ 0 := by have := Nat.two_pow_pos a; omega
  have l1 : a ≤ k.log2 := (Nat.le_log2 hk).2 h1
  have l2 : k.log2 < a + 1 := (Nat.log2_lt hk).2 h2
  omega

theorem log2_shift {k t : Nat} (h : k ≠ 0) : (k * 2 ^ t).log2 = k.log2 + t := by
  have h1 : 2 ^ k.log2 ≤ k := Nat.log2_self_le h
  have h2 : k < 2 ^ (k.log2 + 1) := Nat.lt_log2_self
  apply log2_of
  · rw [Nat.pow_add]; exact Nat.mul_le_mul_right _ h1
  · rw [show k.log2 + t + 1 = (k.log2 + 1) + t by omega, Nat.pow_add]; exact Nat.mul_lt_mul_of_pos_right h2 (Nat.two_pow_pos _)

theorem min_infRung (k e : Nat) (hk : k < 9007199254740992) (he : e ≤ 2045) : min (e * 4503599627370496 + k) 9218868437227405312 = e * 4503599627370496 + k := by
  omega

/-- Digits that are more than 53 but end in noughts. -/
theorem nearest_long (s : Bool) (k t : Nat) (e : Nat) (hk1 : 4503599627370496 ≤ k) (hk2 : k < 9007199254740992) (he : e ≤ 2045) :
    double.nearest s (k * 2 ^ t) ((e : Int) - 1074 - t) = wordOf s k e := by
  have hk0 : k ≠ 0 := by omega
  have hlog : k.log2 = 52 := log2_of (by simpa using hk1) (by simpa using hk2)
  have hp := Nat.two_pow_pos t
  have hne : k * 2 ^ t ≠ 0 := Nat.mul_ne_zero hk0 (by omega)
  have hlast : max (((e : Int) - 1074 - t) + ((k * 2 ^ t).log2 : Nat) - ((52 : Nat) : Int)) (-1074) = (e : Int) - 1074 := by
    rw [log2_shift hk0, hlog]; omega
  unfold Format.nearest
  rw [if_neg hne]
  simp only [fmt_binade, fmt_infRung, fmt_least]
  have hf : double.fractionBits = 52 := rfl
  rw [hf, hlast, word_eq]
  have e1 : ((e : Int) - 1074 - t - ((e : Int) - 1074)).toNat = 0 := by omega
  have e2 : ((e : Int) - 1074 - ((e : Int) - 1074 - t)).toNat = t := by omega
  have e3 : ((e : Int) - 1074 - -1074).toNat = e := by omega
  rw [e1, e2, e3]
  rw [show (k * 2 ^ t) <<< 0 = k * 2 ^ t from rfl, cut_exact _ _ _ _ (by simp), Nat.mul_div_cancel _ hp, min_infRung k e hk2 he]
  rfl

/-- Digits that are fewer than 53. -/
theorem nearest_short (s : Bool) (n t : Nat) (e : Nat) (hk1 : 4503599627370496 ≤ n * 2 ^ t) (hk2 : n * 2 ^ t < 9007199254740992) (he : e ≤ 2045) :
    double.nearest s n ((e : Int) - 1074 + t) = wordOf s (n * 2 ^ t) e := by
  have hn0 : n ≠ 0 := by intro h; subst h; simp at hk1
  have hlog : (n * 2 ^ t).log2 = 52 := log2_of (by simpa using hk1) (by simpa using hk2)
  rw [log2_shift hn0] at hlog
  have hlast : max (((e : Int) - 1074 + t) + (n.log2 : Nat) - ((52 : Nat) : Int)) (-1074) = (e : Int) - 1074 := by omega
  unfold Format.nearest
  rw [if_neg hn0]
  simp only [fmt_binade, fmt_infRung, fmt_least]
  have hf : double.fractionBits = 52 := rfl
  rw [hf, hlast, word_eq]
  have e1 : ((e : Int) - 1074 + t - ((e : Int) - 1074)).toNat = t := by omega
  have e2 : ((e : Int) - 1074 - ((e : Int) - 1074 + t)).toNat = 0 := by omega
  have e3 : ((e : Int) - 1074 - -1074).toNat = e := by omega
  rw [e1, e2, e3, Nat.shiftLeft_eq, cut_exact _ _ _ _ (by simp [Nat.mod_one]), Nat.pow_zero, Nat.div_one, min_infRung _ e hk2 he]
  simp [wordOf]

/-- What such a word reads as. -/
theorem read_wordOf (s : Bool) (k e : Nat) (hk1 : 4503599627370496 ≤ k) (hk2 : k < 9007199254740992) (he : e ≤ 2045) :
    double.read (wordOf s k e) = .number s k ((e : Int) - 1074) := by
  have hr : wordOf s k e % 9223372036854775808 = e * 4503599627370496 + k := by unfold wordOf; cases s <;> simp <;> omega
  have hq : (wordOf s k e / 9223372036854775808 % 2 == 1) = s := by
    unfold wordOf; cases s
    · simp; omega
    · simp; omega
  unfold Format.read
  simp only [fmt_signWeight, fmt_binade, fmt_infRung, fmt_least]
  rw [hr, hq, if_neg (by omega), if_pos (by omega)]
  congr 1 <;> omega

/-- The exponent and the digits of a word, as the document's answer takes them. -/
def ex (x : Nat) : Int := (x / 4503599627370496 % 2048 : Nat) - 1075
def sig (x : Nat) : Nat := x % 4503599627370496 + 4503599627370496
/-- 'm / 2 ^ c' to the nearest, the even one of two. -/
def rnd (m c : Nat) : Nat := m / 2 ^ c + (if 2 ^ c < 2 * (m % 2 ^ c) ∨ (2 ^ c = 2 * (m % 2 ^ c) ∧ m / 2 ^ c % 2 = 1) then 1 else 0)
def sgn (x : Nat) (n : Nat) : Int := if 9223372036854775808 ≤ x then -(n : Int) else n
/-- The nearest whole number, and the error. -/
def toI (x : Nat) : Int × Int :=
  if isNan x then (0, 3) else if x % 9223372036854775808 = 9218868437227405312 then (0, 4)
  else if ex x < -53 then (0, 0) else if 12 ≤ ex x then (0, 4)
  else if 0 ≤ ex x then if ex x = 11 ∧ ¬ (9223372036854775808 ≤ x ∧ sig x = 4503599627370496) then (0, 4) else (sgn x (sig x * 2 ^ (ex x).toNat), 0)
  else (sgn x (rnd (sig x) (-ex x).toNat), 0)

def roundW (x : Nat) : Nat := double.write ((double.read x).integral .even)

theorem sig_bounds (x : Nat) : 4503599627370496 ≤ sig x ∧ sig x < 9007199254740992 := by unfold sig; omega

/-- A normal word, by its digits. -/
theorem word_of_sig (x : Nat) (hx : x < 18446744073709551616) (h0 : x / 4503599627370496 % 2048 ≠ 0) (h1 : x / 4503599627370496 % 2048 ≠ 2047) :
    x = wordOf (decide (9223372036854775808 ≤ x)) (sig x) (x / 4503599627370496 % 2048 - 1) ∧ x / 4503599627370496 % 2048 - 1 ≤ 2045 := by
  unfold wordOf sig
  refine ⟨?_, by omega⟩
  by_cases hs : 9223372036854775808 ≤ x
  · simp only [hs, decide_true, if_true]; omega
  · simp only [hs, decide_false, Bool.false_eq_true, if_false]; omega

theorem roundW_great (x : Nat) (hx : x < 18446744073709551616) (h1 : x / 4503599627370496 % 2048 ≠ 2047) (he : 0 ≤ ex x) : roundW x = x := by
  unfold ex at he
  obtain ⟨hw, hb⟩ := word_of_sig x hx (by omega) h1
  obtain ⟨k1, k2⟩ := sig_bounds x
  generalize hs : decide (9223372036854775808 ≤ x) = s at hw
  generalize sig x = k at *
  generalize hE : x / 4503599627370496 % 2048 - 1 = E at *
  unfold roundW
  rw [hw, read_wordOf s k E k1 k2 hb]
  obtain ⟨t, rfl⟩ : ∃ t, E = 1074 + t := ⟨E - 1074, by omega⟩
  simp only [Datum.integral, Format.write]
  have e1 : (((1074 + t : Nat) : Int) - 1074).toNat = t := by omega
  have e2 : (-(((1074 + t : Nat) : Int) - 1074)).toNat = 0 := by omega
  rw [e1, e2, cut_exact _ _ _ _ (by simp [Nat.mod_one]), Nat.shiftLeft_eq, Nat.pow_zero, Nat.div_one]
  have := nearest_long s k t (1074 + t) k1 k2 hb
  rw [← this]
  congr 1
  omega

theorem toInt_great (s : Bool) (k t : Nat) (k1 : 4503599627370496 ≤ k) (k2 : k < 9007199254740992) (ht : t ≤ 971) :
    (double.read (wordOf s k (1074 + t))).toInt .zero = some (if s then -((k * 2 ^ t : Nat) : Int) else ((k * 2 ^ t : Nat) : Int)) := by
  rw [read_wordOf s k _ k1 k2 (by omega)]
  simp only [Datum.toInt, Datum.integral]
  have e1 : (((1074 + t : Nat) : Int) - 1074).toNat = t := by omega
  have e2 : (-(((1074 + t : Nat) : Int) - 1074)).toNat = 0 := by omega
  rw [e1, e2, cut_exact _ _ _ _ (by simp [Nat.mod_one]), Nat.shiftLeft_eq, Nat.pow_zero, Nat.div_one, signed_eq, Nat.pow_zero, Nat.mul_one]

theorem toInt_small (s : Bool) (n t : Nat) (k1 : 4503599627370496 ≤ n * 2 ^ t) (k2 : n * 2 ^ t < 9007199254740992) (ht : t ≤ 1074) :
    (double.read (wordOf s (n * 2 ^ t) (1074 - t))).toInt .zero = some (if s then -(n : Int) else (n : Int)) := by
  rw [read_wordOf s _ _ k1 k2 (by omega)]
  simp only [Datum.toInt, Datum.integral]
  have e1 : (((1074 - t : Nat) : Int) - 1074).toNat = 0 := by omega
  have e2 : (-(((1074 - t : Nat) : Int) - 1074)).toNat = t := by omega
  have hp := Nat.two_pow_pos t
  rw [e1, e2, show (n * 2 ^ t) <<< 0 = n * 2 ^ t from rfl, cut_exact _ _ _ _ (by simp), Nat.mul_div_cancel _ hp, signed_eq, Nat.pow_zero, Nat.mul_one]

/-- The word of a small whole number. -/
theorem whole_small (s : Bool) (n : Nat) (h0 : n ≠ 0) (hn : n < 9007199254740992) :
    ∃ t, t ≤ 52 ∧ 4503599627370496 ≤ n * 2 ^ t ∧ n * 2 ^ t < 9007199254740992 ∧ double.nearest s n 0 = wordOf s (n * 2 ^ t) (1074 - t) := by
  have hl : n.log2 < 53 := (Nat.log2_lt h0).2 hn
  have h1 : 2 ^ n.log2 ≤ n := Nat.log2_self_le h0
  have h2 : n < 2 ^ (n.log2 + 1) := Nat.lt_log2_self
  have b1 : 4503599627370496 ≤ n * 2 ^ (52 - n.log2) := by
    have : 2 ^ n.log2 * 2 ^ (52 - n.log2) ≤ n * 2 ^ (52 - n.log2) := Nat.mul_le_mul_right _ h1
    rwa [← Nat.pow_add, show n.log2 + (52 - n.log2) = 52 by omega] at this
  have b2 : n * 2 ^ (52 - n.log2) < 9007199254740992 := by
    have : n * 2 ^ (52 - n.log2) < 2 ^ (n.log2 + 1) * 2 ^ (52 - n.log2) := Nat.mul_lt_mul_of_pos_right h2 (Nat.two_pow_pos _)
    rwa [← Nat.pow_add, show n.log2 + 1 + (52 - n.log2) = 53 by omega] at this
  refine ⟨52 - n.log2, by omega, b1, b2, ?_⟩
  have := nearest_short s n (52 - n.log2) (1074 - (52 - n.log2)) b1 b2 (by omega)
  rw [← this]
  congr 1
  omega

theorem rnd_le (m c : Nat) (hm : m < 9007199254740992) (hc : 1 ≤ c) : rnd m c ≤ 4503599627370496 := by
  unfold rnd
  obtain ⟨d, rfl⟩ : ∃ d, c = d + 1 := ⟨c - 1, by omega⟩
  have hp := Nat.two_pow_pos d
  have h1 : m / 2 ^ (d + 1) ≤ 4503599627370495 := by
    have : 2 ^ 1 ≤ 2 ^ (d + 1) := Nat.pow_le_pow_right (by decide) (by omega)
    have h2 : m / 2 ^ (d + 1) ≤ m / 2 ^ 1 := Nat.div_le_div_left this (by decide)
    omega
  split <;> omega

theorem more_eq (g r l : Nat) : (decide (g < 2 * r) || (g == 2 * r && l % 2 == 1)).toNat = if g < 2 * r ∨ (g = 2 * r ∧ l % 2 = 1) then 1 else 0 := by
  by_cases c1 : g < 2 * r
  · simp [c1]
  · by_cases c2 : g = 2 * r
    · by_cases c3 : l % 2 = 1 <;> simp [← c2, c3]
    · simp [c1, c2]

theorem roundW_mid (x : Nat) (hx : x < 18446744073709551616) (he : ex x < 0) (hl : -53 ≤ ex x) :
    roundW x = double.nearest (decide (9223372036854775808 ≤ x)) (rnd (sig x) (-ex x).toNat) 0 := by
  have he' := he
  unfold ex at he hl
  obtain ⟨hw, hb⟩ := word_of_sig x hx (by omega) (by omega)
  obtain ⟨k1, k2⟩ := sig_bounds x
  have hE : (-ex x).toNat = 1075 - x / 4503599627370496 % 2048 := by unfold ex; omega
  unfold roundW
  have hr : double.read x = .number (decide (9223372036854775808 ≤ x)) (sig x) (((x / 4503599627370496 % 2048 - 1 : Nat) : Int) - 1074) := by
    have := read_wordOf (decide (9223372036854775808 ≤ x)) (sig x) (x / 4503599627370496 % 2048 - 1) k1 k2 hb
    rw [← hw] at this; exact this
  rw [hr, hE]
  simp only [Datum.integral, Format.write]
  generalize x / 4503599627370496 % 2048 = E at *
  have e1 : (((E - 1 : Nat) : Int) - 1074).toNat = 0 := by omega
  have e2 : (-(((E - 1 : Nat) : Int) - 1074)).toNat = 1075 - E := by omega
  rw [e1, e2]
  congr 1
  have hlog : (sig x).log2 = 52 := log2_of (by simpa using k1) (by simpa using k2)
  unfold Toward.cut rnd
  simp only [Nat.shiftLeft_eq, Nat.one_mul, Nat.pow_zero, Nat.mul_one]
  rw [hlog, Nat.min_eq_left (by omega)]
  congr 1
  generalize 2 ^ (1075 - E) = g
  exact more_eq g (sig x % g) (sig x / g)

theorem roundW_tiny (x : Nat) (hx : x < 18446744073709551616) (hl : ex x < -53) : roundW x = if 9223372036854775808 ≤ x then 9223372036854775808 else 0 := by
  unfold ex at hl
  obtain ⟨m, k, hm, hmk⟩ := read_finite x (by omega)
  have hb : m < 9007199254740992 ∧ k ≤ 1020 := by
    have h2 := hm
    unfold Format.read at h2
    simp only [fmt_signWeight, fmt_binade, fmt_infRung, fmt_least] at h2
    split at h2
    · injection h2 with a b c; omega
    · rw [if_pos (by omega)] at h2
      injection h2 with a b c; omega
  have hs : (x / 9223372036854775808 % 2 == 1) = decide (9223372036854775808 ≤ x) := by
    rw [Bool.eq_iff_iff]; simp; omega
  unfold roundW
  rw [hm, hs]
  simp only [Datum.integral, Format.write]
  have e1 : (-1074 + (k : Int)).toNat = 0 := by omega
  have e2 : (-(-1074 + (k : Int))).toNat = 1074 - k := by omega
  have hcut : Toward.even.cut (decide (9223372036854775808 ≤ x)) m (1074 - k) = 0 := by
    unfold Toward.cut
    simp only [Nat.shiftLeft_eq, Nat.one_mul]
    have hg : 2 * m < 2 ^ min (1074 - k) (m.log2 + 2) := by
      rcases Nat.le_total (1074 - k) (m.log2 + 2) with h | h
      · rw [Nat.min_eq_left h]
        have : 2 ^ 54 ≤ 2 ^ (1074 - k) := Nat.pow_le_pow_right (by decide) (by omega)
        omega
      · rw [Nat.min_eq_right h]
        have : m < 2 ^ (m.log2 + 1) := Nat.lt_log2_self
        rw [show m.log2 + 2 = (m.log2 + 1) + 1 by omega, Nat.pow_succ]; omega
    generalize 2 ^ min (1074 - k) (m.log2 + 2) = g at *
    rw [Nat.div_eq_of_lt (by omega), Nat.mod_eq_of_lt (by omega)]
    simp; omega
  rw [e1, e2, show m <<< 0 = m from rfl, hcut]
  unfold Format.nearest
  rw [if_pos rfl, word_eq]
  by_cases h : 9223372036854775808 ≤ x <;> simp [h]

theorem sval_lt_rank (a b : Nat) (ha : a < 18446744073709551616) (hb : b < 18446744073709551616) (na : isNan a = false) (nb : isNan b = false) (hz : b % 9223372036854775808 ≠ 0) :
    (sval a < sval b ↔ rank a < rank b) ∧ (sval b < sval a ↔ rank b < rank a) := by
  have la := (mag_lt_iff (a % 9223372036854775808) (b % 9223372036854775808))
  have lb := (mag_lt_iff (b % 9223372036854775808) (a % 9223372036854775808))
  simp only [isNan, decide_eq_false_iff_not] at na nb
  simp only [rank, isNan, sval, na, nb, decide_false, Bool.false_eq_true, if_false]
  have pA : 0 < mag (a % 9223372036854775808) ↔ 0 < a % 9223372036854775808 := by have := mag_lt_iff 0 (a % 9223372036854775808); rwa [mag_zero] at this
  have pB : 0 < mag (b % 9223372036854775808) ↔ 0 < b % 9223372036854775808 := by have := mag_lt_iff 0 (b % 9223372036854775808); rwa [mag_zero] at this
  generalize mag (a % 9223372036854775808) = A at *
  generalize mag (b % 9223372036854775808) = B at *
  by_cases sa : 9223372036854775808 ≤ a
  · have qa : a / 9223372036854775808 % 2 = 1 := by omega
    by_cases sb : 9223372036854775808 ≤ b
    · have qb : b / 9223372036854775808 % 2 = 1 := by omega
      rw [if_pos sa, if_pos sb, if_pos qa, if_pos qb]; omega
    · have qb : ¬ b / 9223372036854775808 % 2 = 1 := by omega
      rw [if_pos sa, if_neg sb, if_pos qa, if_neg qb]; omega
  · have qa : ¬ a / 9223372036854775808 % 2 = 1 := by omega
    by_cases sb : 9223372036854775808 ≤ b
    · have qb : b / 9223372036854775808 % 2 = 1 := by omega
      rw [if_neg sa, if_pos sb, if_neg qa, if_pos qb]; omega
    · have qb : ¬ b / 9223372036854775808 % 2 = 1 := by omega
      rw [if_neg sa, if_neg sb, if_neg qa, if_neg qb]; omega

theorem below_of (r : Nat) (hr : r < 18446744073709551616) (nr : isNan r = false) :
    (double.order r 14114281232179134464 == some .lt) = decide (rank r < 4332462841530417151) := by
  rw [lt_iff r _ nr (by decide)]
  have := (sval_lt_rank r 14114281232179134464 hr (by decide) nr (by decide) (by decide)).1
  rw [show rank 14114281232179134464 = 4332462841530417151 by decide] at this
  simp only [this]

theorem above_of (r : Nat) (hr : r < 18446744073709551616) (nr : isNan r = false) :
    (double.order r 4890909195324358656 == some .gt || double.order r 4890909195324358656 == some .eq) = decide (14114281232179134464 ≤ rank r) := by
  have h := (sval_lt_rank r 4890909195324358656 hr (by decide) nr (by decide) (by decide)).1
  rw [show rank 4890909195324358656 = 14114281232179134464 by decide] at h
  rw [order_num r _ nr (by decide)]
  rcases Int.lt_trichotomy (sval r) (sval 4890909195324358656) with c | c | c
  · rw [compare_lt c]; have := h.1 c; simp; omega
  · have : ¬ rank r < 14114281232179134464 := fun k => by have := h.2 k; omega
    rw [c]; simp; omega
  · rw [compare_gt c]; have : ¬ rank r < 14114281232179134464 := fun k => by have := h.2 k; omega
    simp; omega

theorem rank_wordOf (s : Bool) (k e : Nat) (hk1 : 4503599627370496 ≤ k) (hk2 : k < 9007199254740992) (he : e ≤ 2045) :
    rank (wordOf s k e) = (if s then 9223372036854775807 - (e * 4503599627370496 + k) else 9223372036854775808 + (e * 4503599627370496 + k)) ∧ isNan (wordOf s k e) = false ∧ wordOf s k e < 18446744073709551616 := by
  have hn : isNan (wordOf s k e) = false := by
    simp only [isNan, wordOf]; cases s <;> simp <;> omega
  refine ⟨?_, hn, ?_⟩
  · unfold rank; rw [hn]; unfold wordOf; cases s
    · simp; omega
    · simp; omega
  · unfold wordOf; cases s <;> simp <;> omega

/-- What the rounded word is, and what becomes of it. -/
theorem toI_spec (x : Nat) (hx : x < 18446744073709551616) (hn : isNan x = false) :
    isNan (roundW x) = false ∧ roundW x < 18446744073709551616 ∧
    ((toI x = (0, 4) ∧ (rank (roundW x) < 4332462841530417151 ∨ 14114281232179134464 ≤ rank (roundW x))) ∨
     (∃ n : Int, toI x = (n, 0) ∧ ¬ rank (roundW x) < 4332462841530417151 ∧ ¬ 14114281232179134464 ≤ rank (roundW x) ∧ (double.read (roundW x)).toInt .zero = some n ∧ -9223372036854775808 ≤ n ∧ n ≤ 9223372036854775807)) := by
  have hf : ¬ 9218868437227405312 < x % 9223372036854775808 := by simpa [isNan] using hn
  by_cases hi : x % 9223372036854775808 = 9218868437227405312
  · have hr : roundW x = x := by
      unfold roundW; rw [read_inf x hi]
      simp only [Datum.integral, Format.write]
      rw [word_eq, fmt_infRung]
      by_cases hs : 9223372036854775808 ≤ x
      · rw [if_pos (by simp; omega)]; omega
      · rw [if_neg (by simp; omega)]; omega
    rw [hr]
    refine ⟨hn, hx, .inl ⟨by simp [toI, hn, hi], ?_⟩⟩
    unfold rank; rw [hn]; simp only [Bool.false_eq_true, if_false]; split <;> omega
  · by_cases h1 : ex x < -53
    · rw [roundW_tiny x hx h1]
      have ht : toI x = (0, 0) := by simp [toI, hn, hi, h1]
      by_cases hs : 9223372036854775808 ≤ x
      · rw [if_pos hs]
        exact ⟨by decide, by decide, .inr ⟨0, ht, by decide, by decide, by decide +kernel, by decide, by decide⟩⟩
      · rw [if_neg hs]
        exact ⟨by decide, by decide, .inr ⟨0, ht, by decide, by decide, by decide +kernel, by decide, by decide⟩⟩
    · obtain ⟨k1, k2⟩ := sig_bounds x
      by_cases h2 : 0 ≤ ex x
      · have h2' := h2
        unfold ex at h2
        rw [roundW_great x hx (by omega) h2']
        obtain ⟨hw, hb⟩ := word_of_sig x hx (by omega) (by omega)
        obtain ⟨r1, r2, r3⟩ := rank_wordOf (decide (9223372036854775808 ≤ x)) (sig x) _ k1 k2 hb
        rw [← hw] at r1 r2 r3
        refine ⟨r2, r3, ?_⟩
        rw [r1]
        have hE : ((x / 4503599627370496 % 2048 - 1 : Nat) : Int) = ex x + 1074 := by unfold ex; omega
        by_cases h3 : 12 ≤ ex x
        · refine .inl ⟨by simp [toI, hn, hi, h1, h3], ?_⟩
          split <;> omega
        · by_cases h4 : ex x = 11 ∧ ¬ (9223372036854775808 ≤ x ∧ sig x = 4503599627370496)
          · refine .inl ⟨by simp only [toI, hn, hi, h1, h3, h2', Bool.false_eq_true, if_false, if_true]; rw [if_pos h4], ?_⟩
            by_cases hs : 9223372036854775808 ≤ x
            · rw [if_pos (by simpa using hs)]; omega
            · rw [if_neg (by simpa using hs)]; omega
          · refine .inr ⟨sgn x (sig x * 2 ^ (ex x).toNat), by simp only [toI, hn, hi, h1, h3, h2', Bool.false_eq_true, if_false, if_true]; rw [if_neg h4], ?_, ?_, ?_, ?_⟩
            · split <;> omega
            · by_cases hs : 9223372036854775808 ≤ x
              · rw [if_pos (by simpa using hs)]; omega
              · rw [if_neg (by simpa using hs)]; omega
            · have := toInt_great (decide (9223372036854775808 ≤ x)) (sig x) (ex x).toNat k1 k2 (by omega)
              rw [show 1074 + (ex x).toNat = x / 4503599627370496 % 2048 - 1 by omega, ← hw] at this
              rw [this]; unfold sgn
              by_cases hs : 9223372036854775808 ≤ x <;> simp [hs]
            · have hle : sig x * 2 ^ (ex x).toNat ≤ 9223372036854775808 ∧ (¬ 9223372036854775808 ≤ x → sig x * 2 ^ (ex x).toNat < 9223372036854775808) := by
                by_cases h5 : ex x = 11
                · rw [h5]
                  have : 9223372036854775808 ≤ x ∧ sig x = 4503599627370496 := by
                    by_cases c : 9223372036854775808 ≤ x ∧ sig x = 4503599627370496
                    · exact c
                    · exact absurd ⟨h5, c⟩ h4
                  rw [this.2]; simp; omega
                · have h6 : 2 ^ (ex x).toNat ≤ 2 ^ 10 := Nat.pow_le_pow_right (by decide) (by omega)
                  have h7 : sig x * 2 ^ (ex x).toNat ≤ sig x * 2 ^ 10 := Nat.mul_le_mul_left _ h6
                  omega
              generalize sig x * 2 ^ (ex x).toNat = N at *
              unfold sgn; split <;> omega
      · have h3 : ¬ 12 ≤ ex x := by omega
        rw [roundW_mid x hx (by omega) (by omega)]
        have hle := rnd_le (sig x) (-ex x).toNat k2 (by omega)
        have ht : toI x = (sgn x (rnd (sig x) (-ex x).toNat), 0) := by simp only [toI, hn, hi, h1, h3, h2, Bool.false_eq_true, if_false]
        rw [ht]
        generalize hN : rnd (sig x) (-ex x).toNat = N at *
        by_cases h0 : N = 0
        · subst h0
          have e0 : double.nearest (decide (9223372036854775808 ≤ x)) 0 0 = if 9223372036854775808 ≤ x then 9223372036854775808 else 0 := by
            unfold Format.nearest; rw [if_pos rfl, word_eq]; simp
          rw [e0]
          have es : sgn x 0 = 0 := by unfold sgn; split <;> rfl
          rw [es]
          by_cases hs : 9223372036854775808 ≤ x
          · rw [if_pos hs]
            exact ⟨by decide, by decide, .inr ⟨0, rfl, by decide, by decide, by decide +kernel, by decide, by decide⟩⟩
          · rw [if_neg hs]
            exact ⟨by decide, by decide, .inr ⟨0, rfl, by decide, by decide, by decide +kernel, by decide, by decide⟩⟩
        · obtain ⟨t, t1, b1, b2, hw⟩ := whole_small (decide (9223372036854775808 ≤ x)) N h0 (by omega)
          rw [hw]
          obtain ⟨r1, r2, r3⟩ := rank_wordOf (decide (9223372036854775808 ≤ x)) (N * 2 ^ t) (1074 - t) b1 b2 (by omega)
          refine ⟨r2, r3, .inr ⟨sgn x N, rfl, ?_, ?_, ?_, ?_⟩⟩
          · rw [r1]; split <;> omega
          · rw [r1]; split <;> omega
          · rw [toInt_small _ N t b1 b2 (by omega)]; unfold sgn
            by_cases hs : 9223372036854775808 ≤ x <;> simp [hs]
          · unfold sgn; split <;> omega

end Tocsin
