/- Plain laws: a small whole number as a float64, a quarter more, nought more; what they come to as whole numbers again. -/
import Derived.Test.YtldhbelinopniaaDoorNo
import Derived.Test.YtldhbelinopniaaDoorNi
namespace Tocsin
open Go Ieee
open Go.RowKit (Hid)

/-- The word of a number of fewer than 53 digits. -/
theorem word_at (s : Bool) (n : Nat) (h0 : n ≠ 0) (hn : n < 9007199254740992) :
    ∃ t : Nat, t ≤ 52 ∧ 4503599627370496 ≤ n * 2 ^ t ∧ n * 2 ^ t < 9007199254740992 ∧ ∀ (p : Int) (e : Nat), (e : Int) = 1074 + p - t → e ≤ 2045 → double.nearest s n p = wordOf s (n * 2 ^ t) e := by
  obtain ⟨t, ht, h1, h2, -⟩ := whole_small s n h0 hn
  refine ⟨t, ht, h1, h2, fun p e he hle => ?_⟩
  rw [← nearest_short s n t e h1 h2 hle]
  congr 1; omega

theorem word_fields (s : Bool) (k e : Nat) (hk1 : 4503599627370496 ≤ k) (hk2 : k < 9007199254740992) (he : e ≤ 2044) :
    wordOf s k e < 18446744073709551616 ∧ wordOf s k e % 9223372036854775808 < 9218868437227405312 ∧ ex (wordOf s k e) = (e : Int) - 1074 ∧ sig (wordOf s k e) = k ∧ (9223372036854775808 ≤ wordOf s k e ↔ s = true) := by
  unfold wordOf ex sig
  cases s <;> simp <;> omega

theorem toI_word (s : Bool) (k c : Nat) (hk1 : 4503599627370496 ≤ k) (hk2 : k < 9007199254740992) (hc : c ≤ 53) :
    toI (wordOf s k (1074 - c)) = (if s then -(rnd k c : Int) else (rnd k c : Int), 0) := by
  obtain ⟨f1, f2, f3, f4, f5⟩ := word_fields s k (1074 - c) hk1 hk2 (by omega)
  generalize wordOf s k (1074 - c) = x at *
  have f3' : ex x = -(c : Int) := by rw [f3]; omega
  have hn : isNan x = false := by simp [isNan]; omega
  unfold toI
  rw [hn, f3', f4, if_neg (by decide), if_neg (by omega), if_neg (by omega), if_neg (by omega)]
  have hs : sgn x = fun n : Nat => if s then -(n : Int) else (n : Int) := by
    funext n; unfold sgn
    cases s
    · rw [if_neg (by simpa using f5)]; rfl
    · rw [if_pos (by simpa using f5)]; rfl
  rw [hs]
  by_cases h0 : c = 0
  · subst h0
    rw [if_pos (by decide), if_neg (by omega)]
    have : rnd k 0 = k := by unfold rnd; simp [Nat.mod_one]
    simp [this]
  · rw [if_neg (by omega)]
    simp

theorem rnd_exact (n t : Nat) : rnd (n * 2 ^ t) t = n := by
  unfold rnd
  have := Nat.two_pow_pos t
  simp [Nat.mul_mod_left, Nat.mul_div_cancel _ this]

theorem toI_zero : toI 0 = (0, 0) := by decide +kernel

def fw (q : Int) : Nat := FloatKind.f64.nearest q
theorem fw_eq (q : Int) : fw q = double.nearest (decide (q < 0)) q.natAbs 0 := rfl
theorem fw_zero : fw 0 = 0 := by decide +kernel

theorem fw_word (q : Int) (h0 : q ≠ 0) (hq : q.natAbs < 9007199254740992) :
    ∃ t : Nat, t ≤ 52 ∧ 4503599627370496 ≤ q.natAbs * 2 ^ t ∧ q.natAbs * 2 ^ t < 9007199254740992 ∧ fw q = wordOf (decide (q < 0)) (q.natAbs * 2 ^ t) (1074 - t) := by
  obtain ⟨t, ht, h1, h2, h⟩ := word_at (decide (q < 0)) q.natAbs (by omega) hq
  exact ⟨t, ht, h1, h2, by rw [fw_eq]; exact h 0 (1074 - t) (by omega) (by omega)⟩

theorem fw_lt (q : Int) (hq : q.natAbs < 9007199254740992) : fw q < 18446744073709551616 := by
  by_cases h0 : q = 0
  · subst h0; decide +kernel
  · obtain ⟨t, ht, h1, h2, e⟩ := fw_word q h0 hq
    rw [e]; exact (word_fields _ _ _ h1 h2 (by omega)).1

/-- A whole number, as a float64 and back. -/
theorem toI_fw (q : Int) (hq : q.natAbs < 9007199254740992) : toI (fw q) = (q, 0) := by
  by_cases h0 : q = 0
  · subst h0; rw [fw_zero, toI_zero]
  · obtain ⟨t, ht, h1, h2, e⟩ := fw_word q h0 hq
    rw [e, toI_word _ _ _ h1 h2 (by omega), rnd_exact]
    by_cases hs : q < 0
    · simp [hs]; omega
    · simp [hs]; omega

theorem read_zero : double.read 0 = .number false 0 (-1074) := by decide +kernel
theorem read_quarter : double.read 4598175219545276416 = .number false 4503599627370496 (-54) := by decide +kernel

/-- Nought more. -/
theorem add_zero (s : Bool) (k e : Nat) (hk1 : 4503599627370496 ≤ k) (hk2 : k < 9007199254740992) (he : e ≤ 2045) :
    double.add (wordOf s k e) 0 = some (wordOf s k e) ∧ double.add 0 (wordOf s k e) = some (wordOf s k e) := by
  have e0 : min ((e : Int) - 1074) (-1074) = -1074 := by omega
  have e0' : min (-1074) ((e : Int) - 1074) = -1074 := by omega
  have e1 : ((e : Int) - 1074 - -1074).toNat = e := by omega
  have hz : ∀ u : Nat, signed false 0 u = 0 := fun u => by rw [signed_eq]; simp
  have hp := Nat.two_pow_pos e
  have hk : k * 2 ^ e ≠ 0 := Nat.mul_ne_zero (by omega) (by omega)
  have hl := nearest_long s k e e hk1 hk2 he
  have ep : (e : Int) - 1074 - e = -1074 := by omega
  rw [ep] at hl
  have hw : double.write (.number (if signed s k e = 0 then s && false else decide (signed s k e < 0)) (signed s k e).natAbs (-1074)) = wordOf s k e := by
    have hse := signed_eq s k e
    have hne : signed s k e ≠ 0 := by rw [hse]; clear hl hse; generalize k * 2 ^ e = K at *; cases s <;> simp <;> omega
    have hneg : decide (signed s k e < 0) = s := by rw [hse]; clear hl hse hne; generalize k * 2 ^ e = K at *; cases s <;> simp <;> omega
    have habs : (signed s k e).natAbs = k * 2 ^ e := by rw [hse]; clear hl hse hne hneg; generalize k * 2 ^ e = K at *; cases s <;> simp
    rw [if_neg hne, hneg, habs]
    exact hl
  constructor
  · unfold Format.add
    rw [read_wordOf s k e hk1 hk2 he, read_zero]
    simp only [Datum.sum]
    rw [e0, e1, hz, Int.add_zero]
    simp only [Option.map_some]
    rw [hw]
  · unfold Format.add
    rw [read_wordOf s k e hk1 hk2 he, read_zero]
    simp only [Datum.sum]
    rw [e0', e1, hz, Int.zero_add, Bool.and_comm]
    simp only [Option.map_some]
    rw [hw]

theorem fw_add_zero (q : Int) (hq : q.natAbs < 9007199254740992) : double.add (fw q) 0 = some (fw q) ∧ double.add 0 (fw q) = some (fw q) := by
  by_cases h0 : q = 0
  · subst h0; rw [fw_zero]; decide +kernel
  · obtain ⟨t, ht, h1, h2, e⟩ := fw_word q h0 hq
    rw [e]; exact add_zero _ _ _ h1 h2 (by omega)

theorem rnd_quarter (n r t : Nat) (hr : r = 1 ∨ r = 3) : rnd ((4 * n + r) * 2 ^ t) (t + 2) = if r = 1 then n else n + 1 := by
  unfold rnd
  have hp := Nat.two_pow_pos t
  have e : 2 ^ (t + 2) = 4 * 2 ^ t := by rw [Nat.pow_add]; omega
  rw [e]
  generalize 2 ^ t = y at *
  have d : (4 * n + r) * y = 4 * y * n + r * y := by rw [Nat.add_mul, Nat.mul_assoc 4 y n, Nat.mul_comm y n, Nat.mul_assoc]
  have hlt : r * y < 4 * y := Nat.mul_lt_mul_of_pos_right (by omega) hp
  rw [d, Nat.mul_add_div (by omega), Nat.div_eq_of_lt hlt, Nat.mul_add_mod, Nat.mod_eq_of_lt hlt]
  rcases hr with rfl | rfl
  · rw [if_neg (by omega), if_pos rfl]; omega
  · rw [if_pos (by omega), if_neg (by decide)]

/-- A quarter more. -/
theorem toI_quarter (q : Int) (h0 : q ≠ 0) (hq : q.natAbs ≤ 1125899906842624) : ∃ x, double.add (fw q) 4598175219545276416 = some x ∧ toI x = (q, 0) := by
  obtain ⟨t, ht, h1, h2, e⟩ := fw_word q h0 (by omega)
  obtain ⟨m, hm⟩ : ∃ m : Nat, m = (4 * q + 1).natAbs := ⟨_, rfl⟩
  obtain ⟨t', ht', k1, k2, hw⟩ := word_at (decide (4 * q + 1 < 0)) m (by omega) (by omega)
  have ht2 : t' ≤ 51 := by
    rcases Nat.lt_or_ge t' 52 with h | h
    · omega
    · have : t' = 52 := by omega
      subst this
      have : 3 * 2 ^ 52 ≤ m * 2 ^ 52 := Nat.mul_le_mul_right _ (by omega)
      omega
  refine ⟨wordOf (decide (4 * q + 1 < 0)) (m * 2 ^ t') (1072 - t'), ?_, ?_⟩
  · unfold Format.add
    rw [e, read_wordOf _ _ _ h1 h2 (by omega), read_quarter]
    simp only [Datum.sum]
    have b0 : min (((1074 - t : Nat) : Int) - 1074) (-54) = -54 := by omega
    have b1 : (((1074 - t : Nat) : Int) - 1074 - -54).toNat = 54 - t := by omega
    rw [b0, b1, show ((-54 : Int) - -54).toNat = 0 by decide]
    have tot : signed (decide (q < 0)) (q.natAbs * 2 ^ t) (54 - t) + signed false 4503599627370496 0 = (4 * q + 1) * 4503599627370496 := by
      rw [signed_eq, signed_eq]
      have : q.natAbs * 2 ^ t * 2 ^ (54 - t) = q.natAbs * 18014398509481984 := by
        rw [Nat.mul_assoc, ← Nat.pow_add, show t + (54 - t) = 54 by omega]
      rw [this]
      by_cases hs : q < 0 <;> simp [hs] <;> omega
    rw [tot]
    have ne : (4 * q + 1) * 4503599627370496 ≠ 0 := by omega
    have sg : decide ((4 * q + 1) * 4503599627370496 < 0) = decide (4 * q + 1 < 0) := by
      by_cases hs : 4 * q + 1 < 0
      · simp [hs]; omega
      · simp [hs]; omega
    have ab : ((4 * q + 1) * 4503599627370496).natAbs = m * 2 ^ t' * 2 ^ (52 - t') := by
      rw [Int.natAbs_mul, ← hm, Nat.mul_assoc, ← Nat.pow_add, show t' + (52 - t') = 52 by omega]
      rfl
    rw [if_neg ne, sg, ab]
    have hl := nearest_long (decide (4 * q + 1 < 0)) (m * 2 ^ t') (52 - t') (1072 - t') k1 k2 (by omega)
    have ep : ((1072 - t' : Nat) : Int) - 1074 - ((52 - t' : Nat) : Int) = -54 := by omega
    rw [ep] at hl
    show some (double.write _) = _
    rw [← hl]
    rfl
  · rw [show 1072 - t' = 1074 - (t' + 2) by omega, toI_word _ _ _ k1 k2 (by omega)]
    by_cases hs : q < 0
    · have : m = 4 * (q.natAbs - 1) + 3 := by omega
      rw [this, rnd_quarter _ 3 _ (.inr rfl)]
      simp
      omega
    · have : m = 4 * q.natAbs + 1 := by omega
      rw [this, rnd_quarter _ 1 _ (.inl rfl)]
      simp
      omega
theorem toI_quarter0 : ∃ x, double.add (fw 0) 4598175219545276416 = some x ∧ toI x = (0, 0) := ⟨4598175219545276416, by decide +kernel, by decide +kernel⟩
end Tocsin
