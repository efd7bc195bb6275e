/- The walk of the law about the sign: it comes to true. -/
import Derived.Test.YtldhbelinopniaaDoorNo
namespace Tocsin
open Go Go.RowKit

def negW (x : Nat) : Nat := x ^^^ 9223372036854775808
theorem xor_low (x : Nat) (h : x < 9223372036854775808) : x ^^^ 9223372036854775808 = x + 9223372036854775808 := by
  have e : x + 9223372036854775808 = 2 ^ 63 + x := by omega
  rw [e]
  apply Nat.eq_of_testBit_eq
  intro j
  rw [Nat.testBit_xor]
  have e2 : (9223372036854775808 : Nat) = 2 ^ 63 := by decide
  rw [e2, Nat.testBit_two_pow]
  rcases Nat.lt_trichotomy j 63 with hj | hj | hj
  · rw [Nat.testBit_two_pow_add_gt hj]
    simp [show ¬ 63 = j by omega]
  · subst hj
    rw [Nat.testBit_two_pow_add_eq]
    simp
  · have h1 : x.testBit j = false := Nat.testBit_lt_two_pow (Nat.lt_of_lt_of_le h (by rw [e2]; exact Nat.pow_le_pow_right (by decide) (by omega)))
    have h2 : (2 ^ 63 + x).testBit j = false := Nat.testBit_lt_two_pow (Nat.lt_of_lt_of_le (show 2 ^ 63 + x < 2 ^ 64 by omega) (Nat.pow_le_pow_right (by decide) (by omega)))
    rw [h1, h2]
    simp [show ¬ 63 = j by omega]
theorem negW_eq (x : Nat) (h : x < 18446744073709551616) : negW x = if 9223372036854775808 ≤ x then x - 9223372036854775808 else x + 9223372036854775808 := by
  unfold negW
  split
  · have e : x = (x - 9223372036854775808) ^^^ 9223372036854775808 := by rw [xor_low _ (by omega)]; omega
    generalize x - 9223372036854775808 = y at *
    rw [e, Nat.xor_assoc, Nat.xor_self, Nat.xor_zero]
  · exact xor_low x (by omega)
@[go_sem] theorem run_neg (P : Program) (x : Nat) (w : World) : (Op.unary .neg (.float .f64 x)).run P w = .ok (.float .f64 (negW x)) w := by
  have e : Op.negFloat .f64 x = negW x := by
    unfold Op.negFloat negW
    rw [show (2 : Nat) ^ (FloatKind.f64.format.exponentBits + FloatKind.f64.format.fractionBits) = 9223372036854775808 by decide]
  show Result.ok (Value.float .f64 (Op.negFloat .f64 x)) w = _
  rw [e]
@[go_sem] theorem neg_neg (x : Nat) : negW (negW x) = x := by unfold negW; rw [Nat.xor_assoc, Nat.xor_self, Nat.xor_zero]
theorem negW_lt (x : Nat) (h : x < 18446744073709551616) : negW x < 18446744073709551616 := by rw [negW_eq x h]; split <;> omega
theorem negW_mod (x : Nat) (h : x < 18446744073709551616) : negW x % 9223372036854775808 = x % 9223372036854775808 := by rw [negW_eq x h]; split <;> omega
theorem negW_ge (x : Nat) (h : x < 18446744073709551616) : 9223372036854775808 ≤ negW x ↔ ¬ 9223372036854775808 ≤ x := by rw [negW_eq x h]; split <;> omega
theorem isNan_negW (x : Nat) (h : x < 18446744073709551616) : isNan (negW x) = isNan x := by unfold isNan; rw [negW_mod x h]
theorem kind_negW (x : Nat) (h : x < 18446744073709551616) (hn : isNan x = false) : kind (negW x) = 9 - kind x := by
  unfold kind
  rw [isNan_negW x h, hn, negW_mod x h]
  have := negW_ge x h
  by_cases h1 : 9223372036854775808 ≤ x
  · have h2 : ¬ 9223372036854775808 ≤ negW x := fun e => this.1 e h1
    simp only [h1, h2, if_true, if_false]; simp; omega
  · have h2 : 9223372036854775808 ≤ negW x := this.2 h1
    simp only [h1, h2, if_true, if_false]; simp
theorem kind_nan (x : Nat) (hn : isNan x = true) : kind x = 9 := by unfold kind; simp [hn]
theorem kind_num (x : Nat) (hn : isNan x = false) : kind x ≠ 9 := by
  unfold kind
  have := kindMag_bounds (x % 9223372036854775808)
  simp only [hn]
  split
  · contradiction
  · split <;> omega
theorem cmp_negW (a b : Nat) (ha : a < 18446744073709551616) (hb : b < 18446744073709551616) (na : isNan a = false) (nb : isNan b = false) : cmp (negW a) (negW b) = cmp b a := by
  have key : ∀ x, x < 18446744073709551616 → isNan x = false → rank (negW x) = 18446744073709551615 - rank x := by
    intro x hx nx
    unfold rank
    rw [isNan_negW x hx, nx, negW_eq x hx]
    by_cases h1 : 9223372036854775808 ≤ x
    · simp only [h1, if_true]
      have h2 : ¬ 9223372036854775808 ≤ x - 9223372036854775808 := by omega
      simp only [h2, if_false]
      simp
      omega
    · simp only [h1, if_false]
      have h2 : 9223372036854775808 ≤ x + 9223372036854775808 := by omega
      simp only [h2, if_true]
      simp
      omega
  have la := rank_lt a ha
  have lb := rank_lt b hb
  unfold cmp
  rw [key a ha na, key b hb nb]
  by_cases h1 : rank a < rank b
  · have : ¬ rank b < rank a := by omega
    simp [h1, this]; omega
  · by_cases h2 : rank b < rank a
    · simp [h2]; omega
    · simp [h1, h2]; omega
end Tocsin
namespace Go.Proofs.YtldhbelinopniaaDoor
open Go.RowKit Go.Lib Tocsin

set_option maxHeartbeats 1000000 in
set_option maxRecDepth 100000 in
theorem numSigns_any (a b : Nat) (w : World) (ha : a < 18446744073709551616) (hb : b < 18446744073709551616) (L : Laid w) :
    Calls Tryd.prog 10 #[.float .f64 a, .float .f64 b] w fun e w' => e = .returned (.bool true) ∧ Below w.heap.size w w' := by
  have c0 := fixed_any w L
  have c1 := fun w => kind_any a w ha
  have c2 := fun w => kind_any b w hb
  have c3 := fun w => kind_any (negW a) w (negW_lt a ha)
  have c4 := fun w => kind_any (negW b) w (negW_lt b hb)
  have c5 := fun w => compare_any (negW a) (negW b) w (negW_lt a ha) (negW_lt b hb)
  have c6 := fun w => compare_any b a w hb ha
  have c7 := fun w => bits_any a w
  clear L
  cases na : isNan a
  · cases nb : isNan b
    · rw [kind_negW a ha na] at c3
      rw [cmp_negW a b ha hb na nb] at c5
      have ka : (kind a == 9) = false := by simpa using kind_num a na
      have kb : (kind b == 9) = false := by simpa using kind_num b nb
      obtain ⟨k1, k2⟩ := kind_bounds a
      clear ha hb c4 na nb
      generalize kind a = k at *
      generalize kind b = l at *
      go_enter Tryd.func10, Tryd.ntmps10
      go_wp2_with fail
      refine c0.mono ?_; rintro e w1 ⟨rfl, H⟩
      go_wp2_with fail
      refine (c1 _).mono ?_; rintro e w' ⟨rfl, rfl⟩
      go_wp2_with fail
      refine (c2 _).mono ?_; rintro e w' ⟨rfl, rfl⟩
      go_wp2_with fail
      refine (c3 _).mono ?_; rintro e w' ⟨rfl, rfl⟩
      go_wp2_with fail
      refine (c1 _).mono ?_; rintro e w' ⟨rfl, rfl⟩
      go_wp2_with fail
      refine (c5 _).mono ?_; rintro e w' ⟨rfl, rfl⟩
      go_wp2_with fail
      refine (c6 _).mono ?_; rintro e w' ⟨rfl, rfl⟩
      go_wp2_with fail
      refine (c7 _).mono ?_; rintro e w' ⟨rfl, rfl⟩
      go_wp2_with fail
      refine (c7 _).mono ?_; rintro e w' ⟨rfl, rfl⟩
      go_wp2_with fail
      go_ret
      exact ⟨rfl, H⟩
    · rw [kind_nan b nb] at c2
      rw [kind_nan (negW b) (by rw [isNan_negW b hb, nb])] at c4
      have kn : (kind (negW a) == 9) = false := by simpa using kind_num (negW a) (by rw [isNan_negW a ha, na])
      have ka : (kind a == 9) = false := by simpa using kind_num a na
      clear ha hb c5 c6 c7 na nb
      generalize kind a = k at *
      generalize kind (negW a) = k' at *
      go_enter Tryd.func10, Tryd.ntmps10
      go_wp2_with fail
      refine c0.mono ?_; rintro e w1 ⟨rfl, H⟩
      go_wp2_with fail
      refine (c1 _).mono ?_; rintro e w' ⟨rfl, rfl⟩
      go_wp2_with fail
      refine (c2 _).mono ?_; rintro e w' ⟨rfl, rfl⟩
      go_wp2_with fail
      refine (c3 _).mono ?_; rintro e w' ⟨rfl, rfl⟩
      go_wp2_with fail
      refine (c4 _).mono ?_; rintro e w' ⟨rfl, rfl⟩
      go_wp2_with fail
      go_ret
      exact ⟨rfl, H⟩
  · rw [kind_nan a na] at c1
    rw [kind_nan (negW a) (by rw [isNan_negW a ha, na])] at c3
    clear ha hb c5 c6 c7 na c2 c4
    go_enter Tryd.func10, Tryd.ntmps10
    go_wp2_with fail
    refine c0.mono ?_; rintro e w1 ⟨rfl, H⟩
    go_wp2_with fail
    refine (c1 _).mono ?_; rintro e w' ⟨rfl, rfl⟩
    go_wp2_with fail
    refine (c3 _).mono ?_; rintro e w' ⟨rfl, rfl⟩
    go_wp2_with fail
    go_ret
    exact ⟨rfl, H⟩
end Go.Proofs.YtldhbelinopniaaDoor
