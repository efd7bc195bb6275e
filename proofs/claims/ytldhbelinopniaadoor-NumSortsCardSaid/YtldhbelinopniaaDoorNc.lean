/- Walks: the kinds, the one form and the order, of the program and of the document's answer. -/
import Derived.Test.YtldhbelinopniaaDoorNa
import Derived.Test.YtldhbelinopniaaDoorNb
import Derived.Deep.QuietTactic
import Derived.BigQuiet
namespace Go.Proofs.YtldhbelinopniaaDoor
open Go.RowKit Tocsin

theorem ret_int {k : IntKind} {a b : Int} (h : a = b) : Ending.returned (.int k a) = .returned (.int k b) := by rw [h]
theorem ret_float {a b : Nat} (h : a = b) : Ending.returned (.float .f64 a) = .returned (.float .f64 b) := by rw [h]
theorem ret_bool {a b : Bool} (h : a = b) : Ending.returned (.bool a) = .returned (.bool b) := by rw [h]

theorem isNaN_any (x : Nat) (w : World) :
    Calls Tryd.prog 37 #[.float .f64 x] w fun e w' => e = .returned (.bool (isNan x)) ∧ w = w' := by
  go_enter Tryd.func37, Tryd.ntmps37
  go_wp2
  go_ret
  exact ⟨ret_bool (order_self x), rfl⟩

theorem nan_any (w : World) : Calls Tryd.prog 42 #[] w fun e w' => e = .returned (.float .f64 9221120237041090561) ∧ w = w' := by
  go_enter Tryd.func42, Tryd.ntmps42
  go_wp2
  go_ret
  exact ⟨rfl, rfl⟩

theorem bits_any (x : Nat) (w : World) : Calls Tryd.prog 15 #[.float .f64 x] w fun e w' => e = .returned (.int .u64 x) ∧ w = w' := by
  go_enter Tryd.func15, Tryd.ntmps15
  go_wp2
  go_ret
  exact ⟨rfl, rfl⟩

theorem one_any (x : Nat) (w : World) : Calls Tryd.prog 16 #[.float .f64 x] w fun e w' => e = .returned (.float .f64 (one x)) ∧ w = w' := by
  have hn := isNaN_any x w
  cases h : isNan x
  all_goals
    rw [h] at hn
    have ho : Hid (one x = if isNan x = true then 9221120237041090561 else x) := rfl
    go_enter Tryd.func16, Tryd.ntmps16
    go_wp2_with (go_at_call 37; refine hn.mono ?_; rintro e w' ⟨rfl, rfl⟩)
    go_ret
    exact ⟨ret_float (by rw [ho.out, h]; rfl), rfl⟩

theorem refOne_any (x : Nat) (w : World) : Calls Tryd.prog 17 #[.float .f64 x] w fun e w' => e = .returned (.int .u64 (one x : Nat)) ∧ w = w' := by
  obtain ⟨m, hm⟩ : ∃ m : Nat, m = x % 9223372036854775808 := ⟨_, rfl⟩
  have hand : bits .and .u64 (x : Int) 9223372036854775807 = (m : Int) := by rw [and_63, hm]; rfl
  cases h : isNan x
  · have h1 : ¬ 9218868437227405312 < (m : Int) := by
      have : ¬ 9218868437227405312 < x % 9223372036854775808 := by simpa [isNan] using h
      omega
    have ho : Hid (one x = x) := by show one x = x; simp [one, h]
    clear hm
    go_enter Tryd.func17, Tryd.ntmps17
    go_wp2
    go_ret
    exact ⟨ret_int (by rw [ho.out]), rfl⟩
  · have h1 : 9218868437227405312 < (m : Int) := by
      have : 9218868437227405312 < x % 9223372036854775808 := by simpa [isNan] using h
      omega
    have ho : Hid (one x = 9221120237041090561) := by show one x = _; simp [one, h]
    clear hm
    go_enter Tryd.func17, Tryd.ntmps17
    go_wp2
    go_ret
    exact ⟨ret_int (by rw [ho.out]; rfl), rfl⟩

set_option maxHeartbeats 400000 in
set_option maxRecDepth 100000 in
theorem kind_any (x : Nat) (w : World) (hx : x < 18446744073709551616) :
    Calls Tryd.prog 13 #[.float .f64 x] w fun e w' => e = .returned (.int .i64 (kind x)) ∧ w = w' := by
  have hn := isNaN_any x w
  cases h : isNan x
  · rw [h] at hn
    have hk : Hid (kind x = if 9223372036854775808 ≤ x then 9 - kindMag (x % 9223372036854775808) else kindMag (x % 9223372036854775808)) := by show kind x = _; simp [kind, h]
    have hm : Hid (¬ 9218868437227405312 < x % 9223372036854775808) := by show ¬ _; simpa [isNan] using h
    go_enter Tryd.func13, Tryd.ntmps13
    go_wp2_with (go_at_call 37; refine hn.mono ?_; rintro e w' ⟨rfl, rfl⟩)
    all_goals
      go_ret
      refine ⟨ret_int ?_, rfl⟩
      have hm' := hm.out
      rw [hk.out]
      simp only [beq_iff_eq, beq_eq_false_iff_ne] at *
      unfold kindMag
      clear hn h
      omega
  · rw [h] at hn
    have hk : Hid (kind x = 9) := by show kind x = _; simp [kind, h]
    go_enter Tryd.func13, Tryd.ntmps13
    go_wp2_with (go_at_call 37; refine hn.mono ?_; rintro e w' ⟨rfl, rfl⟩)
    go_ret
    exact ⟨ret_int (by rw [hk.out]), rfl⟩

set_option maxHeartbeats 400000 in
set_option maxRecDepth 100000 in
theorem refKind_any (x : Nat) (w : World) (hx : x < 18446744073709551616) :
    Calls Tryd.prog 14 #[.float .f64 x] w fun e w' => e = .returned (.int .i64 (kind x)) ∧ w = w' := by
  have hn := refOne_any x w
  cases h : isNan x
  · have ho : one x = x := by simp [one, h]
    rw [ho] at hn
    obtain ⟨m, hm⟩ : ∃ m : Nat, m = x % 9223372036854775808 := ⟨_, rfl⟩
    have hand : bits .and .u64 (x : Int) 9223372036854775807 = (m : Int) := by rw [and_63, hm]; rfl
    have hk : Hid (kind x = if 9223372036854775808 ≤ x then 9 - kindMag m else kindMag m) := by show kind x = _; rw [hm]; simp [kind, h]
    have hm : Hid (¬ 9218868437227405312 < m) := by show ¬ _; rw [hm]; simpa [isNan] using h
    clear ho
    go_enter Tryd.func14, Tryd.ntmps14
    go_wp2_with (go_at_call 17; refine hn.mono ?_; rintro e w' ⟨rfl, rfl⟩)
    all_goals
      go_ret
      refine ⟨ret_int ?_, rfl⟩
      have hm' := hm.out
      rw [hk.out]
      try simp only [isInfB_iff, isInfB_iff', bigGe_iff, bigGe_iff'] at *
      unfold kindMag
      clear hn h hand
      omega
  · have ho : ((one x : Nat) : Int) = 9221120237041090561 := by simp [one, h]
    obtain ⟨m, hm⟩ : ∃ m : Int, m = bits .and .u64 ((one x : Nat) : Int) 9223372036854775807 := ⟨_, rfl⟩
    have h1 : 9218868437227405312 < m := by rw [hm, and_63, ho]; decide
    clear ho
    generalize ((one x : Nat) : Int) = c at hn hm
    have hand := hm.symm
    clear hm
    have hk : Hid (kind x = 9) := by show kind x = _; simp [kind, h]
    go_enter Tryd.func14, Tryd.ntmps14
    go_wp2_with (go_at_call 17; refine hn.mono ?_; rintro e w' ⟨rfl, rfl⟩)
    go_ret
    exact ⟨ret_int (by rw [hk.out]), rfl⟩

set_option maxHeartbeats 400000 in
set_option maxRecDepth 100000 in
theorem refRank_any (x : Nat) (w : World) (hx : x < 18446744073709551616) :
    Calls Tryd.prog 39 #[.float .f64 x] w fun e w' => e = .returned (.int .u64 (rank x : Nat)) ∧ w = w' := by
  have hn := refOne_any x w
  have hc := refKind_any x w hx
  cases h : isNan x
  · have ho : one x = x := by simp [one, h]
    rw [ho] at hn
    have hkb : kind x ≠ 9 := by
      have := kindMag_bounds (x % 9223372036854775808)
      simp only [kind, h]; simp; split <;> omega
    have hkb' : (kind x == 9) = false := by simpa using hkb
    have hk : Hid (rank x = if 9223372036854775808 ≤ x then 9223372036854775808 - (x - 9223372036854775808) - 1 else 9223372036854775808 + x) := by show rank x = _; simp [rank, h]
    clear ho hkb
    go_enter Tryd.func39, Tryd.ntmps39
    go_wp2_with (first | (go_at_call 17; refine hn.mono ?_; rintro e w' ⟨rfl, rfl⟩) | (go_at_call 14; refine hc.mono ?_; rintro e w' ⟨rfl, rfl⟩))
    all_goals
      go_ret
      refine ⟨ret_int ?_, rfl⟩
      rw [hk.out]
      clear hn hc h
      simp only [IntKind.wrap_u64, bigGe_iff, bigGe_iff'] at *
      split <;> omega
  · have ho : ((one x : Nat) : Int) = 9221120237041090561 := by simp [one, h]
    have hk9 : kind x = 9 := by simp [kind, h]
    rw [hk9] at hc
    clear ho
    generalize ((one x : Nat) : Int) = c at hn
    have hk : Hid (rank x = 18446744073709551615) := by show rank x = _; simp [rank, h]
    clear hk9
    go_enter Tryd.func39, Tryd.ntmps39
    go_wp2_with (first | (go_at_call 17; refine hn.mono ?_; rintro e w' ⟨rfl, rfl⟩) | (go_at_call 14; refine hc.mono ?_; rintro e w' ⟨rfl, rfl⟩))
    go_ret
    exact ⟨ret_int (by rw [hk.out]; rfl), rfl⟩

end Go.Proofs.YtldhbelinopniaaDoor
