/- The walks of the laws about kinds, whole numbers, the order and the sign: each comes to true. -/
import Derived.Test.YtldhbelinopniaaDoorNm
namespace Tocsin
open Go Go.RowKit
@[go_sem] theorem cmp_neg (a b : Nat) : wrap64 (-(cmp a b)) = cmp b a := by
  unfold cmp
  by_cases h1 : rank a < rank b
  · have h2 : ¬ rank b < rank a := by omega
    simp [h1, h2, wrap64]
  · by_cases h2 : rank b < rank a
    · simp [h1, h2, wrap64]
    · simp [h1, h2, wrap64]
@[go_sem] theorem cmp_self (a : Nat) : cmp a a = 0 := by simp [cmp]
end Tocsin
namespace Go.Proofs.YtldhbelinopniaaDoor
open Go.RowKit Go.Lib Tocsin

set_option maxHeartbeats 1000000 in
set_option maxRecDepth 100000 in
theorem numKinds_any (a b : Nat) (w : World) (ha : a < 18446744073709551616) (hb : b < 18446744073709551616) (L : Laid w) :
    Calls Tryd.prog 3 #[.float .f64 a, .float .f64 b] w fun e w' => e = .returned (.bool true) ∧ Below w.heap.size w w' := by
  have c0 := fixed_any w L
  have c1 := fun w => kind_any a w ha
  have c2 := fun w => refKind_any a w ha
  have c3 := fun w => one_any a w
  have c4 := fun w => bits_any (Tocsin.one a) w
  have c5 := fun w => refOne_any a w
  have c6 := fun w => compare_any a b w ha hb
  have c7 := fun w => refCompare_any a b w ha hb
  have c8 := fun w => compare_any b a w hb ha
  have c9 := fun w => compare_any a a w ha ha
  clear ha hb L
  go_enter Tryd.func3, Tryd.ntmps3
  go_wp2_with fail
  refine c0.mono ?_; rintro e w1 ⟨rfl, H⟩
  go_wp2_with fail
  refine (c1 _).mono ?_; rintro e w' ⟨rfl, rfl⟩
  go_wp2_with fail
  refine (c2 _).mono ?_; rintro e w' ⟨rfl, rfl⟩
  go_wp2_with fail
  refine (c3 _).mono ?_; rintro e w' ⟨rfl, rfl⟩
  go_wp2_with fail
  refine (c4 _).mono ?_; rintro e w' ⟨rfl, rfl⟩
  go_wp2_with fail
  refine (c5 _).mono ?_; rintro e w' ⟨rfl, rfl⟩
  go_wp2_with fail
  refine (c6 _).mono ?_; rintro e w' ⟨rfl, rfl⟩
  go_wp2_with fail
  refine (c7 _).mono ?_; rintro e w' ⟨rfl, rfl⟩
  go_wp2_with fail
  refine (c8 _).mono ?_; rintro e w' ⟨rfl, rfl⟩
  go_wp2_with fail
  refine (c6 _).mono ?_; rintro e w' ⟨rfl, rfl⟩
  go_wp2_with fail
  refine (c9 _).mono ?_; rintro e w' ⟨rfl, rfl⟩
  go_wp2_with fail
  go_ret
  exact ⟨rfl, H⟩

set_option maxHeartbeats 1000000 in
set_option maxRecDepth 100000 in
theorem numInts_any (x : Nat) (w : World) (hx : x < 18446744073709551616) (L : Laid w) :
    Calls Tryd.prog 6 #[.float .f64 x] w fun e w' => e = .returned (.bool true) ∧ Below w.heap.size w w' := by
  have c0 := fixed_any w L
  have c1 := fun w => int_any x w hx
  have c2 := fun w => refInt_any x w hx
  clear hx L
  go_enter Tryd.func6, Tryd.ntmps6
  go_wp2_with fail
  refine c0.mono ?_; rintro e w1 ⟨rfl, H⟩
  go_wp2_with fail
  refine (c1 _).mono ?_; rintro e w' ⟨rfl, rfl⟩
  go_wp2_with fail
  refine (c2 _).mono ?_; rintro e w' ⟨rfl, rfl⟩
  go_wp2_with fail
  go_ret
  exact ⟨rfl, H⟩

set_option maxHeartbeats 2000000 in
set_option maxRecDepth 100000 in
theorem numOrders_core (a b c : Nat) (w : World) (x y z : Int) (oa ob : Nat) (L : Laid w)
    (hab : ∀ w, Calls Tryd.prog 18 #[.float .f64 a, .float .f64 b] w fun e w' => e = .returned (.int .i64 x) ∧ w = w')
    (hbc : ∀ w, Calls Tryd.prog 18 #[.float .f64 b, .float .f64 c] w fun e w' => e = .returned (.int .i64 y) ∧ w = w')
    (hac : ∀ w, Calls Tryd.prog 18 #[.float .f64 a, .float .f64 c] w fun e w' => e = .returned (.int .i64 z) ∧ w = w')
    (hoa : ∀ w, Calls Tryd.prog 16 #[.float .f64 a] w fun e w' => e = .returned (.float .f64 oa) ∧ w = w')
    (hob : ∀ w, Calls Tryd.prog 16 #[.float .f64 b] w fun e w' => e = .returned (.float .f64 ob) ∧ w = w')
    (hx : x = -1 ∨ x = 0 ∨ x = 1) (hy : y = -1 ∨ y = 0 ∨ y = 1) (hz : z = -1 ∨ z = 0 ∨ z = 1) (hup : x ≤ 0 → y ≤ 0 → ¬ 0 < z) (hdn : 0 ≤ x → 0 ≤ y → ¬ z < 0)
    (hE : Hid ((x == 0) = ((oa : Int) == (ob : Int)))) :
    Calls Tryd.prog 8 #[.float .f64 a, .float .f64 b, .float .f64 c] w fun e w' => e = .returned (.bool true) ∧ Below w.heap.size w w' := by
  have c0 := fixed_any w L
  have c4 := fun w => bits_any oa w
  have c5 := fun w => bits_any ob w
  clear L
  rcases hx with rfl | rfl | rfl <;> rcases hy with rfl | rfl | rfl <;> rcases hz with rfl | rfl | rfl <;> first
    | exact absurd (by decide) (hup (by decide) (by decide))
    | exact absurd (by decide) (hdn (by decide) (by decide))
    | (clear hup hdn
       go_enter Tryd.func8, Tryd.ntmps8
       go_wp2_with fail
       refine c0.mono ?_; rintro e w1 ⟨rfl, H⟩
       go_wp2_with fail
       refine (hab _).mono ?_; rintro e w' ⟨rfl, rfl⟩
       go_wp2_with fail
       refine (hbc _).mono ?_; rintro e w' ⟨rfl, rfl⟩
       go_wp2_with fail
       refine (hac _).mono ?_; rintro e w' ⟨rfl, rfl⟩
       go_wp2_with fail
       refine (hoa _).mono ?_; rintro e w' ⟨rfl, rfl⟩
       go_wp2_with fail
       refine (c4 _).mono ?_; rintro e w' ⟨rfl, rfl⟩
       go_wp2_with fail
       refine (hob _).mono ?_; rintro e w' ⟨rfl, rfl⟩
       go_wp2_with fail
       refine (c5 _).mono ?_; rintro e w' ⟨rfl, rfl⟩
       go_wp2_with fail
       go_ret
       exact ⟨ret_bool (by have := hE.out; revert this; first | decide | simp), H⟩)

theorem cmp_three (a b : Nat) : cmp a b = -1 ∨ cmp a b = 0 ∨ cmp a b = 1 := by
  unfold cmp; split
  · exact .inl rfl
  · split
    · exact .inr (.inr rfl)
    · exact .inr (.inl rfl)
theorem numOrders_any (a b c : Nat) (w : World) (ha : a < 18446744073709551616) (hb : b < 18446744073709551616) (hc : c < 18446744073709551616) (L : Laid w) :
    Calls Tryd.prog 8 #[.float .f64 a, .float .f64 b, .float .f64 c] w fun e w' => e = .returned (.bool true) ∧ Below w.heap.size w w' := by
  have key : ∀ x y, (cmp x y ≤ 0 ↔ rank x ≤ rank y) ∧ (0 ≤ cmp x y ↔ rank y ≤ rank x) ∧ (cmp x y = 0 ↔ rank x = rank y) := fun x y => by
    by_cases h1 : rank x < rank y
    · have e : cmp x y = -1 := by simp [cmp, h1]
      rw [e]; exact ⟨by omega, by omega, by omega⟩
    · by_cases h2 : rank y < rank x
      · have e : cmp x y = 1 := by simp [cmp, h1, h2]
        rw [e]; exact ⟨by omega, by omega, by omega⟩
      · have e : cmp x y = 0 := by simp [cmp, h1, h2]
        rw [e]; exact ⟨by omega, by omega, by omega⟩
  refine numOrders_core a b c w (cmp a b) (cmp b c) (cmp a c) (Tocsin.one a) (Tocsin.one b) L (fun w => compare_any a b w ha hb) (fun w => compare_any b c w hb hc) (fun w => compare_any a c w ha hc) (fun w => one_any a w) (fun w => one_any b w)
    (cmp_three a b) (cmp_three b c) (cmp_three a c) ?_ ?_ ?_
  · intro h1 h2 h3
    have e1 := (key a b).1.1 h1
    have e2 := (key b c).1.1 h2
    have e3 := (key a c).1.2 (by omega)
    omega
  · intro h1 h2 h3
    have e1 := (key a b).2.1.1 h1
    have e2 := (key b c).2.1.1 h2
    have e3 := (key a c).2.1.2 (by omega)
    omega
  · show (cmp a b == 0) = ((Tocsin.one a : Int) == (Tocsin.one b : Int))
    have e1 := (key a b).2.2
    have e2 := one_eq_iff ha hb
    by_cases h : rank a = rank b
    · have h1 := e1.2 h
      have h2 := e2.2 h
      rw [h1, h2]; simp
    · have h1 : ¬ cmp a b = 0 := fun e => h (e1.1 e)
      have h2 : ¬ Tocsin.one a = Tocsin.one b := fun e => h (e2.1 e)
      have e3 : (cmp a b == 0) = false := by rw [beq_eq_false_iff_ne]; exact h1
      have e4 : ((Tocsin.one a : Int) == (Tocsin.one b : Int)) = false := by rw [beq_eq_false_iff_ne]; exact fun e => h2 (by omega)
      rw [e3, e4]
end Go.Proofs.YtldhbelinopniaaDoor
