/- The walks of the laws about kinds, whole numbers, the order and the sign: each comes to true. -/
import Derived.Test.YtldhbelinopniaaDoorNm
namespace Tocsin
open Go Go.RowKit
@[go_sem] theorem cmp_neg (a b : Nat) : wrap64 (-(cmp a b)) = cmp b a := by
  unfold cmp
  by_cases h1 : rank a < rank b
  · have h2 : ¬ rank b < rank a := by omega
    simp [h1, h2, wrap64]
  · by_cases h2 : rank b < rank a
    · simp [h1, h2, wrap64]
    · simp [h1, h2, wrap64]
@[go_sem] theorem cmp_self (a : Nat) : cmp a a = 0 := by simp [cmp]
end Tocsin
namespace Go.Proofs.YtldhbelinopniaaDoor
open Go.RowKit Go.Lib Tocsin

set_option maxHeartbeats 1000000 in
set_option maxRecDepth 100000 in
theorem numKinds_any (a b : Nat) (w : World) (ha : a < 18446744073709551616) (hb : b < 18446744073709551616) (L : Laid w) :
    Calls Tryd.prog 3 #[.float .f64 a, .float .f64 b] w fun e w' => e = .returned (.bool true) ∧ Below w.heap.size w w' := by
  have c0 := fixed_any w L
  have c1 := fun w => kind_any a w ha
  have c2 := fun w => refKind_any a w ha
  have c3 := fun w => one_any a w
  have c4 := fun w => bits_any (Tocsin.one a) w
  have c5 := fun w => refOne_any a w
  have c6 := fun w => compare_any a b w ha hb
  have c7 := fun w => refCompare_any a b w ha hb
  have c8 := fun w => compare_any b a w hb ha
  have c9 := fun w => compare_any a a w ha ha
  clear ha hb L
  go_enter Tryd.func3, Tryd.ntmps3
  go_wp2_with fail
  refine c0.mono ?_; rintro e w1 ⟨rfl, H⟩
  go_wp2_with fail
  refine (c1 _).mono ?_; rintro e w' ⟨rfl, rfl⟩
  go_wp2_with fail
  refine (c2 _).mono ?_; rintro e w' ⟨rfl, rfl⟩
  go_wp2_with fail
  refine (c3 _).mono ?_; rintro e w' ⟨rfl, rfl⟩
  go_wp2_with fail
  refine (c4 _).mono ?_; rintro e w' ⟨rfl, rfl⟩
  go_wp2_with fail
  refine (c5 _).mono ?_; rintro e w' ⟨rfl, rfl⟩
  go_wp2_with fail
  refine (c6 _).mono ?_; rintro e w' ⟨rfl, rfl⟩
  go_wp2_with fail
  refine (c7 _).mono ?_; rintro e w' ⟨rfl, rfl⟩
  go_wp2_with fail
  refine (c8 _).mono ?_; rintro e w' ⟨rfl, rfl⟩
  go_wp2_with fail
  refine (c6 _).mono ?_; rintro e w' ⟨rfl, rfl⟩
  go_wp2_with fail
  refine (c9 _).mono ?_; rintro e w' ⟨rfl, rfl⟩
  go_wp2_with fail
  go_ret
  exact ⟨rfl, H⟩

set_option maxHeartbeats 1000000 in
set_option maxRecDepth 100000 in
theorem numInts_any (x : Nat) (w : World) (hx : x < 18446744073709551616) (L : Laid w) :
    Calls Tryd.prog 6 #[.float .f64 x] w fun e w' => e = .returned (.bool true) ∧ Below w.heap.size w w' := by
  have c0 := fixed_any w L
  have c1 := fun w => int_any x w hx
  have c2 := fun w => refInt_any x w hx
  clear hx L
  go_enter Tryd.func6, Tryd.ntmps6
  go_wp2_with fail
  refine c0.mono ?_; rintro e w1 ⟨rfl, H⟩
  go_wp2_with fail
  refine (c1 _).mono ?_; rintro e w' ⟨rfl, rfl⟩
  go_wp2_with fail
  refine (c2 _).mono ?_; rintro e w' ⟨rfl, rfl⟩
  go_wp2_with fail
  go_ret
  exact ⟨rfl, H⟩

set_option maxHeartbeats 2000000 in
set_option maxRecDepth 100000 in
theorem numOrders_core (a b c : Nat) (w : World) (x y z : Int) (oa ob : Nat) (L : Laid w)
    (hab : ∀ w, Calls Tryd.prog 18 #[.float .f64 a, .float .f64 b] w fun e w' => e = .returned (.int .i64 x) ∧ w = w')
    (hbc : ∀ w, Calls Tryd.prog 18 #[.float .f64 b, .float .f64 c] w fun e w' => e = .returned (.int .i64 y) ∧ w = w')
    (hac : ∀ w, Calls Tryd.prog 18 #[.float .f64 a, .float .f64 c] w fun e w' => e = .returned (.int .i64 z) ∧ w = w')
    (hoa : ∀ w, Calls Tryd.prog 16 #[.float .f64 a] w fun e w' => e = .returned (.float .f64 oa) ∧ w = w')
    (hob : ∀ w, Calls Tryd.prog 16 #[.float .f64 b] w fun e w' => e = .returned (.float .f64 ob) ∧ w = w')
    (hx : x = -1 ∨ x = 0 ∨ x = 1) (hy : y = -1 ∨ y = 0 ∨ y = 1) (hz : z = -1 ∨ z = 0 ∨ z = 1) (hup : x ≤ 0 → y ≤ 0 → ¬ 0 < z) (hdn : 0 ≤ x → 0 ≤ y → ¬ z < 0)
    (hE : Hid ((x == 0) = ((oa : Int) == (ob : Int)))) :
    Calls Tryd.prog 8 #[.float .f64 a, .float .f64 b, .float .f64 c] w fun e w' => e = .returned (.bool true) ∧ Below w.heap.size w w' := by
  have c0 := fixed_any w L
  have c4 := fun w => bits_any oa w
  have c5 := fun w => bits_any ob w
  clear L
  rcases hx with rfl | rfl | rfl <;> rcases hy with rfl | rfl | rfl <;> rcases hz with rfl | rfl | rfl <;> first
    | exact absurd (by decide) (hup (by decide) (by decide))
    | exact absurd (by decide) (hdn (by decide) (by decide))
    | (clear hup hdn
       go_enter Tryd.func8, Tryd.ntmps8
       go_wp2_with fail
       refine c0.mono ?_; rintro e w1 ⟨rfl, H⟩
       go_wp2_with fail
       refine (hab _).mono ?_; rintro e w' ⟨rfl, rfl⟩
       go_wp2_with fail
       refine (hbc _).mono ?_; rintro e w' ⟨rfl, rfl⟩
       go_wp2_with fail
       refine (hac _).mono ?_; rintro e w' ⟨rfl, rfl⟩
       go_wp2_with fail
       refine (hoa _).mono ?_; rintro e w' ⟨rfl, rfl⟩
       go_wp2_with fail
       refine (c4 _).mono ?_; rintro e w' ⟨rfl, rfl⟩
       go_wp2_with fail
       refine (hob _).mono ?_; rintro e w' ⟨rfl, rfl⟩
       go_wp2_with fail
       refine (c5 _).mono ?_; rintro e w' ⟨rfl, rfl⟩
       go_wp2_with fail
       go_ret
       exact ⟨ret_bool (by have := hE.out; revert this; first | decide | simp), H⟩)

end Go.Proofs.YtldhbelinopniaaDoor
