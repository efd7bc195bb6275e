/- Walks: the order of two numbers, of the program and of the document's answer. -/
import Derived.Test.YtldhbelinopniaaDoorNc
namespace Go.Proofs.YtldhbelinopniaaDoor
open Go.RowKit Tocsin

set_option maxHeartbeats 400000 in
set_option maxRecDepth 10000 in
theorem compare_core (a b : Nat) (w : World) (ka kb : Int) (o : Option Ordering) (c : Int) (hka : Calls Tryd.prog 13 #[.float .f64 a] w fun e w' => e = .returned (.int .i64 ka) ∧ w = w')
    (hkb : Calls Tryd.prog 13 #[.float .f64 b] w fun e w' => e = .returned (.int .i64 kb) ∧ w = w') (ho : FloatKind.f64.format.order a b = o)
    (hc : c = if (decide (ka < kb) || (ka == kb && o == some .lt)) then -1 else if (decide (kb < ka) || o == some .gt) then 1 else 0) :
    Calls Tryd.prog 18 #[.float .f64 a, .float .f64 b] w fun e w' => e = .returned (.int .i64 c) ∧ w = w' := by
  have H : Hid (c = if (decide (ka < kb) || (ka == kb && o == some .lt)) then -1 else if (decide (kb < ka) || o == some .gt) then 1 else 0) := hc
  clear hc
  rcases Int.lt_trichotomy ka kb with h | h | h
  · go_enter Tryd.func18, Tryd.ntmps18
    go_wp2_with fail
    refine hka.mono ?_; rintro e w' ⟨rfl, rfl⟩
    go_wp2_with fail
    refine hkb.mono ?_; rintro e w' ⟨rfl, rfl⟩
    go_wp2_with fail
    go_ret
    exact ⟨ret_int (by rw [H.out, if_pos (by simp [h])]), rfl⟩
  · subst h
    have e1 : ¬ ka < ka := by omega
    cases hl : (o == some Ordering.lt)
    · cases hg : (o == some Ordering.gt)
      all_goals
        go_enter Tryd.func18, Tryd.ntmps18
        go_wp2_with fail
        refine hka.mono ?_; rintro e w' ⟨rfl, rfl⟩
        go_wp2_with fail
        refine hkb.mono ?_; rintro e w' ⟨rfl, rfl⟩
        go_wp2_with fail
        go_ret
        exact ⟨ret_int (by rw [H.out]; simp [hl, hg]), rfl⟩
    · go_enter Tryd.func18, Tryd.ntmps18
      go_wp2_with fail
      refine hka.mono ?_; rintro e w' ⟨rfl, rfl⟩
      go_wp2_with fail
      refine hkb.mono ?_; rintro e w' ⟨rfl, rfl⟩
      go_wp2_with fail
      go_ret
      exact ⟨ret_int (by rw [H.out]; simp [hl]), rfl⟩
  · have e1 : ¬ ka < kb := by omega
    have e2 : (ka == kb) = false := by simp; omega
    go_enter Tryd.func18, Tryd.ntmps18
    go_wp2_with fail
    refine hka.mono ?_; rintro e w' ⟨rfl, rfl⟩
    go_wp2_with fail
    refine hkb.mono ?_; rintro e w' ⟨rfl, rfl⟩
    go_wp2_with fail
    go_ret
    exact ⟨ret_int (by rw [H.out]; simp [h, e1, e2]), rfl⟩

theorem compare_any (a b : Nat) (w : World) (ha : a < 18446744073709551616) (hb : b < 18446744073709551616) :
    Calls Tryd.prog 18 #[.float .f64 a, .float .f64 b] w fun e w' => e = .returned (.int .i64 (cmp a b)) ∧ w = w' := by
  refine compare_core a b w _ _ _ _ (kind_any a w ha) (kind_any b w hb) rfl ?_
  have h1 := place a b ha hb
  show cmp a b = if (decide (kind a < kind b) || (kind a == kind b && Ieee.double.order a b == some .lt)) = true then -1 else if (decide (kind b < kind a) || Ieee.double.order a b == some .gt) = true then 1 else 0
  rw [h1]
  unfold cmp
  by_cases h : rank a < rank b
  · simp [h]
  · rw [place2 a b ha hb h]; simp [h]

set_option maxRecDepth 10000 in
theorem refCompare_any (a b : Nat) (w : World) (ha : a < 18446744073709551616) (hb : b < 18446744073709551616) :
    Calls Tryd.prog 19 #[.float .f64 a, .float .f64 b] w fun e w' => e = .returned (.int .i64 (cmp a b)) ∧ w = w' := by
  have hra := refRank_any a w ha
  have hrb := refRank_any b w hb
  have H : Hid (cmp a b = if rank a < rank b then -1 else if rank b < rank a then 1 else 0) := rfl
  generalize rank a = ra at *
  generalize rank b = rb at *
  rcases Nat.lt_trichotomy ra rb with h | h | h
  · go_enter Tryd.func19, Tryd.ntmps19
    go_wp2_with fail
    refine hra.mono ?_; rintro e w' ⟨rfl, rfl⟩
    go_wp2_with fail
    refine hrb.mono ?_; rintro e w' ⟨rfl, rfl⟩
    go_wp2_with fail
    go_ret
    exact ⟨ret_int (by rw [H.out, if_pos h]), rfl⟩
  · subst h
    go_enter Tryd.func19, Tryd.ntmps19
    go_wp2_with fail
    refine hra.mono ?_; rintro e w' ⟨rfl, rfl⟩
    go_wp2_with fail
    refine hrb.mono ?_; rintro e w' ⟨rfl, rfl⟩
    go_wp2_with fail
    refine hra.mono ?_; rintro e w' ⟨rfl, rfl⟩
    go_wp2_with fail
    refine hrb.mono ?_; rintro e w' ⟨rfl, rfl⟩
    go_wp2_with fail
    go_ret
    exact ⟨ret_int (by rw [H.out]; simp), rfl⟩
  · go_enter Tryd.func19, Tryd.ntmps19
    go_wp2_with fail
    refine hra.mono ?_; rintro e w' ⟨rfl, rfl⟩
    go_wp2_with fail
    refine hrb.mono ?_; rintro e w' ⟨rfl, rfl⟩
    go_wp2_with fail
    refine hra.mono ?_; rintro e w' ⟨rfl, rfl⟩
    go_wp2_with fail
    refine hrb.mono ?_; rintro e w' ⟨rfl, rfl⟩
    go_wp2_with fail
    go_ret
    exact ⟨ret_int (by rw [H.out, if_neg (by omega), if_pos h]), rfl⟩

end Go.Proofs.YtldhbelinopniaaDoor
