/- The walk of the law about whole numbers: it comes to true. -/
import Derived.Test.YtldhbelinopniaaDoorNs
import Derived.Laws.Cover2
namespace Tocsin
open Go Ieee
open Go.RowKit (Hid)
theorem toI_one (x : Nat) : toI (Tocsin.one x) = toI x := by
  unfold Tocsin.one
  split
  · rename_i h
    have h2 : toI x = (0, 3) := by unfold toI; rw [if_pos h]
    rw [h2]; decide +kernel
  · rfl
theorem add_quarter (q : Int) (hq : q.natAbs ≤ 1125899906842624) : toI (addW (fw q) 4598175219545276416) = (q, 0) := by
  by_cases h0 : q = 0
  · subst h0
    obtain ⟨x, e, h⟩ := toI_quarter0
    unfold addW; rw [e]; exact h
  · obtain ⟨x, e, h⟩ := toI_quarter q h0 hq
    unfold addW; rw [e]; exact h
theorem sum_fw (q : Int) (hq : q.natAbs < 9007199254740992) : sumW [fw q, 0] = fw q := by
  have h := fw_add_zero q hq
  have e1 : addW 0 (fw q) = fw q := by unfold addW; rw [h.2]
  have e2 : addW (fw q) 0 = fw q := by unfold addW; rw [h.1]
  show addW (addW 0 (fw q)) 0 = fw q
  rw [e1, e2]
end Tocsin
namespace Go.Proofs.YtldhbelinopniaaDoor
open Go.RowKit Go.Lib Tocsin

set_option maxHeartbeats 1000000 in
set_option maxRecDepth 100000 in
theorem numWholes_core (n q : Int) (f : Nat) (w : World) (_h1 : -9223372036854775808 ≤ n) (_h2 : n ≤ 9223372036854775807) (L : Laid w) (kd : Int)
    (hq : n / 2048 = q) (hf : floatOfInt .f64 q = f)
    (hi : ∀ w, Calls Tryd.prog 29 #[.float .f64 f] w fun e w' => e = .returned (.tuple #[.int .i64 q, .int .i64 0]) ∧ w = w')
    (hk : ∀ w, Calls Tryd.prog 13 #[.float .f64 f] w fun e w' => e = .returned (.int .i64 kd) ∧ w = w')
    (hr : ∀ w, Calls Tryd.prog 14 #[.float .f64 f] w fun e w' => e = .returned (.int .i64 kd) ∧ w = w')
    (hs : ∀ W : World, Calls Tryd.prog 26 #[.slice (some ⟨W.heap.size, 0, none⟩) 2 2] (W.alloc (.cells #[.float .f64 f, .float .f64 0] 22)) fun e w' => e = .returned (.float .f64 f) ∧ ∃ n, w' = (W.alloc (.cells #[.float .f64 f, .float .f64 0] 22)).drewN n)
    (h0 : ∀ w, (binOp .add 22 (.float .f64 f) (.float .f64 0)).run Tryd.prog w = .ok (.float .f64 f) w)
    (v c : Int) (hq4 : (1125899906842624 < q) ∨ (q ≤ 1125899906842624 ∧ q < -1125899906842624) ∨ (q ≤ 1125899906842624 ∧ ¬ q < -1125899906842624 ∧ v = q ∧ c = 0))
    (ha : ∀ w, ∃ r w', (binOp .add 22 (.float .f64 f) (.float .f64 4598175219545276416)).run Tryd.prog w = .ok (.float .f64 r) w' ∧ (∀ w, Calls Tryd.prog 29 #[.float .f64 r] w fun e w' => e = .returned (.tuple #[.int .i64 v, .int .i64 c]) ∧ w = w') ∧ ∃ n, w' = w.drewN n) :
    Calls Tryd.prog 11 #[.int .i64 n] w fun e w' => e = .returned (.bool true) ∧ Below w.heap.size w w' := by
  have c0 := fixed_any w L
  have F0 : From w w := Below.refl _ _
  clear L
  rcases hq4 with hq4 | ⟨hq4, hq5⟩ | ⟨hq4, hq5, rfl, rfl⟩
  all_goals
    go_enter Tryd.func11, Tryd.ntmps11
    go_wp2_with fail
    refine c0.mono ?_; rintro e w1 ⟨rfl, hb⟩
    have F1 : From w w1 := F0.go hb
    clear F0 hb c0
    obtain ⟨r, w2, hrun, hone, n2, hn⟩ := ha w1
    have F2 : From w w2 := by rw [hn]; exact F1.drewN n2
    clear F1 hn ha
    go_wp2_with fail
    refine (hi _).mono ?_; rintro e w' ⟨rfl, rfl⟩
    go_wp2_with fail
    refine (hone _).mono ?_; rintro e w' ⟨rfl, rfl⟩
    go_wp2_with fail
    refine (hr _).mono ?_; rintro e w' ⟨rfl, rfl⟩
    go_wp2_with fail
    refine (hk _).mono ?_; rintro e w' ⟨rfl, rfl⟩
    go_wp2_with fail
    refine (hs _).mono ?_; rintro e w3 ⟨rfl, n3, hn⟩
    have F3 : From w w3 := by rw [hn]; exact (F2.alloc _).drewN n3
    clear F2 hn
    go_wp2_with fail
    have h0' := h0 w3
    clear h0
    go_wp2_with fail
    go_ret
    exact ⟨rfl, F3⟩

theorem numWholes_any (n : Int) (w : World) (h1 : -9223372036854775808 ≤ n) (h2 : n ≤ 9223372036854775807) (L : Laid w) :
    Calls Tryd.prog 11 #[.int .i64 n] w fun e w' => e = .returned (.bool true) ∧ Below w.heap.size w w' := by
  have hq : (n / 2048).natAbs < 9007199254740992 := by omega
  have hf := fw_lt (n / 2048) hq
  refine numWholes_core n (n / 2048) (fw (n / 2048)) w h1 h2 L (kind (fw (n / 2048))) rfl rfl ?_ (fun w => kind_any _ w hf) (fun w => refKind_any _ w hf) ?_ ?_
    (toI (addW (fw (n / 2048)) 4598175219545276416)).1 (toI (addW (fw (n / 2048)) 4598175219545276416)).2 ?_ ?_
  · intro w
    have := int_any (fw (n / 2048)) w hf
    rwa [toI_fw _ hq] at this
  · intro W
    have := sum_any _ 2 [fw (n / 2048), 0] _ (floats_new W [fw (n / 2048), 0] (by simp [hf]) #[.float .f64 (fw (n / 2048)), .float .f64 0] rfl) (by show 2 * 8 ≤ _; decide)
    rwa [sum_fw _ hq] at this
  · intro w
    exact run_float_arith w .add _ .f64 _ _ _ (fw_add_zero _ hq).1
  · by_cases g1 : (1125899906842624 : Int) < n / 2048
    · exact .inl g1
    · by_cases g2 : n / 2048 < (-1125899906842624 : Int)
      · exact .inr (.inl ⟨by omega, g2⟩)
      · refine .inr (.inr ⟨by omega, g2, ?_, ?_⟩) <;> rw [add_quarter _ (by omega)]
  · intro w
    obtain ⟨r, w', e1, e2, e3, e4⟩ := run_add (P := Tryd.prog) 22 (fw (n / 2048)) 4598175219545276416 w
    refine ⟨r, w', e1, fun w => ?_, e4⟩
    have := int_any r w e2
    rwa [← toI_one r, e3.out] at this
end Go.Proofs.YtldhbelinopniaaDoor
