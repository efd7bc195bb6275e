/- The walk of the law about sums and products: it comes to true. -/
import Derived.Test.YtldhbelinopniaaDoorNm
import Derived.Test.YtldhbelinopniaaDoorNi
namespace Go.Proofs.YtldhbelinopniaaDoor
open Go.RowKit Go.Lib Tocsin

theorem Floats.later {w w' : World} {a : Option Addr} {zs : List Nat} (h : Floats w w.heap.size a zs) (hb : Below w.heap.size w w') : Floats w' w'.heap.size a zs := by
  refine ⟨h.1, ?_⟩
  rcases h.2 with h0 | ⟨b, off, e, hlt, hc⟩
  · exact .inl h0
  · exact .inr ⟨b, off, e, Nat.lt_of_lt_of_le hlt hb.size, fun j hj => by rw [hb.cell (p := ⟨b, off + j, none⟩) hlt]; exact hc j hj⟩

set_option maxHeartbeats 1000000 in
set_option maxRecDepth 100000 in
theorem numSums_any (a : Option Addr) (cap : Nat) (zs : List Nat) (x y : Nat) (w : World) (h : Floats w w.heap.size a zs) (hreach : zs.length * 8 ≤ 140737488351232) (L : Laid w) :
    Calls Tryd.prog 5 #[.slice a zs.length cap, .float .f64 x, .float .f64 y] w fun e w' => e = .returned (.bool true) ∧ Below w.heap.size w w' := by
  have c0 := fixed_any w L
  have hF := Lib.hid h
  have c1 := fun w (h : Floats w w.heap.size a zs) => sum_any a cap zs w h hreach
  have c2 := fun w (h : Floats w w.heap.size a zs) => refSum_any a cap zs w h hreach
  have c3 := fun w => bits_any (sumW zs) w
  have c4 := fun w => times_any x y w
  have c5 := fun w => times_any y x w
  rw [mulW_comm y x] at c5
  have c6 := fun w => bits_any (mulW x y) w
  have c7 : ∀ w, ∃ r w', (binOp .mul 22 (.float .f64 x) (.float .f64 y)).run Tryd.prog w = .ok (.float .f64 r) w' ∧ (∀ w', Calls Tryd.prog 17 #[.float .f64 r] w' fun e w'' => e = .returned (.int .u64 (mulW x y : Nat)) ∧ w' = w'') ∧ ∃ n, w' = w.drewN n := fun w => by
    obtain ⟨r, w', h1, -, h2, h3⟩ := run_mul (P := Tryd.prog) 22 x y w
    refine ⟨r, w', h1, fun w' => ?_, h3⟩
    have := refOne_any r w'
    rwa [h2.out] at this
  clear L h hreach
  generalize mulW x y = m at *
  generalize sumW zs = s at *
  generalize zs.length = len at *
  have F0 : From w w := Below.refl _ _
  go_enter Tryd.func5, Tryd.ntmps5
  go_wp2_with fail
  refine c0.mono ?_; rintro e w1 ⟨rfl, hb⟩
  have F1 : From w w1 := F0.go hb
  clear F0 hb c0
  go_wp2_with fail
  refine (c1 _ (hF.out.later F1)).mono ?_; rintro e w2 ⟨rfl, n2, hn⟩
  have F2 : From w w2 := by rw [hn]; exact F1.drewN n2
  clear F1 hn
  go_wp2_with fail
  refine (c3 _).mono ?_; rintro e w' ⟨rfl, rfl⟩
  go_wp2_with fail
  refine (c2 _ (hF.out.later F2)).mono ?_; rintro e w3 ⟨rfl, n3, hn⟩
  have F3 : From w w3 := by rw [hn]; exact F2.drewN n3
  clear F2 hn
  go_wp2_with fail
  refine (c4 _).mono ?_; rintro e w4 ⟨rfl, n4, hn⟩
  have F4 : From w w4 := by rw [hn]; exact F3.drewN n4
  clear F3 hn
  obtain ⟨r, w5, hrun, hone, n5, hn⟩ := c7 w4
  have F5 : From w w5 := by rw [hn]; exact F4.drewN n5
  clear F4 hn c7
  go_wp2_with fail
  refine (c6 _).mono ?_; rintro e w' ⟨rfl, rfl⟩
  go_wp2_with fail
  refine (hone _).mono ?_; rintro e w' ⟨rfl, rfl⟩
  go_wp2_with fail
  refine (c4 _).mono ?_; rintro e w6 ⟨rfl, n6, hn⟩
  have F6 : From w w6 := by rw [hn]; exact F5.drewN n6
  clear F5 hn
  go_wp2_with fail
  refine (c6 _).mono ?_; rintro e w' ⟨rfl, rfl⟩
  go_wp2_with fail
  refine (c5 _).mono ?_; rintro e w7 ⟨rfl, n7, hn⟩
  have F7 : From w w7 := by rw [hn]; exact F6.drewN n7
  clear F6 hn
  go_wp2_with fail
  refine (c6 _).mono ?_; rintro e w' ⟨rfl, rfl⟩
  go_wp2_with fail
  go_ret
  exact ⟨rfl, F7⟩
end Go.Proofs.YtldhbelinopniaaDoor
