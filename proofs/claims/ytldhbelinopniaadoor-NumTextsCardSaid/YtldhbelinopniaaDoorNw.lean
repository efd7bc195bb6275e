/- The walk of the law about texts: it comes to true. -/
import Derived.Test.YtldhbelinopniaaDoorNv
import Derived.Test.YtldhbelinopniaaDoorNm
namespace Go.Proofs.YtldhbelinopniaaDoor
open Go.RowKit Go.Lib Tocsin

set_option maxHeartbeats 1000000 in
set_option maxRecDepth 100000 in
theorem numTexts_core (x o v : Nat) (e : Int) (s t : ByteArray) (w : World) (L : Laid w)
    (c1 : ∀ w, Laid w → Calls Tryd.prog 31 #[.float .f64 x] w fun e w' => e = .returned (.string t) ∧ Below w.heap.size w w')
    (c2 : ∀ w, Laid w → Calls Tryd.prog 32 #[.string t] w fun e w' => e = .returned (.tuple #[.float .f64 o, .int .i64 0]) ∧ Below w.heap.size w w')
    (c3 : ∀ w, Laid w → Calls Tryd.prog 32 #[.string s] w fun e' w' => e' = .returned (.tuple #[.float .f64 v, .int .i64 e]) ∧ Below w.heap.size w w')
    (c4 : ∀ w, Calls Tryd.prog 33 #[.string s] w fun e' w' => e' = .returned (.tuple #[.int .u64 (v : Int), .int .i64 e]) ∧ w = w')
    (c5 : ∀ w, Calls Tryd.prog 34 #[.float .f64 x] w fun e w' => e = .returned (.string t) ∧ Below w.heap.size w w')
    (c6 : ∀ w, Calls Tryd.prog 17 #[.float .f64 x] w fun e w' => e = .returned (.int .u64 (o : Int)) ∧ w = w')
    (c7 : e = 2 ∨ e = 0 ∧ ∀ w, Laid w → Calls Tryd.prog 31 #[.float .f64 v] w fun e w' => e = .returned (.string s) ∧ Below w.heap.size w w') :
    Calls Tryd.prog 7 #[.float .f64 x, .string s] w fun e w' => e = .returned (.bool true) ∧ Below w.heap.size w w' := by
  have c0 := fixed_any w L
  have HL := Lib.hid L
  have b1 := fun w => bits_any o w
  have b2 := fun w => bits_any v w
  have F0 : From w w := Below.refl _ _
  clear L
  rcases c7 with rfl | ⟨rfl, c7⟩
  all_goals
    go_enter Tryd.func7, Tryd.ntmps7
    go_wp2_with fail
    refine c0.mono ?_; rintro e w1 ⟨rfl, hb⟩
    have F1 : From w w1 := F0.go hb
    clear F0 hb c0
    go_wp2_with fail
    refine (c1 _ (F1.laid HL.out)).mono ?_; rintro e w2 ⟨rfl, hb⟩
    have F2 : From w w2 := F1.go hb
    clear F1 hb
    go_wp2_with fail
    refine (c2 _ (F2.laid HL.out)).mono ?_; rintro e w3 ⟨rfl, hb⟩
    have F3 : From w w3 := F2.go hb
    clear F2 hb
    go_wp2_with fail
    refine (c3 _ (F3.laid HL.out)).mono ?_; rintro e w4 ⟨rfl, hb⟩
    have F4 : From w w4 := F3.go hb
    clear F3 hb
    go_wp2_with fail
    refine (c4 _).mono ?_; rintro e w' ⟨rfl, rfl⟩
    go_wp2_with fail
    refine (c5 _).mono ?_; rintro e w5 ⟨rfl, hb⟩
    have F5 : From w w5 := F4.go hb
    clear F4 hb
    go_wp2_with fail
    refine (b1 _).mono ?_; rintro e w' ⟨rfl, rfl⟩
    go_wp2_with fail
    refine (c6 _).mono ?_; rintro e w' ⟨rfl, rfl⟩
    go_wp2_with fail
    refine (b2 _).mono ?_; rintro e w' ⟨rfl, rfl⟩
    go_wp2_with fail
  · go_ret
    exact ⟨rfl, F5⟩
  · refine (c7 _ (F5.laid HL.out)).mono ?_; rintro e w6 ⟨rfl, hb⟩
    have F6 : From w w6 := F5.go hb
    clear F5 hb
    go_wp2_with fail
    go_ret
    exact ⟨rfl, F6⟩

theorem numTexts_any (x : Nat) (s : ByteArray) (w : World) (hx : x < 18446744073709551616) (hs : s.size ≤ 140737488355328) (L : Laid w) :
    Calls Tryd.prog 7 #[.float .f64 x, .string s] w fun e w' => e = .returned (.bool true) ∧ Below w.heap.size w w' := by
  refine numTexts_core x (Tocsin.one x) (parseW s.data.toList).1 (parseW s.data.toList).2 s ⟨(dig (Tocsin.one x) 16).toArray⟩ w L (fun w L => print_any x hx w L.shifts L.b5) ?_ (fun w L => parse_any s hs w L) ?_
    (fun w => refPrint_any x hx w) (fun w => refOne_any x w) ?_
  · intro w L
    have := parse_any ⟨(dig (Tocsin.one x) 16).toArray⟩ (by show (dig (Tocsin.one x) 16).toArray.size ≤ _; simp [dig_length]) w L
    rwa [show (⟨(dig (Tocsin.one x) 16).toArray⟩ : ByteArray).data.toList = dig (Tocsin.one x) 16 from rfl, parse_print x hx] at this
  · intro w
    have := refParse_any s w
    rwa [← parse_ref] at this
  · rcases parse_good s.data.toList with h | ⟨h1, h2⟩
    · exact .inl h
    · refine .inr ⟨h1, fun w L => ?_⟩
      have := print_any (parseW s.data.toList).1 (parse_lt _) w L.shifts L.b5
      rwa [h2] at this
end Go.Proofs.YtldhbelinopniaaDoor
