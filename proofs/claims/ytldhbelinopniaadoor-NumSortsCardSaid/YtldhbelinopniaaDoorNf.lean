/- Walks: the nearest whole number, of the program and of the document's answer. -/
import Derived.Test.YtldhbelinopniaaDoorNc
import Derived.Test.YtldhbelinopniaaDoorNe
import Derived.Lib.Hide
namespace Go.Proofs.YtldhbelinopniaaDoor
open Go.RowKit Tocsin

theorem call_round (x : Nat) (h : isNan x = false) (w : World) : (callFunc 43 #[.float .f64 x]).run Tryd.prog w = .ok (.value (.float .f64 (roundW x))) w := by
  rw [run_callFunc_extern (e := Extern.MathFloor.toIntegral "math.RoundToEven" .even) Tryd.func43 (by kernel_rfl) (by kernel_rfl) (by kernel_rfl) (by kernel_rfl)]
  have hr : ∀ s t, Ieee.double.read x ≠ .nan s t := by
    intro s t hc
    have hf : ¬ 9218868437227405312 < x % 9223372036854775808 := by simpa [isNan] using h
    by_cases hi : x % 9223372036854775808 = 9218868437227405312
    · rw [read_inf x hi] at hc; cases hc
    · obtain ⟨m, k, hm, _⟩ := read_finite x (by omega)
      rw [hm] at hc; cases hc
  unfold Extern.MathFloor.toIntegral roundW
  show (Sem.run _ (match Ieee.double.read x with | .nan s t => _ | d => _) w).andThen _ = _
  cases hd : Ieee.double.read x with
  | nan s t => exact absurd hd (hr s t)
  | infinity s => rfl
  | number s m e => rfl

/-- Two comparisons with great constants, kept closed. -/
def lowB (r : Nat) : Bool := FloatKind.f64.format.order r 14114281232179134464 == some .lt
def highB (r : Nat) : Bool := FloatKind.f64.format.order r 4890909195324358656 == some .gt || FloatKind.f64.format.order r 4890909195324358656 == some .eq
@[go_sem] theorem lowB_eq (r : Nat) : (FloatKind.f64.format.order r 14114281232179134464 == some .lt) = lowB r := rfl
@[go_sem] theorem highB_eq (r : Nat) : (FloatKind.f64.format.order r 4890909195324358656 == some .gt || FloatKind.f64.format.order r 4890909195324358656 == some .eq) = highB r := rfl
theorem lowB_iff (r : Nat) (hr : r < 18446744073709551616) (nr : isNan r = false) : lowB r = decide (rank r < 4332462841530417151) := below_of r hr nr
theorem highB_iff (r : Nat) (hr : r < 18446744073709551616) (nr : isNan r = false) : highB r = decide (14114281232179134464 ≤ rank r) := above_of r hr nr
attribute [irreducible] lowB highB

theorem ret2 {a b c d : Value} (h1 : a = c) (h2 : b = d) : Ending.returned (.tuple #[a, b]) = .returned (.tuple #[c, d]) := by rw [h1, h2]

set_option maxHeartbeats 400000 in
theorem int_any (x : Nat) (w : World) (hx : x < 18446744073709551616) :
    Calls Tryd.prog 29 #[.float .f64 x] w fun e w' => e = .returned (.tuple #[.int .i64 (toI x).1, .int .i64 (toI x).2]) ∧ w = w' := by
  have hn := isNaN_any x w
  cases h : isNan x
  · obtain ⟨nr, lr, hc⟩ := toI_spec x hx h
    have hcall := call_round x h
    rw [h] at hn
    have b1 := lowB_iff _ lr nr
    have b2 := highB_iff _ lr nr
    generalize roundW x = r at *
    rcases hc with ⟨ht, hc⟩ | ⟨n, ht, c1, c2, hn', l1, l2⟩
    · rw [ht]
      by_cases c1 : rank r < 4332462841530417151
      · have b1' : lowB r = true := by rw [b1]; simpa using c1
        clear b1 b2 hc c1 nr lr ht
        go_enter Tryd.func29, Tryd.ntmps29
        go_wp2_with (go_at_call 37; refine hn.mono ?_; rintro e w' ⟨rfl, rfl⟩)
        go_ret2
        exact ⟨rfl, rfl⟩
      · have b1' : lowB r = false := by rw [b1]; simpa using c1
        have b2' : highB r = true := by rw [b2]; rcases hc with hc | hc; exact absurd hc c1; simpa using hc
        clear b1 b2 hc c1 nr lr ht
        go_enter Tryd.func29, Tryd.ntmps29
        go_wp2_with (go_at_call 37; refine hn.mono ?_; rintro e w' ⟨rfl, rfl⟩)
        go_ret2
        exact ⟨rfl, rfl⟩
    · rw [ht]
      have b1' : lowB r = false := by rw [b1]; simpa using c1
      have b2' : highB r = false := by rw [b2]; simpa using c2
      have hcv : ∀ w, (convert 22 2 (.float .f64 r)).run Tryd.prog w = .ok (.int .i64 n) w := fun w =>
        run_convert_float_int w 22 2 .f64 .i64 r n (by kernel_rfl) Tryd.underlying2 (by
          unfold floatToIntVal
          rw [show FloatKind.f64.decode r = Ieee.double.read r from rfl, hn']
          have m1 : IntKind.i64.min = -9223372036854775808 := by decide
          have m2 : IntKind.i64.max = 9223372036854775807 := by decide
          simp only [m1, m2]
          rw [if_pos ⟨l1, l2⟩])
      clear b1 b2 c1 c2 nr lr ht hn' l1 l2
      go_enter Tryd.func29, Tryd.ntmps29
      go_wp2_with (go_at_call 37; refine hn.mono ?_; rintro e w' ⟨rfl, rfl⟩)
      go_ret2
      exact ⟨rfl, rfl⟩
  · have ht : toI x = (0, 3) := by simp [toI, h]
    rw [ht]
    rw [h] at hn
    clear ht
    go_enter Tryd.func29, Tryd.ntmps29
    go_wp2_with (go_at_call 37; refine hn.mono ?_; rintro e w' ⟨rfl, rfl⟩)
    go_ret2
    exact ⟨rfl, rfl⟩

theorem wr_q (N : Nat) (h : N < 9223372036854775808) : wrap64 (N : Int) = N := by unfold wrap64; omega
theorem wr_nq (N : Nat) (h : N < 9223372036854775808) : wrap64 (-wrap64 (N : Int)) = -(N : Int) := by unfold wrap64; omega
theorem wr_s (N : Nat) (h : N < 9223372036854775807) : wrap64 (IntKind.u64.wrap ((N : Int) + 1)) = ((N + 1 : Nat) : Int) := by rw [IntKind.wrap_u64]; unfold wrap64; omega
theorem wr_ns (N : Nat) (h : N < 9223372036854775807) : wrap64 (-wrap64 (IntKind.u64.wrap ((N : Int) + 1))) = -((N + 1 : Nat) : Int) := by rw [IntKind.wrap_u64]; unfold wrap64; omega
theorem wr_least (m : Nat) (y : Int) (hm : m = 4503599627370496) (hy : y = -9223372036854775808) : wrap64 (-wrap64 ((m : Int) * 2048)) = y := by subst hm hy; unfold wrap64; omega

/-- The three calls and readings that every way begins with. -/
structure RefIn (x : Nat) (w : World) (k : Int) (E m : Nat) (b : Bool) : Prop where
  h1 : Calls Tryd.prog 17 #[.float .f64 x] w fun e w' => e = .returned (.int .u64 x) ∧ w = w'
  h2 : Calls Tryd.prog 14 #[.float .f64 x] w fun e w' => e = .returned (.int .i64 k) ∧ w = w'
  k9 : (k == 9) = false
  k1 : (k == 1) = false
  k8 : (k == 8) = false
  hE : ((x : Int) / 4503599627370496) % 2048 = (E : Int)
  hm : bits .or .u64 ((x : Int) % 4503599627370496) 4503599627370496 = (m : Int)
  hb : bigGe 9223372036854775808 (x : Int) = b
  m0 : 4503599627370496 ≤ m
  m1 : m < 9007199254740992

set_option maxHeartbeats 400000 in
set_option maxRecDepth 10000 in
theorem refInt_none (x : Nat) (w : World) (k : Int) (E m : Nat) (b : Bool) (I : RefIn x w k E m b) (he : E < 1022) :
    Calls Tryd.prog 30 #[.float .f64 x] w fun e w' => e = .returned (.tuple #[.int .i64 0, .int .i64 0]) ∧ w = w' := by
  obtain ⟨h1, h2, k9, k1, k8, hE, hm, hb, m0, m1⟩ := I
  clear m0
  go_enter Tryd.func30, Tryd.ntmps30
  go_wp2_with (first | (go_at_call 17; refine h1.mono ?_; rintro e w' ⟨rfl, rfl⟩) | (go_at_call 14; refine h2.mono ?_; rintro e w' ⟨rfl, rfl⟩))
  go_ret2
  exact ⟨rfl, rfl⟩

set_option maxHeartbeats 400000 in
set_option maxRecDepth 10000 in
theorem refInt_great (x : Nat) (w : World) (k : Int) (E m : Nat) (b : Bool) (I : RefIn x w k E m b) (he : 1087 ≤ E) (hl : E < 2048) :
    Calls Tryd.prog 30 #[.float .f64 x] w fun e w' => e = .returned (.tuple #[.int .i64 0, .int .i64 4]) ∧ w = w' := by
  obtain ⟨h1, h2, k9, k1, k8, hE, hm, hb, m0, m1⟩ := I
  clear m0
  go_enter Tryd.func30, Tryd.ntmps30
  go_wp2_with (first | (go_at_call 17; refine h1.mono ?_; rintro e w' ⟨rfl, rfl⟩) | (go_at_call 14; refine h2.mono ?_; rintro e w' ⟨rfl, rfl⟩))
  go_ret2
  exact ⟨rfl, rfl⟩

set_option maxHeartbeats 400000 in
set_option maxRecDepth 10000 in
theorem refInt_shift (x : Nat) (w : World) (k : Int) (E m t N : Nat) (b : Bool) (I : RefIn x w k E m b) (he : 1075 ≤ E) (hl : E < 1086) (ht : ((E : Int) - 1075).toNat = t) (hN : IntKind.u64.wrap ((m : Int) * 2 ^ t) = (N : Int)) (hN1 : N < 9223372036854775808) :
    Calls Tryd.prog 30 #[.float .f64 x] w fun e w' => e = .returned (.tuple #[.int .i64 (if b then -(N : Int) else N), .int .i64 0]) ∧ w = w' := by
  obtain ⟨h1, h2, k9, k1, k8, hE, hm, hb, m0, m1⟩ := I
  have hz : ((E : Int) - 1075 == 11) = false := by simp; omega
  have hN2 := Lib.hid hN1
  clear m0 hN1
  cases b
  · go_enter Tryd.func30, Tryd.ntmps30
    go_wp2_with (first | (go_at_call 17; refine h1.mono ?_; rintro e w' ⟨rfl, rfl⟩) | (go_at_call 14; refine h2.mono ?_; rintro e w' ⟨rfl, rfl⟩))
    go_ret2
    exact ⟨ret2 (congrArg (Value.int .i64) (wr_q N hN2.out)) rfl, rfl⟩
  · go_enter Tryd.func30, Tryd.ntmps30
    go_wp2_with (first | (go_at_call 17; refine h1.mono ?_; rintro e w' ⟨rfl, rfl⟩) | (go_at_call 14; refine h2.mono ?_; rintro e w' ⟨rfl, rfl⟩))
    go_ret2
    exact ⟨ret2 (congrArg (Value.int .i64) (wr_nq N hN2.out)) rfl, rfl⟩

set_option maxHeartbeats 400000 in
set_option maxRecDepth 10000 in
theorem refInt_edge (x : Nat) (w : World) (k : Int) (m : Nat) (b : Bool) (I : RefIn x w k 1086 m b) (hc : ¬ (b = true ∧ m = 4503599627370496)) :
    Calls Tryd.prog 30 #[.float .f64 x] w fun e w' => e = .returned (.tuple #[.int .i64 0, .int .i64 4]) ∧ w = w' := by
  obtain ⟨h1, h2, k9, k1, k8, hE, hm, hb, m0, m1⟩ := I
  obtain ⟨q, hq⟩ : ∃ q, is52B (m : Int) = q := ⟨_, rfl⟩
  have hsh : IntKind.u64.wrap ((m : Int) * 2 ^ 11) = (m : Int) * 2048 := by rw [IntKind.wrap_u64]; omega
  have hb0 : b = false ∨ (b = true ∧ q = false) := by
    cases b
    · exact .inl rfl
    · refine .inr ⟨rfl, ?_⟩
      rw [← hq, is52B_iff']; intro hh; exact hc ⟨rfl, by omega⟩
  clear m0 hc
  rcases hb0 with rfl | ⟨rfl, rfl⟩
  · go_enter Tryd.func30, Tryd.ntmps30
    go_wp2_with (first | (go_at_call 17; refine h1.mono ?_; rintro e w' ⟨rfl, rfl⟩) | (go_at_call 14; refine h2.mono ?_; rintro e w' ⟨rfl, rfl⟩))
    go_ret2
    exact ⟨rfl, rfl⟩
  · go_enter Tryd.func30, Tryd.ntmps30
    go_wp2_with (first | (go_at_call 17; refine h1.mono ?_; rintro e w' ⟨rfl, rfl⟩) | (go_at_call 14; refine h2.mono ?_; rintro e w' ⟨rfl, rfl⟩))
    go_ret2
    exact ⟨rfl, rfl⟩

set_option maxHeartbeats 400000 in
set_option maxRecDepth 10000 in
theorem refInt_least (x : Nat) (w : World) (k : Int) (m : Nat) (I : RefIn x w k 1086 m true) (hc : m = 4503599627370496) (y : Int) (hy : y = -9223372036854775808) :
    Calls Tryd.prog 30 #[.float .f64 x] w fun e w' => e = .returned (.tuple #[.int .i64 y, .int .i64 0]) ∧ w = w' := by
  obtain ⟨h1, h2, k9, k1, k8, hE, hm, hb, m0, m1⟩ := I
  have hq : is52B (m : Int) = true := by rw [is52B_iff]; omega
  have hsh : IntKind.u64.wrap ((m : Int) * 2 ^ 11) = (m : Int) * 2048 := by rw [IntKind.wrap_u64]; omega
  have hw := Lib.hid (wr_least m y hc hy)
  clear m0 hc hy
  go_enter Tryd.func30, Tryd.ntmps30
  go_wp2_with (first | (go_at_call 17; refine h1.mono ?_; rintro e w' ⟨rfl, rfl⟩) | (go_at_call 14; refine h2.mono ?_; rintro e w' ⟨rfl, rfl⟩))
  go_ret2
  exact ⟨ret2 (congrArg (Value.int .i64) hw.out) rfl, rfl⟩

theorem rnd_parts (m d : Nat) : ∃ q r h : Nat, q = m / 2 ^ (d + 1) ∧ r = m % 2 ^ (d + 1) ∧ h = 2 ^ d ∧ m = q * (2 * h) + r ∧ r < 2 * h ∧ rnd m (d + 1) = q + (if h < r ∨ (h = r ∧ q % 2 = 1) then 1 else 0) := by
  refine ⟨_, _, _, rfl, rfl, rfl, ?_, ?_, ?_⟩
  · have := Nat.div_add_mod m (2 ^ (d + 1)); rw [show 2 * 2 ^ d = 2 ^ (d + 1) by rw [Nat.pow_succ]; omega, Nat.mul_comm]; omega
  · have := Nat.mod_lt m (Nat.two_pow_pos (d + 1)); rw [Nat.pow_succ] at this; rw [Nat.pow_succ]; omega
  · unfold rnd
    rw [Nat.pow_succ]
    generalize m % (2 ^ d * 2) = r
    generalize m / (2 ^ d * 2) = q
    generalize 2 ^ d = h
    congr 1
    by_cases c1 : h < r
    · rw [if_pos (by omega), if_pos (.inl c1)]
    · by_cases c2 : h = r ∧ q % 2 = 1
      · rw [if_pos (by omega), if_pos (.inr c2)]
      · rw [if_neg (by omega), if_neg (by omega)]

set_option maxHeartbeats 800000 in
set_option maxRecDepth 10000 in
theorem refInt_cut_upP (x : Nat) (w : World) (k : Int) (E m d q r h : Nat) (I : RefIn x w k E m false) (he : 1022 ≤ E) (hl : E < 1075) (ht : (-((E : Int) - 1075)).toNat = d + 1)
    (hq : (m : Int) / 2 ^ (d + 1) = (q : Int)) (hr : IntKind.u64.wrap ((m : Int) - IntKind.u64.wrap ((q : Int) * 2 ^ (d + 1))) = (r : Int)) (hh : IntKind.u64.wrap (2 ^ d) = (h : Int)) (qb : Hid (q < 4503599627370496))
    (par : Int) (_hem : ((q : Int)).tmod 2 = par) (c1 : h < r) :
    Calls Tryd.prog 30 #[.float .f64 x] w fun e w' => e = .returned (.tuple #[.int .i64 (((q + 1 : Nat) : Int)), .int .i64 0]) ∧ w = w' := by
  obtain ⟨h1, h2, k9, k1, k8, hE, hm, hb, m0, m1⟩ := I
  have hz : ((E : Int) - 1075 == 11) = false := by simp; omega
  clear m0
  go_enter Tryd.func30, Tryd.ntmps30
  go_wp2_with (first | (go_at_call 17; refine h1.mono ?_; rintro e w' ⟨rfl, rfl⟩) | (go_at_call 14; refine h2.mono ?_; rintro e w' ⟨rfl, rfl⟩))
  go_ret2
  exact ⟨ret2 (congrArg (Value.int .i64) (wr_s q (Nat.lt_trans qb.out (by decide)))) rfl, rfl⟩

set_option maxHeartbeats 800000 in
set_option maxRecDepth 10000 in
theorem refInt_cut_tieP (x : Nat) (w : World) (k : Int) (E m d q r h : Nat) (I : RefIn x w k E m false) (he : 1022 ≤ E) (hl : E < 1075) (ht : (-((E : Int) - 1075)).toNat = d + 1)
    (hq : (m : Int) / 2 ^ (d + 1) = (q : Int)) (hr : IntKind.u64.wrap ((m : Int) - IntKind.u64.wrap ((q : Int) * 2 ^ (d + 1))) = (r : Int)) (hh : IntKind.u64.wrap (2 ^ d) = (h : Int)) (qb : Hid (q < 4503599627370496))
    (par : Int) (_hem : ((q : Int)).tmod 2 = par) (c1 : r = h) (hpar : (par == 1) = true) :
    Calls Tryd.prog 30 #[.float .f64 x] w fun e w' => e = .returned (.tuple #[.int .i64 (((q + 1 : Nat) : Int)), .int .i64 0]) ∧ w = w' := by
  obtain ⟨h1, h2, k9, k1, k8, hE, hm, hb, m0, m1⟩ := I
  have hz : ((E : Int) - 1075 == 11) = false := by simp; omega
  clear m0
  go_enter Tryd.func30, Tryd.ntmps30
  go_wp2_with (first | (go_at_call 17; refine h1.mono ?_; rintro e w' ⟨rfl, rfl⟩) | (go_at_call 14; refine h2.mono ?_; rintro e w' ⟨rfl, rfl⟩))
  go_ret2
  exact ⟨ret2 (congrArg (Value.int .i64) (wr_s q (Nat.lt_trans qb.out (by decide)))) rfl, rfl⟩

set_option maxHeartbeats 800000 in
set_option maxRecDepth 10000 in
theorem refInt_cut_evenP (x : Nat) (w : World) (k : Int) (E m d q r h : Nat) (I : RefIn x w k E m false) (he : 1022 ≤ E) (hl : E < 1075) (ht : (-((E : Int) - 1075)).toNat = d + 1)
    (hq : (m : Int) / 2 ^ (d + 1) = (q : Int)) (hr : IntKind.u64.wrap ((m : Int) - IntKind.u64.wrap ((q : Int) * 2 ^ (d + 1))) = (r : Int)) (hh : IntKind.u64.wrap (2 ^ d) = (h : Int)) (qb : Hid (q < 4503599627370496))
    (par : Int) (_hem : ((q : Int)).tmod 2 = par) (c1 : r = h) (hpar : (par == 1) = false) :
    Calls Tryd.prog 30 #[.float .f64 x] w fun e w' => e = .returned (.tuple #[.int .i64 ((q : Int)), .int .i64 0]) ∧ w = w' := by
  obtain ⟨h1, h2, k9, k1, k8, hE, hm, hb, m0, m1⟩ := I
  have hz : ((E : Int) - 1075 == 11) = false := by simp; omega
  clear m0
  go_enter Tryd.func30, Tryd.ntmps30
  go_wp2_with (first | (go_at_call 17; refine h1.mono ?_; rintro e w' ⟨rfl, rfl⟩) | (go_at_call 14; refine h2.mono ?_; rintro e w' ⟨rfl, rfl⟩))
  go_ret2
  exact ⟨ret2 (congrArg (Value.int .i64) (wr_q q (Nat.lt_trans qb.out (by decide)))) rfl, rfl⟩

set_option maxHeartbeats 800000 in
set_option maxRecDepth 10000 in
theorem refInt_cut_downP (x : Nat) (w : World) (k : Int) (E m d q r h : Nat) (I : RefIn x w k E m false) (he : 1022 ≤ E) (hl : E < 1075) (ht : (-((E : Int) - 1075)).toNat = d + 1)
    (hq : (m : Int) / 2 ^ (d + 1) = (q : Int)) (hr : IntKind.u64.wrap ((m : Int) - IntKind.u64.wrap ((q : Int) * 2 ^ (d + 1))) = (r : Int)) (hh : IntKind.u64.wrap (2 ^ d) = (h : Int)) (qb : Hid (q < 4503599627370496))
    (par : Int) (_hem : ((q : Int)).tmod 2 = par) (c1 : r < h) :
    Calls Tryd.prog 30 #[.float .f64 x] w fun e w' => e = .returned (.tuple #[.int .i64 ((q : Int)), .int .i64 0]) ∧ w = w' := by
  obtain ⟨h1, h2, k9, k1, k8, hE, hm, hb, m0, m1⟩ := I
  have hz : ((E : Int) - 1075 == 11) = false := by simp; omega
  clear m0
  go_enter Tryd.func30, Tryd.ntmps30
  go_wp2_with (first | (go_at_call 17; refine h1.mono ?_; rintro e w' ⟨rfl, rfl⟩) | (go_at_call 14; refine h2.mono ?_; rintro e w' ⟨rfl, rfl⟩))
  go_ret2
  exact ⟨ret2 (congrArg (Value.int .i64) (wr_q q (Nat.lt_trans qb.out (by decide)))) rfl, rfl⟩

set_option maxHeartbeats 800000 in
set_option maxRecDepth 10000 in
theorem refInt_cut_upN (x : Nat) (w : World) (k : Int) (E m d q r h : Nat) (I : RefIn x w k E m true) (he : 1022 ≤ E) (hl : E < 1075) (ht : (-((E : Int) - 1075)).toNat = d + 1)
    (hq : (m : Int) / 2 ^ (d + 1) = (q : Int)) (hr : IntKind.u64.wrap ((m : Int) - IntKind.u64.wrap ((q : Int) * 2 ^ (d + 1))) = (r : Int)) (hh : IntKind.u64.wrap (2 ^ d) = (h : Int)) (qb : Hid (q < 4503599627370496))
    (par : Int) (_hem : ((q : Int)).tmod 2 = par) (c1 : h < r) :
    Calls Tryd.prog 30 #[.float .f64 x] w fun e w' => e = .returned (.tuple #[.int .i64 (-((q + 1 : Nat) : Int)), .int .i64 0]) ∧ w = w' := by
  obtain ⟨h1, h2, k9, k1, k8, hE, hm, hb, m0, m1⟩ := I
  have hz : ((E : Int) - 1075 == 11) = false := by simp; omega
  clear m0
  go_enter Tryd.func30, Tryd.ntmps30
  go_wp2_with (first | (go_at_call 17; refine h1.mono ?_; rintro e w' ⟨rfl, rfl⟩) | (go_at_call 14; refine h2.mono ?_; rintro e w' ⟨rfl, rfl⟩))
  go_ret2
  exact ⟨ret2 (congrArg (Value.int .i64) (wr_ns q (Nat.lt_trans qb.out (by decide)))) rfl, rfl⟩

set_option maxHeartbeats 800000 in
set_option maxRecDepth 10000 in
theorem refInt_cut_tieN (x : Nat) (w : World) (k : Int) (E m d q r h : Nat) (I : RefIn x w k E m true) (he : 1022 ≤ E) (hl : E < 1075) (ht : (-((E : Int) - 1075)).toNat = d + 1)
    (hq : (m : Int) / 2 ^ (d + 1) = (q : Int)) (hr : IntKind.u64.wrap ((m : Int) - IntKind.u64.wrap ((q : Int) * 2 ^ (d + 1))) = (r : Int)) (hh : IntKind.u64.wrap (2 ^ d) = (h : Int)) (qb : Hid (q < 4503599627370496))
    (par : Int) (_hem : ((q : Int)).tmod 2 = par) (c1 : r = h) (hpar : (par == 1) = true) :
    Calls Tryd.prog 30 #[.float .f64 x] w fun e w' => e = .returned (.tuple #[.int .i64 (-((q + 1 : Nat) : Int)), .int .i64 0]) ∧ w = w' := by
  obtain ⟨h1, h2, k9, k1, k8, hE, hm, hb, m0, m1⟩ := I
  have hz : ((E : Int) - 1075 == 11) = false := by simp; omega
  clear m0
  go_enter Tryd.func30, Tryd.ntmps30
  go_wp2_with (first | (go_at_call 17; refine h1.mono ?_; rintro e w' ⟨rfl, rfl⟩) | (go_at_call 14; refine h2.mono ?_; rintro e w' ⟨rfl, rfl⟩))
  go_ret2
  exact ⟨ret2 (congrArg (Value.int .i64) (wr_ns q (Nat.lt_trans qb.out (by decide)))) rfl, rfl⟩

set_option maxHeartbeats 800000 in
set_option maxRecDepth 10000 in
theorem refInt_cut_evenN (x : Nat) (w : World) (k : Int) (E m d q r h : Nat) (I : RefIn x w k E m true) (he : 1022 ≤ E) (hl : E < 1075) (ht : (-((E : Int) - 1075)).toNat = d + 1)
    (hq : (m : Int) / 2 ^ (d + 1) = (q : Int)) (hr : IntKind.u64.wrap ((m : Int) - IntKind.u64.wrap ((q : Int) * 2 ^ (d + 1))) = (r : Int)) (hh : IntKind.u64.wrap (2 ^ d) = (h : Int)) (qb : Hid (q < 4503599627370496))
    (par : Int) (_hem : ((q : Int)).tmod 2 = par) (c1 : r = h) (hpar : (par == 1) = false) :
    Calls Tryd.prog 30 #[.float .f64 x] w fun e w' => e = .returned (.tuple #[.int .i64 (-(q : Int)), .int .i64 0]) ∧ w = w' := by
  obtain ⟨h1, h2, k9, k1, k8, hE, hm, hb, m0, m1⟩ := I
  have hz : ((E : Int) - 1075 == 11) = false := by simp; omega
  clear m0
  go_enter Tryd.func30, Tryd.ntmps30
  go_wp2_with (first | (go_at_call 17; refine h1.mono ?_; rintro e w' ⟨rfl, rfl⟩) | (go_at_call 14; refine h2.mono ?_; rintro e w' ⟨rfl, rfl⟩))
  go_ret2
  exact ⟨ret2 (congrArg (Value.int .i64) (wr_nq q (Nat.lt_trans qb.out (by decide)))) rfl, rfl⟩

set_option maxHeartbeats 800000 in
set_option maxRecDepth 10000 in
theorem refInt_cut_downN (x : Nat) (w : World) (k : Int) (E m d q r h : Nat) (I : RefIn x w k E m true) (he : 1022 ≤ E) (hl : E < 1075) (ht : (-((E : Int) - 1075)).toNat = d + 1)
    (hq : (m : Int) / 2 ^ (d + 1) = (q : Int)) (hr : IntKind.u64.wrap ((m : Int) - IntKind.u64.wrap ((q : Int) * 2 ^ (d + 1))) = (r : Int)) (hh : IntKind.u64.wrap (2 ^ d) = (h : Int)) (qb : Hid (q < 4503599627370496))
    (par : Int) (_hem : ((q : Int)).tmod 2 = par) (c1 : r < h) :
    Calls Tryd.prog 30 #[.float .f64 x] w fun e w' => e = .returned (.tuple #[.int .i64 (-(q : Int)), .int .i64 0]) ∧ w = w' := by
  obtain ⟨h1, h2, k9, k1, k8, hE, hm, hb, m0, m1⟩ := I
  have hz : ((E : Int) - 1075 == 11) = false := by simp; omega
  clear m0
  go_enter Tryd.func30, Tryd.ntmps30
  go_wp2_with (first | (go_at_call 17; refine h1.mono ?_; rintro e w' ⟨rfl, rfl⟩) | (go_at_call 14; refine h2.mono ?_; rintro e w' ⟨rfl, rfl⟩))
  go_ret2
  exact ⟨ret2 (congrArg (Value.int .i64) (wr_nq q (Nat.lt_trans qb.out (by decide)))) rfl, rfl⟩

theorem or_sig (x : Nat) : bits .or .u64 ((x : Int) % 4503599627370496) 4503599627370496 = (sig x : Int) := by
  have h1 : ((x : Int) % 4503599627370496) = ((x % 4503599627370496 : Nat) : Int) := by omega
  rw [h1, show (4503599627370496 : Int) = ((4503599627370496 : Nat) : Int) from rfl, u64_or_nat _ _ (by omega) (by omega)]
  unfold sig
  rw [Nat.or_comm, nat_join 52 4503599627370496 (x % 4503599627370496) (by decide) (by omega)]
  omega

theorem refInt_any (x : Nat) (w : World) (hx : x < 18446744073709551616) :
    Calls Tryd.prog 30 #[.float .f64 x] w fun e w' => e = .returned (.tuple #[.int .i64 (toI x).1, .int .i64 (toI x).2]) ∧ w = w' := by
  have h1 := refOne_any x w
  have h2 := refKind_any x w hx
  cases h : isNan x
  · have hf : ¬ 9218868437227405312 < x % 9223372036854775808 := by simpa [isNan] using h
    have ho : one x = x := by simp [one, h]
    rw [ho] at h1
    by_cases hi : x % 9223372036854775808 = 9218868437227405312
    · have ht : toI x = (0, 4) := by simp [toI, h, hi]
      rw [ht]
      have hk : kind x = if 9223372036854775808 ≤ x then 1 else 8 := by simp [kind, h, hi, kindMag]
      by_cases hs : 9223372036854775808 ≤ x
      · rw [hk, if_pos hs] at h2
        clear hk ht ho hi hf
        go_enter Tryd.func30, Tryd.ntmps30
        go_wp2_with (first | (go_at_call 17; refine h1.mono ?_; rintro e w' ⟨rfl, rfl⟩) | (go_at_call 14; refine h2.mono ?_; rintro e w' ⟨rfl, rfl⟩))
        go_ret2
        exact ⟨rfl, rfl⟩
      · rw [hk, if_neg hs] at h2
        clear hk ht ho hi hf hs
        go_enter Tryd.func30, Tryd.ntmps30
        go_wp2_with (first | (go_at_call 17; refine h1.mono ?_; rintro e w' ⟨rfl, rfl⟩) | (go_at_call 14; refine h2.mono ?_; rintro e w' ⟨rfl, rfl⟩))
        go_ret2
        exact ⟨rfl, rfl⟩
    · obtain ⟨s0, s1⟩ := sig_bounds x
      have kb : 2 ≤ kind x ∧ kind x ≤ 7 := by
        have := kindMag_bounds (x % 9223372036854775808)
        have h8 : kindMag (x % 9223372036854775808) ≤ 7 := by
          unfold kindMag; rw [if_neg hi]; split <;> (try split) <;> omega
        unfold kind; rw [h]; simp only [Bool.false_eq_true, if_false]; split <;> omega
      have I : ∀ b, bigGe 9223372036854775808 (x : Int) = b → RefIn x w (kind x) (x / 4503599627370496 % 2048) (sig x) b := fun b hb =>
        ⟨h1, h2, by simp; omega, by simp; omega, by simp; omega, by omega, or_sig x, hb, s0, s1⟩
      have hE : ex x = ((x / 4503599627370496 % 2048 : Nat) : Int) - 1075 := rfl
      have hbs : ∀ b, bigGe 9223372036854775808 (x : Int) = b → (b = true ↔ 9223372036854775808 ≤ x) := fun b hb => by
        cases b
        · rw [bigGe_iff'] at hb; simp; omega
        · rw [bigGe_iff] at hb; simp; omega
      clear h1 h2 kb
      obtain ⟨b, hb⟩ : ∃ b, bigGe 9223372036854775808 (x : Int) = b := ⟨_, rfl⟩
      have hI := I b hb
      have hB := hbs b hb
      clear I hbs hb
      generalize hEE : x / 4503599627370496 % 2048 = E at *
      have hE2 : E < 2048 := by omega
      by_cases c1 : E < 1022
      · have ht : toI x = (0, 0) := by simp only [toI, h, hi, Bool.false_eq_true, if_false]; rw [if_pos (by omega)]
        rw [ht]; exact refInt_none x w _ E _ b hI c1
      · by_cases c2 : 1087 ≤ E
        · have ht : toI x = (0, 4) := by simp only [toI, h, hi, Bool.false_eq_true, if_false]; rw [if_neg (by omega), if_pos (by omega)]
          rw [ht]; exact refInt_great x w _ E _ b hI c2 hE2
        · by_cases c3 : 1075 ≤ E
          · by_cases c4 : E = 1086
            · subst c4
              by_cases c5 : 9223372036854775808 ≤ x ∧ sig x = 4503599627370496
              · have ht : toI x = (sgn x (sig x * 2 ^ (ex x).toNat), 0) := by
                  simp only [toI, h, hi, Bool.false_eq_true, if_false]; rw [if_neg (by omega), if_neg (by omega), if_pos (by omega), if_neg (fun k => k.2 c5)]
                have hbt : b = true := hB.2 c5.1
                subst hbt
                have hv : sgn x (sig x * 2 ^ (ex x).toNat) = -9223372036854775808 := by
                  unfold sgn; rw [if_pos c5.1, c5.2, hE]; decide
                rw [ht]
                exact refInt_least x w _ _ hI c5.2 _ hv
              · have ht : toI x = (0, 4) := by
                  simp only [toI, h, hi, Bool.false_eq_true, if_false]; rw [if_neg (by omega), if_neg (by omega), if_pos (by omega), if_pos ⟨by omega, c5⟩]
                rw [ht]
                exact refInt_edge x w _ _ b hI (fun k => c5 ⟨hB.1 k.1, k.2⟩)
            · have ht : toI x = (sgn x (sig x * 2 ^ (ex x).toNat), 0) := by
                simp only [toI, h, hi, Bool.false_eq_true, if_false]; rw [if_neg (by omega), if_neg (by omega), if_pos (by omega), if_neg (by omega)]
              rw [ht]
              have hle : sig x * 2 ^ (ex x).toNat < 9223372036854775808 := by
                have h6 : 2 ^ (ex x).toNat ≤ 2 ^ 10 := Nat.pow_le_pow_right (by decide) (by omega)
                have h7 : sig x * 2 ^ (ex x).toNat ≤ sig x * 2 ^ 10 := Nat.mul_le_mul_left _ h6
                omega
              have := refInt_shift x w _ E _ (ex x).toNat (sig x * 2 ^ (ex x).toNat) b hI c3 (by omega) (by omega) (by
                rw [show ((sig x : Nat) : Int) * 2 ^ (ex x).toNat = ((sig x * 2 ^ (ex x).toNat : Nat) : Int) by simp, IntKind.wrap_u64]; omega) hle
              refine this.mono ?_
              rintro e w' ⟨rfl, rfl⟩
              refine ⟨ret2 (congrArg (Value.int .i64) ?_) rfl, rfl⟩
              unfold sgn
              cases b
              · rw [if_neg (by simp), if_neg (fun k => by have := hB.2 k; cases this)]
              · rw [if_pos rfl, if_pos (hB.1 rfl)]
          · obtain ⟨d, hd⟩ : ∃ d, 1075 - E = d + 1 := ⟨1075 - E - 1, by omega⟩
            have ht : toI x = (sgn x (rnd (sig x) (d + 1)), 0) := by
              simp only [toI, h, hi, Bool.false_eq_true, if_false]; rw [if_neg (by omega), if_neg (by omega), if_neg (by omega), show (-ex x).toNat = d + 1 by omega]
            rw [ht]
            obtain ⟨q, r, g, hq, hr, hg, hm, hlt, hrn⟩ := rnd_parts (sig x) d
            have hg2 : 2 ^ (d + 1) = 2 * g := by rw [hg, Nat.pow_succ]; omega
            have hgp : 0 < g := by rw [hg]; exact Nat.two_pow_pos d
            have hgb : g ≤ 4503599627370496 := by
              rw [hg]
              have : 2 ^ d ≤ 2 ^ 52 := Nat.pow_le_pow_right (by decide) (by omega)
              omega
            have qb : q < 4503599627370496 := by
              have : q * 2 ≤ q * (2 * g) := Nat.mul_le_mul_left _ (by omega)
              omega
            have aq : ((sig x : Nat) : Int) / 2 ^ (d + 1) = (q : Int) := by
              rw [show (2 : Int) ^ (d + 1) = ((2 ^ (d + 1) : Nat) : Int) by simp, ← Int.natCast_ediv, ← hq]
            have ar : IntKind.u64.wrap (((sig x : Nat) : Int) - IntKind.u64.wrap ((q : Int) * 2 ^ (d + 1))) = (r : Int) := by
              rw [show (q : Int) * 2 ^ (d + 1) = ((q * (2 * g) : Nat) : Int) by rw [← hg2]; simp]
              rw [IntKind.wrap_u64, IntKind.wrap_u64]
              generalize q * (2 * g) = z at *
              omega
            have ah : IntKind.u64.wrap (2 ^ d) = (g : Int) := by
              rw [show (2 : Int) ^ d = ((2 ^ d : Nat) : Int) by simp, ← hg, IntKind.wrap_u64]; omega
            have hem : ((q : Int)).tmod 2 = ((q % 2 : Nat) : Int) := by rw [Int.tmod_eq_emod_of_nonneg (by omega)]; omega
            have hgo : ∀ N : Nat, rnd (sig x) (d + 1) = N → sgn x (rnd (sig x) (d + 1)) = (if b then -(N : Int) else N) := fun N hN => by
              rw [hN]; unfold sgn
              cases b
              · rw [if_neg (fun k => by have := hB.2 k; cases this), if_neg (by simp)]
              · rw [if_pos (hB.1 rfl), if_pos rfl]
            rcases Nat.lt_trichotomy g r with c5 | c5 | c5
            · rw [hgo (q + 1) (by rw [hrn, if_pos (.inl c5)])]
              cases b
              · exact refInt_cut_upP x w _ E _ d q r g hI (by omega) (by omega) (by omega) aq ar ah (Lib.hid qb) _ rfl c5
              · exact refInt_cut_upN x w _ E _ d q r g hI (by omega) (by omega) (by omega) aq ar ah (Lib.hid qb) _ rfl c5
            · by_cases c6 : q % 2 = 1
              · rw [hgo (q + 1) (by rw [hrn, if_pos (.inr ⟨c5, c6⟩)])]
                cases b
                · exact refInt_cut_tieP x w _ E _ d q r g hI (by omega) (by omega) (by omega) aq ar ah (Lib.hid qb) _ hem c5.symm (by rw [c6]; rfl)
                · exact refInt_cut_tieN x w _ E _ d q r g hI (by omega) (by omega) (by omega) aq ar ah (Lib.hid qb) _ hem c5.symm (by rw [c6]; rfl)
              · rw [hgo q (by rw [hrn, if_neg (by omega)]; rfl)]
                cases b
                · exact refInt_cut_evenP x w _ E _ d q r g hI (by omega) (by omega) (by omega) aq ar ah (Lib.hid qb) _ hem c5.symm (by rw [show q % 2 = 0 by omega]; rfl)
                · exact refInt_cut_evenN x w _ E _ d q r g hI (by omega) (by omega) (by omega) aq ar ah (Lib.hid qb) _ hem c5.symm (by rw [show q % 2 = 0 by omega]; rfl)
            · rw [hgo q (by rw [hrn, if_neg (by omega)]; rfl)]
              cases b
              · exact refInt_cut_downP x w _ E _ d q r g hI (by omega) (by omega) (by omega) aq ar ah (Lib.hid qb) _ rfl c5
              · exact refInt_cut_downN x w _ E _ d q r g hI (by omega) (by omega) (by omega) aq ar ah (Lib.hid qb) _ rfl c5
  · have ht : toI x = (0, 3) := by simp [toI, h]
    have hk : kind x = 9 := by simp [kind, h]
    rw [hk] at h2
    rw [ht]
    clear ht hk
    generalize ((one x : Nat) : Int) = c at h1
    go_enter Tryd.func30, Tryd.ntmps30
    go_wp2_with (first | (go_at_call 17; refine h1.mono ?_; rintro e w' ⟨rfl, rfl⟩) | (go_at_call 14; refine h2.mono ?_; rintro e w' ⟨rfl, rfl⟩))
    go_ret2
    exact ⟨rfl, rfl⟩

end Go.Proofs.YtldhbelinopniaaDoor
