/- The walk of the chapter's examples: they all come to what is said, in whatever memory. -/
import Derived.Test.YtldhbelinopniaaDoorNl
import Derived.Test.YtldhbelinopniaaDoorNf
namespace Tocsin
open Go
/-- Some numbers against themselves. -/
theorem ordEq (x : Nat) (h : isNan x = false) : (FloatKind.f64.format.order x x == some Ordering.eq) = true := by
  have := order_self x
  rw [h] at this
  show (Ieee.double.order x x == some .eq) = true
  simpa using this
@[go_sem] theorem ordEq1 : (FloatKind.f64.format.order 4607182418800017408 4607182418800017408 == some Ordering.eq) = true := ordEq _ (by decide)
@[go_sem] theorem ordEq2 : (FloatKind.f64.format.order 4611686018427387904 4611686018427387904 == some Ordering.eq) = true := ordEq _ (by decide)
@[go_sem] theorem ordEq6 : (FloatKind.f64.format.order 4618441417868443648 4618441417868443648 == some Ordering.eq) = true := ordEq _ (by decide)
@[go_sem] theorem ordEq5 : (FloatKind.f64.format.order 4617315517961601024 4617315517961601024 == some Ordering.eq) = true := ordEq _ (by decide)

def cw3 : CW := ⟨4613937818241073152, by decide, by decide⟩
def cwM : CW := ⟨9223372036854775808, by decide, by decide⟩
def cw0 : CW := ⟨0, by decide, by decide⟩
def cw1 : CW := ⟨4607182418800017408, by decide, by decide⟩
def cw2 : CW := ⟨4611686018427387904, by decide, by decide⟩
theorem toCW_of (x : CW) : toCW x.val = x := CW.ext' (by rw [toCW_val x.lt, x.can])
theorem srt3 : srtW [4613937818241073152, 9223372036854775808, 0] = [cwM, cw0, cw3] := by
  apply srtW_eq
  · show [cwM, cw0, cw3].Perm [toCW cw3.val, toCW cwM.val, toCW cw0.val]
    rw [toCW_of, toCW_of, toCW_of]
    exact (List.perm_append_comm (l₁ := [cwM, cw0]) (l₂ := [cw3]))
  · simp only [List.pairwise_cons, List.mem_cons, List.not_mem_nil, or_false, leW_iff]
    refine ⟨?_, ?_, ?_, by simp⟩
    · rintro a (rfl | rfl) <;> decide
    · rintro a rfl; decide
    · intro a h; cases h
theorem srt2 : srtW [4607182418800017408, 4611686018427387904] = [cw1, cw2] := by
  apply srtW_eq
  · show [cw1, cw2].Perm [toCW cw1.val, toCW cw2.val]
    rw [toCW_of, toCW_of]
  · simp only [List.pairwise_cons, List.mem_cons, List.not_mem_nil, or_false, leW_iff]
    refine ⟨?_, ?_, by simp⟩
    · rintro a rfl; decide
    · intro a h; cases h
end Tocsin
namespace Go.Proofs.YtldhbelinopniaaDoor
open Go.RowKit Go.Lib Tocsin

theorem copysign_any (w : World) : Calls Tryd.prog 36 #[.float .f64 0, .float .f64 13830554455654793216] w fun e w' => e = .returned (.float .f64 9223372036854775808) ∧ w = w' := by
  have e1 : bits .andNot .u64 0 9223372036854775808 = 0 := by decide +kernel
  have e2 : bits .and .u64 13830554455654793216 9223372036854775808 = 9223372036854775808 := by decide +kernel
  have e3 : bits .or .u64 0 9223372036854775808 = 9223372036854775808 := by decide +kernel
  go_enter Tryd.func36, Tryd.ntmps36
  go_wp2
  go_ret
  exact ⟨rfl, rfl⟩

theorem least3 : leastW [4613937818241073152, 9223372036854775808, 0] = 9223372036854775808 := by
  unfold leastW numsW; rw [srt3]; rfl
theorem greatest2 : greatestW [4607182418800017408, 4611686018427387904] = 4611686018427387904 := by
  unfold greatestW numsW; rw [srt2]; rfl

theorem row_new (w : World) (arr : Array Value) (T : TypeId) : (w.alloc (.cells arr T)).heap[w.heap.size]? = some (.cells arr T (0, 0)) := by
  show (w.heap.push _)[w.heap.size]? = _
  simp
theorem floats_new (w : World) (zs : List Nat) (hz : ∀ x ∈ zs, x < 18446744073709551616) (arr : Array Value) (ha : arr = (zs.map (Value.float .f64)).toArray) :
    Floats (w.alloc (.cells arr 22)) (w.alloc (.cells arr 22)).heap.size (some ⟨w.heap.size, 0, none⟩) zs := by
  subst ha
  refine ⟨hz, .inr ⟨w.heap.size, 0, rfl, by simp, fun j hj => ?_⟩⟩
  rw [cell_row (row_new w _ _)]
  simp [List.getD, hj]

/-- A world that came of w, the tables still laid. -/
def From (w W : World) : Prop := Below w.heap.size w W
theorem From.laid {w W : World} (h : From w W) (L : Laid w) : Laid W := L.later h
theorem From.go {w W W' : World} (h : From w W) (hb : Below W.heap.size W W') : From w W' := Below.trans h (hb.mono (Below.size h))
theorem From.drewN {w W : World} (h : From w W) (n : Nat) : From w (W.drewN n) := below_drewN' h n
theorem From.alloc {w W : World} (h : From w W) (o : Obj) : From w (W.alloc o) := Below.alloc h (Below.size h) o

theorem fLeast (W : World) : Calls Tryd.prog 22 #[.slice (some ⟨W.heap.size, 0, none⟩) 3 3] (W.alloc (.cells #[.float .f64 4613937818241073152, .float .f64 9223372036854775808, .float .f64 0] 22)) fun e w' => e = .returned (.float .f64 9223372036854775808) ∧ Below (W.alloc (.cells #[.float .f64 4613937818241073152, .float .f64 9223372036854775808, .float .f64 0] 22)).heap.size (W.alloc (.cells #[.float .f64 4613937818241073152, .float .f64 9223372036854775808, .float .f64 0] 22)) w' := by
  have := least_any _ 3 [4613937818241073152, 9223372036854775808, 0] _ (floats_new W [4613937818241073152, 9223372036854775808, 0] (by decide) #[.float .f64 4613937818241073152, .float .f64 9223372036854775808, .float .f64 0] rfl) (by decide)
  rw [least3] at this
  exact this
theorem fGreatest (W : World) : Calls Tryd.prog 24 #[.slice (some ⟨W.heap.size, 0, none⟩) 2 2] (W.alloc (.cells #[.float .f64 4607182418800017408, .float .f64 4611686018427387904] 22)) fun e w' => e = .returned (.float .f64 4611686018427387904) ∧ Below (W.alloc (.cells #[.float .f64 4607182418800017408, .float .f64 4611686018427387904] 22)).heap.size (W.alloc (.cells #[.float .f64 4607182418800017408, .float .f64 4611686018427387904] 22)) w' := by
  have := greatest_any _ 2 [4607182418800017408, 4611686018427387904] _ (floats_new W [4607182418800017408, 4611686018427387904] (by decide) #[.float .f64 4607182418800017408, .float .f64 4611686018427387904] rfl) (by decide)
  rw [greatest2] at this
  exact this
theorem fSum (W : World) : Calls Tryd.prog 26 #[.slice (some ⟨W.heap.size, 0, none⟩) 1 1] (W.alloc (.cells #[.float .f64 9223372036854775808] 22)) fun e w' => e = .returned (.float .f64 0) ∧ ∃ n, w' = (W.alloc (.cells #[.float .f64 9223372036854775808] 22)).drewN n := by
  have := sum_any _ 1 [9223372036854775808] _ (floats_new W [9223372036854775808] (by decide) #[.float .f64 9223372036854775808] rfl) (by decide)
  rw [show sumW [9223372036854775808] = 0 by decide +kernel] at this
  exact this
theorem fSort (W : World) : Calls Tryd.prog 21 #[.slice (some ⟨W.heap.size, 0, none⟩) 1 1] (W.alloc (.cells #[.float .f64 4607182418800017408] 22)) fun e w' => (∃ g, e = .returned (.slice (some ⟨g, 0, none⟩) 1 1)) ∧ Below (W.alloc (.cells #[.float .f64 4607182418800017408] 22)).heap.size (W.alloc (.cells #[.float .f64 4607182418800017408] 22)) w' := by
  have := sort_any _ 1 [4607182418800017408] _ (floats_new W [4607182418800017408] (by decide) #[.float .f64 4607182418800017408] rfl) (by decide)
  exact this.mono fun e w' ⟨he, _, hb⟩ => ⟨⟨_, he⟩, hb⟩
theorem fInt1 (W : World) : Calls Tryd.prog 29 #[.float .f64 4612811918334230528] W fun e w' => e = .returned (.tuple #[.int .i64 2, .int .i64 0]) ∧ W = w' := by
  have := int_any 4612811918334230528 W (by decide)
  rwa [show toI 4612811918334230528 = (2, 0) by decide +kernel] at this
theorem fInt2 (W : World) : Calls Tryd.prog 29 #[.float .f64 4615063718147915776] W fun e w' => e = .returned (.tuple #[.int .i64 4, .int .i64 0]) ∧ W = w' := by
  have := int_any 4615063718147915776 W (by decide)
  rwa [show toI 4615063718147915776 = (4, 0) by decide +kernel] at this
theorem fInt3 (W : World) : Calls Tryd.prog 29 #[.float .f64 4890946611321988160] W fun e w' => e = .returned (.tuple #[.int .i64 0, .int .i64 4]) ∧ W = w' := by
  have := int_any 4890946611321988160 W (by decide)
  rwa [show toI 4890946611321988160 = (0, 4) by decide +kernel] at this
theorem fParse (W : World) (L : Laid W) : Calls Tryd.prog 32 #[.string ⟨#[51, 102, 102, 48, 48, 48, 48, 48, 48, 48, 48, 48, 48, 48, 48, 48]⟩] W fun e w' => e = .returned (.tuple #[.float .f64 4607182418800017408, .int .i64 0]) ∧ Below W.heap.size W w' := by
  have := parse_any ⟨#[51, 102, 102, 48, 48, 48, 48, 48, 48, 48, 48, 48, 48, 48, 48, 48]⟩ (by decide) W L
  rwa [show parseW (⟨#[51, 102, 102, 48, 48, 48, 48, 48, 48, 48, 48, 48, 48, 48, 48, 48]⟩ : ByteArray).data.toList = (4607182418800017408, 0) by decide +kernel] at this
theorem fPrint (W : World) (L : Laid W) : Calls Tryd.prog 31 #[.float .f64 9223372036854775808] W fun e w' => e = .returned (.string ⟨#[56, 48, 48, 48, 48, 48, 48, 48, 48, 48, 48, 48, 48, 48, 48, 48]⟩) ∧ Below W.heap.size W w' := by
  have := print_any 9223372036854775808 (by decide) W L.shifts L.b5
  rwa [show (dig (Tocsin.one 9223372036854775808) 16).toArray = #[56, 48, 48, 48, 48, 48, 48, 48, 48, 48, 48, 48, 48, 48, 48, 48] by decide +kernel] at this
theorem fKindM (W : World) : Calls Tryd.prog 13 #[.float .f64 9223372036854775808] W fun e w' => e = .returned (.int .i64 4) ∧ W = w' := kind_any 9223372036854775808 W (by decide)
theorem fKind0 (W : World) : Calls Tryd.prog 13 #[.float .f64 0] W fun e w' => e = .returned (.int .i64 5) ∧ W = w' := kind_any 0 W (by decide)
theorem fCmp (W : World) : Calls Tryd.prog 18 #[.float .f64 9223372036854775808, .float .f64 0] W fun e w' => e = .returned (.int .i64 (-1)) ∧ W = w' := compare_any 9223372036854775808 0 W (by decide) (by decide)
theorem fOne (W : World) : Calls Tryd.prog 16 #[.float .f64 4617315517961601024] W fun e w' => e = .returned (.float .f64 4617315517961601024) ∧ W = w' := one_any 4617315517961601024 W
theorem fTimes (W : World) : Calls Tryd.prog 28 #[.float .f64 4611686018427387904, .float .f64 4613937818241073152] W fun e w' => e = .returned (.float .f64 4618441417868443648) ∧ ∃ n, w' = W.drewN n := by
  have := times_any 4611686018427387904 4613937818241073152 W
  rwa [show mulW 4611686018427387904 4613937818241073152 = 4618441417868443648 by decide +kernel] at this

set_option maxHeartbeats 1000000 in
set_option maxRecDepth 100000 in
theorem fixed_any (w : World) (L : Laid w) : Calls Tryd.prog 12 #[] w fun e w' => e = .returned (.bool true) ∧ Below w.heap.size w w' := by
  have HL := Lib.hid L
  have F0 : From w w := Below.refl _ _
  clear L
  go_enter Tryd.func12, Tryd.ntmps12
  go_wp2_with fail
  refine (copysign_any _).mono ?_; rintro e w' ⟨rfl, rfl⟩
  go_wp2_with fail
  refine (fInt1 _).mono ?_; rintro e w' ⟨rfl, rfl⟩
  go_wp2_with fail
  refine (fInt2 _).mono ?_; rintro e w' ⟨rfl, rfl⟩
  go_wp2_with fail
  refine (fInt3 _).mono ?_; rintro e w' ⟨rfl, rfl⟩
  go_wp2_with fail
  refine (fParse _ HL.out).mono ?_; rintro e w1 ⟨rfl, hb⟩
  have F1 : From w w1 := F0.go hb
  clear F0 hb
  go_wp2_with fail
  refine (fKindM _).mono ?_; rintro e w' ⟨rfl, rfl⟩
  go_wp2_with fail
  refine (fCmp _).mono ?_; rintro e w' ⟨rfl, rfl⟩
  go_wp2_with fail
  refine (fLeast _).mono ?_; rintro e w2 ⟨rfl, hb⟩
  have F2 : From w w2 := (F1.alloc _).go hb
  clear F1 hb
  go_wp2_with fail
  refine (fKindM _).mono ?_; rintro e w' ⟨rfl, rfl⟩
  go_wp2_with fail
  refine (fGreatest _).mono ?_; rintro e w3 ⟨rfl, hb⟩
  have F3 : From w w3 := (F2.alloc _).go hb
  clear F2 hb
  go_wp2_with fail
  refine (fSum _).mono ?_; rintro e w4 ⟨rfl, n4, hn⟩
  have F4 : From w w4 := by rw [hn]; exact (F3.alloc _).drewN n4
  clear F3 hn
  go_wp2_with fail
  refine (fKind0 _).mono ?_; rintro e w' ⟨rfl, rfl⟩
  go_wp2_with fail
  refine (fTimes _).mono ?_; rintro e w5 ⟨rfl, n5, hn⟩
  have F5 : From w w5 := by rw [hn]; exact F4.drewN n5
  clear F4 hn
  go_wp2_with fail
  refine (fPrint _ (F5.laid HL.out)).mono ?_; rintro e w6 ⟨rfl, hb⟩
  have F6 : From w w6 := F5.go hb
  clear F5 hb
  go_wp2_with fail
  refine (fSort _).mono ?_; rintro e w7 ⟨⟨g, rfl⟩, hb⟩
  have F7 : From w w7 := (F6.alloc _).go hb
  clear F6 hb
  go_wp2_with fail
  refine (fOne _).mono ?_; rintro e w' ⟨rfl, rfl⟩
  go_wp2_with fail
  go_ret
  exact ⟨rfl, F7⟩

end Go.Proofs.YtldhbelinopniaaDoor
