/- Sums and products: what the model's arithmetic gives up to the NaN's bits; the walks of Sum, Times and of the document's Sum. -/
import Derived.Test.YtldhbelinopniaaDoorNh
import Derived.Test.YtldhbelinopniaaDoorNe
import Derived.Deep.Draws
namespace Tocsin
open Go Ieee
open Go.RowKit (Hid)

/-- The one form of a sum, of a product. -/
def addW (x y : Nat) : Nat := match double.add x y with | some r => r | none => 9221120237041090561
def mulW (x y : Nat) : Nat := match double.mul x y with | some r => r | none => 9221120237041090561

theorem nearest_num (neg : Bool) (m : Nat) (p : Int) : isNan (double.nearest neg m p) = false ∧ double.nearest neg m p < 18446744073709551616 := by
  have h : ∃ r, r ≤ 9218868437227405312 ∧ double.nearest neg m p = (if neg then 9223372036854775808 else 0) + r := by
    unfold Format.nearest
    split
    · exact ⟨0, by decide, word_eq _ _⟩
    · refine ⟨_, ?_, word_eq _ _⟩
      rw [fmt_infRung]; exact Nat.min_le_right _ _
  obtain ⟨r, hr, h⟩ := h
  rw [h]
  simp only [isNan, decide_eq_false_iff_not]
  cases neg <;> simp <;> omega

theorem write_num (d : Datum) (h : d.isNaN = false) : isNan (double.write d) = false ∧ double.write d < 18446744073709551616 := by
  cases d with
  | number neg m p => exact nearest_num neg m p
  | infinity neg =>
    show isNan (double.word neg double.infRung) = false ∧ double.word neg double.infRung < _
    rw [word_eq, fmt_infRung]; cases neg <;> decide
  | nan neg t => cases h

theorem sum_num {a b d : Datum} (h : a.sum b = some d) : d.isNaN = false := by
  unfold Datum.sum at h
  split at h <;> (try split at h) <;> simp at h <;> (try (subst h; rfl))
theorem product_num {a b d : Datum} (h : a.product b = some d) : d.isNaN = false := by
  unfold Datum.product at h
  split at h <;> (try split at h) <;> simp at h <;> (try (subst h; rfl))

theorem add_num {x y r : Nat} (h : double.add x y = some r) : isNan r = false ∧ r < 18446744073709551616 := by
  unfold Format.add at h
  rw [Option.map_eq_some_iff] at h
  obtain ⟨d, hd, rfl⟩ := h
  exact write_num d (sum_num hd)
theorem mul_num {x y r : Nat} (h : double.mul x y = some r) : isNan r = false ∧ r < 18446744073709551616 := by
  unfold Format.mul at h
  rw [Option.map_eq_some_iff] at h
  obtain ⟨d, hd, rfl⟩ := h
  exact write_num d (product_num hd)

theorem addW_lt (x y : Nat) : addW x y < 18446744073709551616 := by
  unfold addW; cases h : double.add x y with
  | none => decide
  | some r => exact (add_num h).2
theorem one_addW (x y : Nat) : one (addW x y) = addW x y := by
  unfold addW; cases h : double.add x y with
  | none => decide
  | some r => show one r = r; unfold one; rw [(add_num h).1]; rfl
theorem one_mulW (x y : Nat) : one (mulW x y) = mulW x y := by
  unfold mulW; cases h : double.mul x y with
  | none => decide
  | some r => show one r = r; unfold one; rw [(mul_num h).1]; rfl

theorem add_nan (x y : Nat) (h : isNan x = true) : double.add x y = none := by
  obtain ⟨t, ht⟩ := read_nan x (by simpa [isNan] using h)
  unfold Format.add; rw [ht]; rfl
/-- A sum hangs on its first part's one form alone. -/
theorem addW_one (x y : Nat) : addW (one x) y = addW x y := by
  cases h : isNan x
  · rw [show one x = x by simp [one, h]]
  · have h2 : isNan (one x) = true := by rw [isNan_one, h]
    unfold addW; rw [add_nan x y h, add_nan _ y h2]

theorem product_comm (a b : Datum) : a.product b = b.product a := by
  cases a <;> cases b <;> simp [Datum.product, Bool.xor_comm, Nat.mul_comm, Int.add_comm]
theorem mulW_comm (x y : Nat) : mulW x y = mulW y x := by unfold mulW Format.mul; rw [product_comm]

/-- The sum of all, from the front. -/
def sumW (l : List Nat) : Nat := l.foldl addW 0
theorem foldl_addW_lt (l : List Nat) (s : Nat) (h : s < 18446744073709551616) : l.foldl addW s < 18446744073709551616 := by
  induction l generalizing s with
  | nil => exact h
  | cons x r ih => exact ih _ (addW_lt _ _)
theorem sumW_snoc (l : List Nat) (x : Nat) : sumW (l ++ [x]) = addW (sumW l) x := by unfold sumW; simp
theorem sumW_lt (l : List Nat) : sumW l < 18446744073709551616 := foldl_addW_lt l 0 (by decide)
theorem one_sumW (l : List Nat) : one (sumW l) = sumW l := by
  rcases List.eq_nil_or_concat l with rfl | ⟨r, x, rfl⟩
  · decide
  · rw [List.concat_eq_append, sumW_snoc, one_addW]

section
variable {P : Program}
/-- A NaN whose bits the tape gives is a NaN. -/
theorem nan_cut (q : Question) (t x y : Nat) (hq : q = .nanBits .f64 x y) : isNan (q.cut t) = true ∧ q.cut t < 18446744073709551616 := by
  subst hq
  have h : ((Question.nanBits .f64 x y).cut t) = (t % 2) * 9223372036854775808 + 9218868437227405312 + 1 + (t / 2) % 4503599627370495 := rfl
  rw [h]
  have hm : (t / 2) % 4503599627370495 < 4503599627370495 := Nat.mod_lt _ (by decide)
  generalize (t / 2) % 4503599627370495 = c at *
  rcases Nat.mod_two_eq_zero_or_one t with h2 | h2 <;> rw [h2] <;> exact ⟨decide_eq_true (by omega), by omega⟩

theorem run_add (T : TypeId) (x y : Nat) (w : World) : ∃ r w', (binOp .add T (.float .f64 x) (.float .f64 y)).run P w = .ok (.float .f64 r) w' ∧ r < 18446744073709551616 ∧ Hid (one r = addW x y) ∧ ∃ n, w' = w.drewN n := by
  cases h : double.add x y with
  | some r =>
    refine ⟨r, w, run_float_arith w .add T .f64 x y r h, (add_num h).2, ?_, 0, rfl⟩
    show one r = addW x y
    unfold addW; rw [h]; unfold one; rw [(add_num h).1]; rfl
  | none =>
    have hc := nan_cut (.nanBits .f64 x y) (w.tape w.drawn (.nanBits .f64 x y)) x y rfl
    refine ⟨(Question.nanBits .f64 x y).cut (w.tape w.drawn (.nanBits .f64 x y)), w.drewN 1, ?_, hc.2, ?_, 1, rfl⟩
    · have h' : FloatKind.f64.format.add x y = none := h
      simp [binOp, Op.floatArith, h', choose, Sem.run, Question.forced, World.drewN]
    · show one _ = addW x y
      unfold addW; rw [h]; unfold one; rw [hc.1]; rfl

theorem run_mul (T : TypeId) (x y : Nat) (w : World) : ∃ r w', (binOp .mul T (.float .f64 x) (.float .f64 y)).run P w = .ok (.float .f64 r) w' ∧ r < 18446744073709551616 ∧ Hid (one r = mulW x y) ∧ ∃ n, w' = w.drewN n := by
  cases h : double.mul x y with
  | some r =>
    refine ⟨r, w, run_float_arith w .mul T .f64 x y r h, (mul_num h).2, ?_, 0, rfl⟩
    show one r = mulW x y
    unfold mulW; rw [h]; unfold one; rw [(mul_num h).1]; rfl
  | none =>
    have hc := nan_cut (.nanBits .f64 x y) (w.tape w.drawn (.nanBits .f64 x y)) x y rfl
    refine ⟨(Question.nanBits .f64 x y).cut (w.tape w.drawn (.nanBits .f64 x y)), w.drewN 1, ?_, hc.2, ?_, 1, rfl⟩
    · have h' : FloatKind.f64.format.mul x y = none := h
      simp [binOp, Op.floatArith, h', choose, Sem.run, Question.forced, World.drewN]
    · show one _ = mulW x y
      unfold mulW; rw [h]; unfold one; rw [hc.1]; rfl
end

end Tocsin
namespace Go.Proofs.YtldhbelinopniaaDoor
open Go.RowKit Go.Lib Tocsin

theorem times_any (x y : Nat) (w : World) : Calls Tryd.prog 28 #[.float .f64 x, .float .f64 y] w fun e w' => e = .returned (.float .f64 (mulW x y)) ∧ ∃ n, w' = w.drewN n := by
  obtain ⟨r, w1, hrun, hr, ho, n, hn⟩ := run_mul (P := Tryd.prog) 22 x y w
  have hN := Lib.hid hn
  have h1 := one_any r w1
  clear hn
  go_enter Tryd.func28, Tryd.ntmps28
  go_wp2_with (go_at_call 16; refine h1.mono ?_; rintro e w' ⟨rfl, rfl⟩)
  go_ret
  exact ⟨ret_float ho.out, n, hN.out⟩

set_option maxHeartbeats 400000 in
theorem sum_some (b off len cap : Nat) (zs : List Nat) (w : World) (hlen : zs.length = len)
    (hc : ∀ j, j < len → w.cell? ⟨b, off + j, none⟩ = some (.float .f64 (zs.getD j 0))) (hreach : len * 8 ≤ 140737488351232) :
    Calls Tryd.prog 26 #[.slice (some ⟨b, off, none⟩) len cap] w fun e w' => e = .returned (.float .f64 (sumW zs)) ∧ ∃ n, w' = w.drewN n := by
  go_enter Tryd.func26, Tryd.ntmps26
  go_wp2_with fail
  go_loopw [3, 8] (fun s i wr => ∃ k : Nat, k ≤ len ∧ i = .int .i64 k ∧ s = .float .f64 (sumW (zs.take k)) ∧ ∃ n, wr = w.drewN n) (fun _ i _ => len - (intOf i).toNat)
  case atStart => exact ⟨0, Nat.zero_le _, rfl, rfl, 0, rfl⟩
  case round =>
    obtain ⟨k, hk, rfl, rfl, n, hw⟩ := hrel
    by_cases hlt : k < len
    · have hcell : wr.cell? ⟨b, off + k, none⟩ = some (.float .f64 (zs.getD k 0)) := by rw [hw]; exact hc k hlt
      obtain ⟨r, w1, hrun, hr, ho, m, hm⟩ := run_add (P := Tryd.prog) 22 (sumW (zs.take k)) (zs.getD k 0) wr
      have hs : Hid (sumW (zs.take (k + 1)) = Tocsin.one r) := by
        show _ = _
        rw [ho.out, List.take_succ_eq_append_getElem (by omega), sumW_snoc]; simp [List.getD, show k < zs.length by omega]
      have h1 := one_any r w1
      have HW : Hid (∃ n, w1 = w.drewN n) := ⟨n + m, by rw [hm, hw]; simp⟩
      generalize sumW (zs.take k) = s at *
      generalize zs.getD k 0 = x at *
      clear hc hm ho hr hlen hw
      go_wp2_with (go_at_call 16; refine h1.mono ?_; rintro e w' ⟨rfl, rfl⟩)
      go_roundw
      case rel => exact ⟨k + 1, by omega, by go_num, by rw [hs.out], HW.out⟩
      case measure => simp [intOf]; omega
    · have hs : Hid (sumW zs = sumW (zs.take k)) := by show _ = _; rw [List.take_of_length_le (by omega)]
      have HW : Hid (∃ n, wr = w.drewN n) := ⟨n, hw⟩
      clear hc hw
      generalize sumW (zs.take k) = s at *
      go_wp2
      go_ret
      exact ⟨ret_float hs.out.symm, HW.out⟩

theorem sum_none (a : Option Addr) (cap : Nat) (w : World) : Calls Tryd.prog 26 #[.slice a 0 cap] w fun e w' => e = .returned (.float .f64 (sumW [])) ∧ ∃ n, w' = w.drewN n := by
  go_enter Tryd.func26, Tryd.ntmps26
  go_wp2_with fail
  refine wp_loop_rounds 1 ?_
  rw [rounds_succ]
  go_wp2
  go_ret
  exact ⟨rfl, 0, rfl⟩

theorem sum_any (a : Option Addr) (cap : Nat) (zs : List Nat) (w : World) (h : Floats w w.heap.size a zs) (hreach : zs.length * 8 ≤ 140737488351232) :
    Calls Tryd.prog 26 #[.slice a zs.length cap] w fun e w' => e = .returned (.float .f64 (sumW zs)) ∧ ∃ n, w' = w.drewN n := by
  obtain ⟨_, h0 | ⟨b, off, rfl, _, hc⟩⟩ := h
  · subst h0; exact sum_none a cap w
  · exact sum_some b off _ cap zs w rfl hc hreach

set_option maxHeartbeats 400000 in
theorem refSum_some (b off len cap : Nat) (zs : List Nat) (w : World) (hlen : zs.length = len)
    (hc : ∀ j, j < len → w.cell? ⟨b, off + j, none⟩ = some (.float .f64 (zs.getD j 0))) (hreach : len * 8 ≤ 140737488351232) :
    Calls Tryd.prog 27 #[.slice (some ⟨b, off, none⟩) len cap] w fun e w' => e = .returned (.int .u64 (sumW zs : Nat)) ∧ ∃ n, w' = w.drewN n := by
  go_enter Tryd.func27, Tryd.ntmps27
  go_wp2_with fail
  go_loopw [3, 4] (fun s i wr => ∃ k r : Nat, k ≤ len ∧ i = .int .i64 k ∧ s = .float .f64 r ∧ Tocsin.one r = sumW (zs.take k) ∧ ∃ n, wr = w.drewN n) (fun _ i _ => len - (intOf i).toNat)
  case atStart => exact ⟨0, 0, Nat.zero_le _, rfl, rfl, rfl, 0, rfl⟩
  case round =>
    obtain ⟨k, s, hk, rfl, rfl, hs0, n, hw⟩ := hrel
    by_cases hlt : k < len
    · have hcell : wr.cell? ⟨b, off + k, none⟩ = some (.float .f64 (zs.getD k 0)) := by rw [hw]; exact hc k hlt
      obtain ⟨r, w1, hrun, hr, ho, m, hm⟩ := run_add (P := Tryd.prog) 22 s (zs.getD k 0) wr
      have hs : Hid (Tocsin.one r = sumW (zs.take (k + 1))) := by
        show _ = _
        rw [ho.out, List.take_succ_eq_append_getElem (by omega), sumW_snoc, ← hs0, addW_one]; simp [List.getD, show k < zs.length by omega]
      have HW : Hid (∃ n, w1 = w.drewN n) := ⟨n + m, by rw [hm, hw]; simp⟩
      generalize zs.getD k 0 = x at *
      clear hc hm ho hr hlen hw hs0
      go_wp2
      go_roundw
      case rel => exact ⟨k + 1, r, by omega, by go_num, rfl, hs.out, HW.out⟩
      case measure => simp [intOf]; omega
    · have hs : Hid (Tocsin.one s = sumW zs) := by show _ = _; rw [hs0, List.take_of_length_le (by omega)]
      have HW : Hid (∃ n, wr = w.drewN n) := ⟨n, hw⟩
      have h1 := refOne_any s wr
      clear hc hw hs0
      go_wp2_with (go_at_call 17; refine h1.mono ?_; rintro e w' ⟨rfl, rfl⟩)
      go_ret
      exact ⟨ret_int (by rw [hs.out]), HW.out⟩

theorem refSum_none (a : Option Addr) (cap : Nat) (w : World) : Calls Tryd.prog 27 #[.slice a 0 cap] w fun e w' => e = .returned (.int .u64 (sumW [] : Nat)) ∧ ∃ n, w' = w.drewN n := by
  have h1 := fun w => refOne_any 0 w
  go_enter Tryd.func27, Tryd.ntmps27
  go_wp2_with fail
  refine wp_loop_rounds 1 ?_
  rw [rounds_succ]
  go_wp2_with (go_at_call 17; refine (h1 _).mono ?_; rintro e w' ⟨rfl, rfl⟩)
  go_ret
  exact ⟨rfl, 0, rfl⟩

theorem refSum_any (a : Option Addr) (cap : Nat) (zs : List Nat) (w : World) (h : Floats w w.heap.size a zs) (hreach : zs.length * 8 ≤ 140737488351232) :
    Calls Tryd.prog 27 #[.slice a zs.length cap] w fun e w' => e = .returned (.int .u64 (sumW zs : Nat)) ∧ ∃ n, w' = w.drewN n := by
  obtain ⟨_, h0 | ⟨b, off, rfl, _, hc⟩⟩ := h
  · subst h0; exact refSum_none a cap w
  · exact refSum_some b off _ cap zs w rfl hc hreach

end Go.Proofs.YtldhbelinopniaaDoor
