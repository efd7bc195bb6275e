/- The document's sort of whatever row; its least and its greatest. -/
import Derived.Test.YtldhbelinopniaaDoorNz
namespace Go.Proofs.YtldhbelinopniaaDoor
open Go.RowKit Go.Shelf Go.Sort Go.Proofs Go.Lib Tocsin

set_option maxHeartbeats 1000000 in
set_option maxRecDepth 100000 in
theorem refSort_one (b off cap : Nat) (x : Nat) (w : World) (hc : w.cell? ⟨b, off, none⟩ = some (.float .f64 x)) (hx : x < 18446744073709551616) :
    Calls Tryd.prog 20 #[.slice (some ⟨b, off, none⟩) 1 cap] w fun e w' => ∃ v, e = .returned v ∧ w'.ownsRow w.heap.size 25 1 v 1 ((srtW [x]).map encB) ∧ Below w.heap.size w w' := by
  have h1 := fun W => refOne_any x W
  have hs : Hid ((srtW [x]).map encB = [.int .u64 (Tocsin.one x : Nat)]) := by
    show _ = _
    have : srtW [x] = [toCW x] := srtW_eq (List.Perm.refl _) (by simp)
    rw [this]
    simp [encB, toCW_val hx]
  generalize Tocsin.one x = y at *
  go_enter Tryd.func20, Tryd.ntmps20
  go_wp2_with (go_at_call 17; refine (h1 _).mono ?_; rintro e w' ⟨rfl, rfl⟩)
  go_ret
  refine ⟨_, rfl, ?_, (Below.refl _ _).alloc (Nat.le_refl _) _⟩
  rw [hs.out]
  exact ⟨rfl, .inr ⟨_, 1, #[.int .u64 (y : Nat)], rfl, Nat.le_refl _, row_new _ _ _, Nat.le_refl _, by decide, rfl, rfl⟩⟩

theorem refSort_pos : ∀ (n : Nat) (b off cap : Nat) (zs : List Nat) (w : World), zs.length = n → n ≤ cap → 0 < n → n * 8 ≤ 140737488351232 → b < w.heap.size → (∀ x ∈ zs, x < 18446744073709551616) →
      (∀ j, j < n → w.cell? ⟨b, off + j, none⟩ = some (.float .f64 (zs.getD j 0))) →
      Calls Tryd.prog 20 #[.slice (some ⟨b, off, none⟩) n cap] w fun e w' => ∃ v, e = .returned v ∧ w'.ownsRow w.heap.size 25 1 v n ((srtW zs).map encB) ∧ Below w.heap.size w w' := by
  intro n
  induction n using Nat.strongRecOn with
  | _ n ih =>
    intro b off cap zs w hlen hcap hpos hreach hb hz hc
    by_cases h1 : n = 1
    · subst h1
      obtain ⟨x, rfl⟩ := List.length_eq_one_iff.1 hlen
      exact refSort_one b off cap x w (hc 0 (by decide)) (hz x (by simp))
    · exact refSort_step n (fun m hm b off cap zs w h1 h2 h3 h4 h5 h6 => ih m hm b off cap zs w h1 h2 h3 (by omega) h4 h5 h6) (by omega) b off cap zs w hlen hcap hb hz hc hreach

theorem refSort_zero (a : Option Addr) (cap : Nat) (w : World) :
    Calls Tryd.prog 20 #[.slice a 0 cap] w fun e w' => e = .returned (.slice none 0 0) ∧ w = w' := by
  go_enter Tryd.func20, Tryd.ntmps20
  go_wp2
  go_ret
  exact ⟨rfl, rfl⟩

/-- The document's sort. -/
theorem refSort_any (a : Option Addr) (cap : Nat) (zs : List Nat) (w : World) (h : Floats w w.heap.size a zs) (hcap : zs.length ≤ cap) (hreach : zs.length * 8 ≤ 140737488351232) :
    Calls Tryd.prog 20 #[.slice a zs.length cap] w fun e w' => ∃ v, e = .returned v ∧ w'.ownsRow w.heap.size 25 1 v zs.length ((srtW zs).map encB) ∧ Below w.heap.size w w' := by
  obtain ⟨hz, h0⟩ := h
  by_cases hn : zs = []
  · subst hn
    refine (refSort_zero a cap w).mono ?_
    rintro e w' ⟨rfl, rfl⟩
    exact ⟨_, rfl, ⟨by simp [srtW], .inl ⟨rfl, rfl⟩⟩, Below.refl _ _⟩
  · rcases h0 with h0 | ⟨b, off, rfl, hb, hc⟩
    · exact absurd h0 hn
    · exact refSort_pos zs.length b off cap zs w rfl hcap (List.length_pos_iff.2 hn) hreach hb hz hc
theorem isNan_eq (x : CW) (h : isNan x.val = true) : x.val = 9221120237041090561 := by
  have := x.can
  unfold Tocsin.one at this
  rw [h] at this
  exact this.symm
theorem isNan_val (x : CW) : isNan x.val = true ↔ x.val = 9221120237041090561 := ⟨isNan_eq x, fun h => by rw [h]; decide⟩
theorem rank_nan_ge (x : Nat) (h : isNan x = true) : rank x = 18446744073709551615 := by unfold rank; rw [h]; rfl
theorem rank_num_lt (x : Nat) (hx : x < 18446744073709551616) (h : isNan x = false) : rank x < 18446744073709551615 := by
  have h' : ¬ 9218868437227405312 < x % 9223372036854775808 := by simpa [isNan] using h
  unfold rank
  rw [h]
  simp only [Bool.false_eq_true, if_false]
  split <;> omega
/-- The least is the first. -/
theorem leastW_head (zs : List Nat) (x : CW) (r : List CW) (h : srtW zs = x :: r) : leastW zs = x.val := by
  unfold leastW numsW
  rw [h]
  by_cases hn : isNan x.val = true
  · have hall : ∀ y ∈ r, isNan y.val = true := fun y hy => by
      have hs := srtW_sorted zs
      rw [h, List.pairwise_cons] at hs
      have := (leW_iff _ _).1 (hs.1 y hy)
      rw [rank_nan_ge _ hn] at this
      cases hy' : isNan y.val
      · have := rank_num_lt y.val y.lt hy'; omega
      · rfl
    rw [List.filter_cons_of_neg (by simp [hn]), List.filter_eq_nil_iff.2 (fun y hy => by simp [hall y hy])]
    exact (isNan_eq x hn).symm
  · rw [List.filter_cons_of_pos (by simpa using hn)]; rfl

set_option maxHeartbeats 1000000 in
set_option maxRecDepth 100000 in
theorem refLeast_any (a : Option Addr) (cap : Nat) (zs : List Nat) (w : World) (h : Floats w w.heap.size a zs) (hcap : zs.length ≤ cap) (hreach : zs.length * 8 ≤ 140737488355328 - 4096) :
    Calls Tryd.prog 23 #[.slice a zs.length cap] w fun e w' => e = .returned (.int .u64 (leastW zs : Nat)) ∧ Below w.heap.size w w' := by
  by_cases hn : zs = []
  · subst hn
    have hl : leastW [] = 9221120237041090561 := by simp [leastW, numsW, srtW]
    rw [hl]
    have c1 := fun W => refSort_zero a cap W
    show Calls _ _ #[.slice a 0 cap] _ _
    go_enter Tryd.func23, Tryd.ntmps23
    go_wp2_with fail
    refine (c1 _).mono ?_; rintro e w' ⟨rfl, rfl⟩
    go_wp2_with fail
    go_ret
    exact ⟨rfl, Below.refl _ _⟩
  · have c1 := refSort_any a cap zs w h hcap hreach
    have hpos : 0 < zs.length := List.length_pos_iff.2 hn
    have hl := srtW_length zs
    cases hs : srtW zs with
    | nil => rw [hs] at hl; simp at hl; omega
    | cons x r =>
    rw [leastW_head zs x r hs]
    rw [hs] at c1
    clear hs hl h hcap hreach hn
    generalize zs.length = n at *
    obtain ⟨y, hy⟩ : ∃ y, y = x.val := ⟨_, rfl⟩
    have HX : Hid (encB x = .int .u64 (y : Nat)) := by show _ = _; rw [hy]; rfl
    rw [← hy]
    clear hy
    go_enter Tryd.func23, Tryd.ntmps23
    go_wp2_with fail
    refine c1.mono ?_; rintro e w1 ⟨v, rfl, hown, hb⟩
    obtain ⟨g, k, rfl⟩ : ∃ g c, v = .slice (some ⟨g, 0, none⟩) n c := ownsRow_shape hown hpos
    have hc0 : w1.cell? ⟨g, 0, none⟩ = some (.int .u64 (y : Nat)) := by rw [hown.cellAt 0 (by omega), ← HX.out]; rfl
    have h0 : ((n : Int) == 0) = false := by rw [beq_eq_false_iff_ne]; omega
    have hB := Lib.hid hb
    clear c1 hown hb
    by_cases hx : y = 9221120237041090561
    · have hY := Lib.hid hx
      rw [hx] at hc0
      clear hx
      go_wp2_with fail
      go_ret
      exact ⟨by rw [hY.out]; rfl, hB.out⟩
    · have h1 : ((y : Int) == 9221120237041090561) = false := by rw [beq_eq_false_iff_ne]; omega
      clear hx
      go_wp2_with fail
      go_ret
      exact ⟨rfl, hB.out⟩

theorem filter_drop_eq (l : List CW) (m : Nat) (h : m < l.length) (hx : isNan l[m].val = true) (hr : (l.drop (m + 1)).filter (fun x => !isNan x.val) = []) : (l.drop m).filter (fun x => !isNan x.val) = [] := by
  rw [List.drop_eq_getElem_cons h, List.filter_cons_of_neg (by simp [hx]), hr]
theorem filter_drop_last (l : List CW) (m : Nat) (h : m < l.length) (hx : isNan l[m].val = false) (hr : (l.drop (m + 1)).filter (fun x => !isNan x.val) = []) :
    ((l.filter (fun x => !isNan x.val)).map CW.val).getLastD 9221120237041090561 = l[m].val := by
  have e : l.filter (fun x => !isNan x.val) = (l.take m).filter (fun x => !isNan x.val) ++ [l[m]] := by
    have h1 : l.filter (fun x => !isNan x.val) = (l.take m ++ l[m] :: l.drop (m + 1)).filter (fun x => !isNan x.val) := by rw [← List.drop_eq_getElem_cons h, List.take_append_drop]
    rw [h1, List.filter_append, List.filter_cons_of_pos (by simp [hx]), hr]
  rw [e]
  simp [List.getLastD_eq_getLast?]

set_option maxHeartbeats 1000000 in
set_option maxRecDepth 100000 in
theorem refGreatest_any (a : Option Addr) (cap : Nat) (zs : List Nat) (w : World) (h : Floats w w.heap.size a zs) (hcap : zs.length ≤ cap) (hreach : zs.length * 8 ≤ 140737488355328 - 4096) :
    Calls Tryd.prog 25 #[.slice a zs.length cap] w fun e w' => e = .returned (.int .u64 (greatestW zs : Nat)) ∧ Below w.heap.size w w' := by
  by_cases hn : zs = []
  · subst hn
    have hl : greatestW [] = 9221120237041090561 := by simp [greatestW, numsW, srtW]
    rw [hl]
    have c1 := fun W => refSort_zero a cap W
    show Calls _ _ #[.slice a 0 cap] _ _
    go_enter Tryd.func25, Tryd.ntmps25
    go_wp2_with fail
    refine (c1 _).mono ?_; rintro e w' ⟨rfl, rfl⟩
    go_wp2_with fail
    refine wp_loop_rounds 1 ?_
    rw [rounds_succ]
    go_wp2_with fail
    go_ret
    exact ⟨rfl, Below.refl _ _⟩
  · have c1 := refSort_any a cap zs w h hcap hreach
    have hpos : 0 < zs.length := List.length_pos_iff.2 hn
    have hl := srtW_length zs
    unfold greatestW numsW
    generalize srtW zs = l at *
    have hreach' : zs.length ≤ 17592186044416 := by omega
    clear h hcap hreach hn
    generalize zs.length = n at *
    have HL := Lib.hid hl
    clear hl
    obtain ⟨G, hG⟩ : ∃ G, G = ((l.filter (fun x => !isNan x.val)).map CW.val).getLastD 9221120237041090561 := ⟨_, rfl⟩
    rw [← hG]
    have HG := Lib.hid hG
    clear hG
    go_enter Tryd.func25, Tryd.ntmps25
    go_wp2_with fail
    refine c1.mono ?_; rintro e w1 ⟨v, rfl, hown, hb⟩
    obtain ⟨g, k, rfl⟩ : ∃ g c, v = .slice (some ⟨g, 0, none⟩) n c := ownsRow_shape hown hpos
    have hcell := Lib.hid (show ∀ j (h : j < l.length), w1.cell? ⟨g, j, none⟩ = some (.int .u64 (l[j].val : Nat)) from fun j hj => by
      have e := HL.out
      rw [hown.cellAt j (by omega), List.getElem?_map, List.getElem?_eq_getElem hj]; rfl)
    have hB := Lib.hid hb
    clear c1 hown hb
    go_wp2_with fail
    go_loop [4] (fun vi => ∃ i : Int, -1 ≤ i ∧ i < n ∧ vi = .int .i64 i ∧ Hid ((l.drop (i + 1).toNat).filter (fun x => !isNan x.val) = [])) (fun vi => (intOf vi + 1).toNat)
    case atStart => exact ⟨(n : Int) - 1, by omega, by omega, rfl, by show _ = _; rw [List.drop_eq_nil_of_le (by have := HL.out; omega)]; rfl⟩
    case round =>
      obtain ⟨i, hi1, hi2, rfl, hf⟩ := hrel
      by_cases h0 : 0 ≤ i
      · obtain ⟨m, rfl⟩ := Int.eq_ofNat_of_zero_le h0
        have hm : m < l.length := by have := HL.out; omega
        have hx := hcell.out m hm
        have hmn : m < n := by omega
        by_cases hx1 : isNan l[m].val = true
        · have hval := isNan_eq _ hx1
          have hnext := Lib.hid (filter_drop_eq l m hm hx1 (by have := hf.out; rwa [show ((m : Int) + 1).toNat = m + 1 by omega] at this))
          rw [hval] at hx
          clear hf hval hx1
          go_wp2_with fail
          refine ⟨⟨(m : Int) - 1, by omega, by omega, by go_num, ?_⟩, by simp [intOf]⟩
          have := hnext.out
          rwa [show ((m : Int) - 1 + 1).toNat = m by omega]
        · have hx2 : isNan l[m].val = false := by simpa using hx1
          have hval : l[m].val ≠ 9221120237041090561 := fun e => hx1 ((isNan_val _).2 e)
          have hfin := Lib.hid (filter_drop_last l m hm hx2 (by have := hf.out; rwa [show ((m : Int) + 1).toNat = m + 1 by omega] at this))
          have hGe : Hid (G = l[m].val) := by show _ = _; rw [HG.out]; exact hfin.out
          generalize l[m].val = y at *
          have h1 : ((y : Int) != 9221120237041090561) = true := by rw [bne_iff_ne]; omega
          clear hf hfin hx1 hx2 hval
          go_wp2_with fail
          go_ret
          exact ⟨by rw [hGe.out]; rfl, hB.out⟩
      · have hi : i = -1 := by omega
        subst hi
        have hGe : Hid (G = 9221120237041090561) := by
          show _ = _
          have := hf.out
          rw [HG.out]
          simp only [show ((-1 : Int) + 1).toNat = 0 by rfl, List.drop_zero] at this
          rw [this]; rfl
        clear hf h0
        go_wp2_with fail
        go_ret
        exact ⟨by rw [hGe.out]; rfl, hB.out⟩
end Go.Proofs.YtldhbelinopniaaDoor
