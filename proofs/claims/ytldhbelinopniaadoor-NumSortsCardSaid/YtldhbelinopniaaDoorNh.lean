/- Walks: putting numbers in order; the least and the greatest. -/
import Derived.Test.YtldhbelinopniaaDoorNd
import Derived.Test.YtldhbelinopniaaDoorNg
import Derived.Lib.Hide
namespace Go.Proofs.YtldhbelinopniaaDoor
open Go.RowKit Go.Shelf Go.Sort Go.Proofs Go.Lib Tocsin

theorem floatInfo : (Tryd.prog.info? 22).map (fun i => (i.zero, i.size, i.bytes)) = some (some (.float .f64 0), 1, 8) := by kernel_rfl

/-- A slice of float64 that is read: where it lies below B, and what it holds. -/
def Floats (w : World) (B : Nat) (a : Option Addr) (zs : List Nat) : Prop :=
  (∀ x ∈ zs, x < 18446744073709551616) ∧ (zs = [] ∨ ∃ b off, a = some ⟨b, off, none⟩ ∧ b < B ∧ ∀ j, j < zs.length → w.cell? ⟨b, off + j, none⟩ = some (.float .f64 (zs.getD j 0)))

theorem cmpReads (blk off size : Nat) (w : World) : CmpReads Tryd.prog 18 #[] encW cmpW blk off size w := fun _ _ _ _ x y =>
  (compare_any x.val y.val _ x.lt y.lt).mono fun _ _ ⟨he, hw⟩ => ⟨he, 0, by rw [← hw]; rfl⟩

set_option maxHeartbeats 1000000 in
set_option maxRecDepth 100000 in
theorem sort_some (b off len cap : Nat) (zs : List Nat) (w : World) (hlen : zs.length = len) (hpos : 0 < len) (hb : b < w.heap.size) (hz : ∀ x ∈ zs, x < 18446744073709551616)
    (hc : ∀ j, j < len → w.cell? ⟨b, off + j, none⟩ = some (.float .f64 (zs.getD j 0))) (hreach : len * 8 ≤ 140737488351232) :
    Calls Tryd.prog 21 #[.slice (some ⟨b, off, none⟩) len cap] w fun e w' => e = .returned (.slice (some ⟨w.heap.size, 0, none⟩) len len) ∧
      w'.ownsRow w.heap.size 22 1 (.slice (some ⟨w.heap.size, 0, none⟩) len len) len ((srtW zs).map encW) ∧ Below w.heap.size w w' := by
  obtain ⟨i0, hi, hz0, hz1, hz2⟩ := info_parts floatInfo
  have hone := fun x W => one_any x W
  go_enter Tryd.func21, Tryd.ntmps21
  go_wp2_with (at_make; refine wpList_make_own _ rfl _ _ 30 rfl w.heap.size 22 i0 (.float .f64 0) 1 Tryd.underlying30 hi hz0 hz1 _ _ _ len rfl rfl (by omega) ?b2 ?b3 (Nat.le_refl _) ?_)
  case b2 => rw [hz2]; omega
  case b3 => unfold maxLen; omega
  intro w0 hown0 hgrow0
  go_wp2
  go_loopw [3, 11] (fun out i wr => ∃ k : Nat, k ≤ len ∧ i = .int .i64 k ∧ out = .slice (some ⟨w.heap.size, 0, none⟩) k len ∧
      wr.ownsRow w.heap.size 22 1 (.slice (some ⟨w.heap.size, 0, none⟩) k len) k ((zs.take k).map (fun x => .float .f64 (Tocsin.one x))) ∧ Below w.heap.size w wr) (fun _ i _ => len - (intOf i).toNat)
  case atStart => exact ⟨0, Nat.zero_le _, rfl, rfl, hown0, (Below.refl _ _).grown hgrow0 (Nat.le_refl _) (fun k h => by cases h)⟩
  case round =>
    obtain ⟨k, hk, rfl, rfl, hown, hnx⟩ := hrel
    by_cases hlt : k < len
    · have hcell : wr.cell? ⟨b, off + k, none⟩ = some (.float .f64 (zs.getD k 0)) := (hnx.cell (by exact hb)).trans (hc k hlt)
      have hone' := fun W => hone (zs.getD k 0) W
      have hsn : Hid ((zs.take (k + 1)).map (fun x => Value.float .f64 (Tocsin.one x)) = (zs.take k).map (fun x => Value.float .f64 (Tocsin.one x)) ++ [.float .f64 (Tocsin.one (zs.getD k 0))]) := by
        show _ = _
        rw [List.take_succ_eq_append_getElem (by omega), List.map_append]; simp [List.getD, show k < zs.length by omega]
      generalize hx : zs.getD k 0 = x at *
      have Hx := Lib.hid hx
      have Hl := Lib.hid hlen
      clear hx hlen hc hz hone
      go_wp2_with (first
        | (go_at_call 16; refine (hone' _).mono ?_; rintro e w' ⟨rfl, rfl⟩)
        | (at_builtin; refine wpList_append_fits _ rfl _ _ 30 rfl w.heap.size 22 i0 1 Tryd.underlying30 hi hz1 w.heap.size k len _ rfl (hown.alloc _) ⟨wr.heap.size, 0, none⟩ 1 1 [.float .f64 (Tocsin.one x)] rfl rfl (cell_one_new _ _ _) (by intro u hu; simp at hu; subst hu; rfl) (by omega) ?_; intro w1 hown1 hgrow1))
      rw [← hsn.out] at hown1
      clear hown hsn hcell
      go_wp2
      go_roundw
      case rel => exact ⟨k + 1, by omega, by go_num, rfl, hown1, (hnx.alloc hnx.size _).grown hgrow1 (by simp; have := hnx.size; omega) (fun k h => by cases h; exact Nat.le_refl _)⟩
      case measure => simp [intOf]; omega
    · have hk' : k = len := by omega
      subst hk'
      have hfull : (zs.take k).map (fun x => Value.float .f64 (Tocsin.one x)) = (zs.map toCW).map encW := by
        rw [List.take_of_length_le (by omega)]
        rw [List.map_map]
        exact List.map_congr_left (fun x hx => by simp only [Function.comp, encW, toCW_val (hz x hx)])
      rw [hfull] at hown
      have hrow := hown
      rcases hrow.2 with ⟨hnil, _⟩ | ⟨g, cp, cur, hv, hbase, hblk, h1, h2, h3, h4⟩
      · cases hnil
      cases hv
      have hdl : ((zs.map toCW).toArray).size = k := by simp [hlen]
      have hH : Holds encW wr w.heap.size 0 (zs.map toCW).toArray := holds_of_row hblk (by rw [List.length_map, hlen]; simpa using h4)
      have eg : ∀ args w, (callFunc 18 args).run Tryd.prog w = .ok (.enter 18 args) w := enters_of Tryd.func18 (by kernel_rfl) rfl
      have hS := Tryd.slices_SortFunc_total encW oneCell_encW cmpW swoW 18 #[] w.heap.size 0 k (zs.map toCW).toArray wr eg (cmpReads w.heap.size 0 _ wr).lays hH (Array.getElem?_eq_some_iff.1 hblk).1 (by rw [hdl]; omega) totW
      rw [hdl] at hS
      have hout := fun n os => ownsRow_put (enc := encW) (os := os) (n := n) (ts := srtW zs) (by rw [srtW_length, hlen]) hbase hblk h1 h2 h3
      have hgr := fun n os => grownBy_put (enc := encW) (w := wr) (g := w.heap.size) (n := n) (os := os) (srtW zs).toArray
      have hout' := Lib.hid hout
      have hgr' := Lib.hid hgr
      clear hown hrow hblk h1 h2 h3 h4 hfull hH hdl hout hgr hc hz hlen
      go_wp2_with (go_at_call 40; refine hS.mono ?_; rintro e w1 ⟨rfl, n, os, hw⟩; have Hw := Lib.hid hw; clear hw)
      go_ret
      have hw : w1 = grow (putRow encW (Sort.ahead wr n) w.heap.size 0 (srtW zs).toArray) os := by
        rw [Hw.out]; rfl
      refine ⟨rfl, ?_, ?_⟩
      · rw [hw]; exact hout'.out n os
      · rw [hw]; exact hnx.grown (hgr'.out n os) hnx.size (fun j hj => by cases hj; exact Nat.le_refl _)

set_option maxHeartbeats 1000000 in
set_option maxRecDepth 100000 in
/-- A slice of no element, a nil one too. -/
theorem sort_none (a : Option Addr) (cap : Nat) (w : World) :
    Calls Tryd.prog 21 #[.slice a 0 cap] w fun e w' => e = .returned (.slice (some ⟨w.heap.size, 0, none⟩) 0 0) ∧
      w'.ownsRow w.heap.size 22 1 (.slice (some ⟨w.heap.size, 0, none⟩) 0 0) 0 ((srtW []).map encW) ∧ Below w.heap.size w w' := by
  obtain ⟨i0, hi, hz0, hz1, hz2⟩ := info_parts floatInfo
  have hsn : (srtW []).map encW = [] := by simp [srtW]
  rw [hsn]
  clear hsn
  have hS := fun W => Tryd.slices_SortFunc_none (α := CW) (some ⟨w.heap.size, 0, none⟩) 0 (.func (.func 18) #[] #[]) W
  go_enter Tryd.func21, Tryd.ntmps21
  go_wp2_with (at_make; refine wpList_make_own _ rfl _ _ 30 rfl w.heap.size 22 i0 (.float .f64 0) 1 Tryd.underlying30 hi hz0 hz1 _ _ _ 0 rfl rfl (by omega) ?b2 ?b3 (Nat.le_refl _) ?_)
  case b2 => omega
  case b3 => unfold maxLen; omega
  intro w0 hown0 hgrow0
  go_wp2
  refine wp_loop_rounds 1 ?_
  rw [rounds_succ]
  go_wp2_with (go_at_call 40; refine (hS _).mono ?_; rintro e w1 ⟨rfl, rfl⟩)
  go_ret
  exact ⟨rfl, hown0, (Below.refl _ _).grown hgrow0 (Nat.le_refl _) (fun k h => by cases h)⟩

/-- Sort, of whatever slice of numbers. -/
theorem sort_any (a : Option Addr) (cap : Nat) (zs : List Nat) (w : World) (h : Floats w w.heap.size a zs) (hreach : zs.length * 8 ≤ 140737488351232) :
    Calls Tryd.prog 21 #[.slice a zs.length cap] w fun e w' => e = .returned (.slice (some ⟨w.heap.size, 0, none⟩) zs.length zs.length) ∧
      w'.ownsRow w.heap.size 22 1 (.slice (some ⟨w.heap.size, 0, none⟩) zs.length zs.length) zs.length ((srtW zs).map encW) ∧ Below w.heap.size w w' := by
  obtain ⟨hz, h0 | ⟨b, off, rfl, hb, hc⟩⟩ := h
  · subst h0; exact sort_none a cap w
  · rcases Nat.eq_zero_or_pos zs.length with h0 | h0
    · obtain rfl := List.eq_nil_of_length_eq_zero h0
      exact sort_none _ cap w
    · exact sort_some b off _ cap zs w rfl h0 hb hz hc hreach

/-- Those that are numbers, in order. -/
def numsW (zs : List Nat) : List CW := (srtW zs).filter fun x => !isNan x.val
theorem numsW_le (zs : List Nat) : (numsW zs).length ≤ zs.length := by
  unfold numsW; have := List.length_filter_le (fun x : CW => !isNan x.val) (srtW zs); rw [srtW_length] at this; exact this

theorem nan_gives (x : CW) (W : World) : FnGives Tryd.prog 37 #[] #[encW x] (.bool (isNan x.val)) W :=
  (isNaN_any x.val W).mono fun _ _ ⟨he, hw⟩ => ⟨he, 0, by rw [← hw]; rfl⟩

set_option maxHeartbeats 1000000 in
theorem numbers_any (a : Option Addr) (cap : Nat) (zs : List Nat) (w : World) (h : Floats w w.heap.size a zs) (hreach : zs.length * 8 ≤ 140737488351232) :
    Calls Tryd.prog 41 #[.slice a zs.length cap] w fun e w' => e = .returned (.slice (some ⟨w.heap.size, 0, none⟩) (numsW zs).length zs.length) ∧
      (∀ j, j < (numsW zs).length → w'.cell? ⟨w.heap.size, j, none⟩ = ((numsW zs).map encW)[j]?) ∧ Below w.heap.size w w' := by
  have hs := sort_any a cap zs w h hreach
  clear h
  go_enter Tryd.func41, Tryd.ntmps41
  go_wp2_with fail
  refine hs.mono ?_
  rintro e w1 ⟨rfl, hrow, hb⟩
  clear hs
  rcases hrow.2 with ⟨hnil, _⟩ | ⟨g, cp, cur, hv, hbase, hblk, h1, h2, h3, h4⟩
  · cases hnil
  cases hv
  have hdl : ((srtW zs).toArray).size = zs.length := by simp [srtW_length]
  have hH : Holds encW w1 w.heap.size 0 (srtW zs).toArray := holds_of_row hblk (by rw [srtW_length]; simpa using h4)
  have eg : ∀ args w, (callFunc 37 args).run Tryd.prog w = .ok (.enter 37 args) w := enters_of Tryd.func37 (by kernel_rfl) rfl
  have hD := Tryd.slices_DeleteFunc encW oneCell_encW (fun x => isNan x.val) 37 #[] eg default (fun w => by kernel_rfl) w.heap.size 0 zs.length (srtW zs).toArray w1
    (fun W x _ => nan_gives x W) (fun n os dk x _ => nan_gives x _) hH (by rw [hdl]; omega) (by rw [hdl]; exact Nat.le_refl _)
  rw [hdl] at hD
  have hfin : ∀ q w2, w2 = putRow encW (Sort.ahead w1 q) w.heap.size 0 ((numsW zs) ++ List.replicate (zs.length - (numsW zs).length) default).toArray →
      (∀ j, j < (numsW zs).length → w2.cell? ⟨w.heap.size, j, none⟩ = ((numsW zs).map encW)[j]?) ∧ Below w.heap.size w w2 := by
    intro q w2 hw
    have hle := numsW_le zs
    have hl : ((numsW zs) ++ List.replicate (zs.length - (numsW zs).length) default).length = zs.length := by simp; omega
    have ho := ownsRow_put (enc := encW) (os := #[]) (n := q) hl hbase hblk h1 h2 h3
    have hg := grownBy_put (enc := encW) (w := w1) (g := w.heap.size) (n := q) (os := #[]) ((numsW zs) ++ List.replicate (zs.length - (numsW zs).length) default).toArray
    rw [grow_empty, ← hw] at ho hg
    refine ⟨fun j hj => ?_, hb.grown hg hb.size (fun j hj => by cases hj; exact Nat.le_refl _)⟩
    rw [ho.cellAt j (by omega), List.map_append, List.getElem?_append_left (by simpa using hj)]
  have hD' : Calls Tryd.prog 48 #[.slice (some ⟨w.heap.size, 0, none⟩) zs.length zs.length, .func (.func 37) #[] #[]] w1 fun e w' =>
      e = .returned (.slice (some ⟨w.heap.size, 0, none⟩) (numsW zs).length zs.length) ∧ (∀ j, j < (numsW zs).length → w'.cell? ⟨w.heap.size, j, none⟩ = ((numsW zs).map encW)[j]?) ∧ Below w.heap.size w w' :=
    hD.mono fun e w2 ⟨he, q, hw⟩ => ⟨he, hfin q w2 hw⟩
  clear hD hfin hrow hblk h1 h2 h3 h4 hH hdl
  go_wp2_with fail
  refine hD'.mono ?_
  rintro e w2 ⟨rfl, hc2, hb2⟩
  have Hc := Lib.hid hc2
  clear hc2
  go_wp2_with fail
  go_ret
  exact ⟨rfl, Hc.out, hb2⟩

/-- The first of the list, or the one NaN. -/
def leastW (zs : List Nat) : Nat := ((numsW zs).map CW.val).headD 9221120237041090561
def greatestW (zs : List Nat) : Nat := ((numsW zs).map CW.val).getLastD 9221120237041090561

theorem one_nan_any (w : World) : Calls Tryd.prog 16 #[.float .f64 9221120237041090561] w fun e w' => e = .returned (.float .f64 9221120237041090561) ∧ w = w' := one_any 9221120237041090561 w

set_option maxHeartbeats 400000 in
theorem least_any (a : Option Addr) (cap : Nat) (zs : List Nat) (w : World) (h : Floats w w.heap.size a zs) (hreach : zs.length * 8 ≤ 140737488351232) :
    Calls Tryd.prog 22 #[.slice a zs.length cap] w fun e w' => e = .returned (.float .f64 (leastW zs)) ∧ Below w.heap.size w w' := by
  have hs := numbers_any a cap zs w h hreach
  have hle := numsW_le zs
  clear h
  unfold leastW
  cases hl : numsW zs with
  | nil =>
    rw [hl] at hs
    show Calls _ _ _ _ fun e w' => e = .returned (.float .f64 9221120237041090561) ∧ _
    simp only [List.length_nil] at hs
    go_enter Tryd.func22, Tryd.ntmps22
    go_wp2_with (first | (go_at_call 41; refine hs.mono ?_; rintro e w1 ⟨rfl, hc, hb⟩; clear hc) | (go_at_call 42; refine (nan_any _).mono ?_; rintro e w2 ⟨rfl, rfl⟩) | (go_at_call 16; refine (one_nan_any _).mono ?_; rintro e w2 ⟨rfl, rfl⟩))
    go_ret
    exact ⟨rfl, hb⟩
  | cons x r =>
    rw [hl] at hs hle
    show Calls _ _ _ _ fun e w' => e = .returned (.float .f64 x.val) ∧ _
    simp only [List.length_cons] at hs hle
    go_enter Tryd.func22, Tryd.ntmps22
    go_wp2_with (go_at_call 41; refine hs.mono ?_; rintro e w1 ⟨rfl, hc, hb⟩; have hc0 : w1.cell? ⟨w.heap.size, 0, none⟩ = some (.float .f64 x.val) := hc 0 (by omega); clear hc)
    go_ret
    exact ⟨rfl, hb⟩

set_option maxHeartbeats 400000 in
theorem greatest_any (a : Option Addr) (cap : Nat) (zs : List Nat) (w : World) (h : Floats w w.heap.size a zs) (hreach : zs.length * 8 ≤ 140737488351232) :
    Calls Tryd.prog 24 #[.slice a zs.length cap] w fun e w' => e = .returned (.float .f64 (greatestW zs)) ∧ Below w.heap.size w w' := by
  have hs := numbers_any a cap zs w h hreach
  have hle := numsW_le zs
  clear h
  unfold greatestW
  rcases List.eq_nil_or_concat (numsW zs) with hl | ⟨r, x, hl⟩
  · rw [hl] at hs ⊢
    show Calls _ _ _ _ fun e w' => e = .returned (.float .f64 9221120237041090561) ∧ _
    simp only [List.length_nil] at hs
    go_enter Tryd.func24, Tryd.ntmps24
    go_wp2_with (first | (go_at_call 41; refine hs.mono ?_; rintro e w1 ⟨rfl, hc, hb⟩; clear hc) | (go_at_call 42; refine (nan_any _).mono ?_; rintro e w2 ⟨rfl, rfl⟩) | (go_at_call 16; refine (one_nan_any _).mono ?_; rintro e w2 ⟨rfl, rfl⟩))
    go_ret
    exact ⟨rfl, hb⟩
  · rw [List.concat_eq_append] at hl
    rw [hl] at hs hle ⊢
    rw [show ((r ++ [x]).map CW.val).getLastD 9221120237041090561 = x.val by simp [List.getLastD_eq_getLast?]]
    simp only [List.length_append, List.length_cons, List.length_nil, Nat.zero_add] at hs hle
    have hr : ∀ w1 : World, (∀ j, j < r.length + 1 → w1.cell? ⟨w.heap.size, j, none⟩ = ((r ++ [x]).map encW)[j]?) → w1.cell? ⟨w.heap.size, r.length, none⟩ = some (.float .f64 x.val) := fun w1 hc => by
      rw [hc r.length (by omega)]; simp [encW]
    generalize r.length = n at *
    go_enter Tryd.func24, Tryd.ntmps24
    go_wp2_with (go_at_call 41; refine hs.mono ?_; rintro e w1 ⟨rfl, hc, hb⟩; have hc0 := hr w1 hc; clear hc)
    go_ret
    exact ⟨rfl, hb⟩

end Go.Proofs.YtldhbelinopniaaDoor
