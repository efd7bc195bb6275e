/- The walk of the law that what is handed in stays: it comes to true. -/
import Derived.Test.YtldhbelinopniaaDoorNm
import Derived.Test.YtldhbelinopniaaDoorNr
import Derived.Deep.QuietTactic
import Derived.BigQuiet
namespace Go.Proofs.YtldhbelinopniaaDoor
open Go.RowKit Go.Shelf Go.Sort Go.Proofs Go.Lib Tocsin

@[go_sem] theorem run_store_float (P : Program) (w : World) (a : Addr) (m : Mode) (k : FloatKind) (x : Nat) : (store a (.float k x) m).run P w = stored P w a (.float k x) m := run_store P w a _ m rfl

@[go_sem] theorem ordEq7 : (FloatKind.f64.format.order 4619567317775286272 4619567317775286272 == some Ordering.eq) = true := ordEq _ (by decide)

/-- The room in block g: the numbers, then a seven. -/
structure Room (w : World) (g : Nat) (zs : List Nat) : Prop where
  lt : g < w.heap.size
  row : ∀ j, j < zs.length → w.cell? ⟨g, j, none⟩ = some (.float .f64 (zs.getD j 0))
  end7 : w.cell? ⟨g, zs.length, none⟩ = some (.float .f64 4619567317775286272)
theorem Room.later {w w' : World} {g : Nat} {zs : List Nat} (h : Room w g zs) {B : Nat} (hB : g < B) (hb : Below B w w') : Room w' g zs :=
  ⟨Nat.lt_of_lt_of_le h.lt hb.size, fun j hj => by rw [hb.cell (p := ⟨g, j, none⟩) hB]; exact h.row j hj, by rw [hb.cell (p := ⟨g, zs.length, none⟩) hB]; exact h.end7⟩

theorem Room.floats {w : World} {g : Nat} {zs : List Nat} (h : Room w g zs) (hz : ∀ x ∈ zs, x < 18446744073709551616) : Floats w w.heap.size (some ⟨g, 0, none⟩) zs :=
  ⟨hz, .inr ⟨g, 0, rfl, h.lt, fun j hj => by rw [Nat.zero_add]; exact h.row j hj⟩⟩

theorem ownsRow_later {w w' : World} {base g c n B : Nat} {e : TypeId} {xs : List Value} (h : w.ownsRow base e 1 (.slice (some ⟨g, 0, none⟩) n c) n xs) (hb : Below B w w') (hg : g < B) :
    w'.ownsRow base e 1 (.slice (some ⟨g, 0, none⟩) n c) n xs := by
  refine ⟨h.1, ?_⟩
  rcases h.2 with ⟨h0, -⟩ | ⟨g', cp, cur, hv, hbase, hblk, h1⟩
  · cases h0
  · cases hv
    exact .inr ⟨g, c, cur, rfl, hbase, by rw [hb.block g hg]; exact hblk, h1⟩
/-- A cell of a row of one's own, written. -/
theorem ownsRow_put1 {w : World} {base g c n k : Nat} {e : TypeId} {xs : List Value} (h : w.ownsRow base e 1 (.slice (some ⟨g, 0, none⟩) n c) n xs) (hk : k < n) (v : Value) :
    (∃ x, w.cell? ⟨g, k, none⟩ = some x) ∧ w.frozen? ⟨g, k, none⟩ = false ∧ ∃ xs', (w.setCell ⟨g, k, none⟩ v).ownsRow base e 1 (.slice (some ⟨g, 0, none⟩) n c) n xs' := by
  rcases h.2 with ⟨h0, -⟩ | ⟨g', cp, cur, hv, hbase, hblk, h1, h2, h3, h4⟩
  · cases h0
  · cases hv
    refine ⟨⟨cur[k]'(by omega), by rw [cell_row hblk, Array.getElem?_eq_getElem]⟩, frozen_row hblk, (cur.setIfInBounds k v).toList.take (n * 1), ?_, .inr ⟨g, c, cur.setIfInBounds k v, rfl, hbase, heap_setCell_row hblk, h1, h2, by simpa using h3, rfl⟩⟩
    simp only [List.length_take, Array.length_toList, Array.size_setIfInBounds]
    omega
theorem ownsRow_lt {w : World} {base g c n : Nat} {e : TypeId} {xs : List Value} (h : w.ownsRow base e 1 (.slice (some ⟨g, 0, none⟩) n c) n xs) : g < w.heap.size := by
  rcases h.2 with ⟨h0, -⟩ | ⟨g', cp, cur, hv, hbase, hblk, -⟩
  · cases h0
  · cases hv
    exact (Array.getElem?_eq_some_iff.1 hblk).1

set_option maxHeartbeats 4000000 in
set_option maxRecDepth 100000 in
theorem numKeeps_any (a : Option Addr) (cap : Nat) (zs : List Nat) (w : World) (h : Floats w w.heap.size a zs) (hreach : zs.length * 8 ≤ 140737488351232) (hnil : a = none → cap = 0) (L : Laid w) :
    Calls Tryd.prog 9 #[.slice a zs.length cap] w fun e w' => e = .returned (.bool true) ∧ Below w.heap.size w w' := by
  have c0 := fixed_any w L
  obtain ⟨i0, hi, hz0, hz1, hz2⟩ := info_parts floatInfo
  have F0 : From w w := Below.refl _ _
  have hF := Lib.hid h
  clear L h
  obtain ⟨len, hlen⟩ : ∃ n, n = zs.length := ⟨_, rfl⟩
  have Hl := Lib.hid hlen
  rw [← hlen] at hreach ⊢
  clear hlen
  have cS : ∀ W g, Room W g zs → Calls Tryd.prog 21 #[.slice (some ⟨g, 0, none⟩) len (len + 2)] W fun e w' => e = .returned (.slice (some ⟨W.heap.size, 0, none⟩) len len) ∧ (∃ xs, w'.ownsRow W.heap.size 22 1 (.slice (some ⟨W.heap.size, 0, none⟩) len len) len xs) ∧ Below W.heap.size W w' := fun W g R => by
    have := sort_any (some ⟨g, 0, none⟩) (len + 2) zs W (R.floats hF.out.1) (by rw [← Hl.out]; exact hreach)
    rw [← Hl.out] at this
    exact this.mono fun e w' ⟨h1, h2, h3⟩ => ⟨h1, ⟨_, h2⟩, h3⟩
  have cM : ∀ W g, Room W g zs → Calls Tryd.prog 26 #[.slice (some ⟨g, 0, none⟩) len (len + 2)] W fun e w' => (∃ r, e = .returned (.float .f64 r)) ∧ ∃ n, w' = W.drewN n := fun W g R => by
    have := sum_any (some ⟨g, 0, none⟩) (len + 2) zs W (R.floats hF.out.1) (by rw [← Hl.out]; exact hreach)
    rw [← Hl.out] at this
    exact this.mono fun e w' ⟨h1, h2⟩ => ⟨⟨_, h1⟩, h2⟩
  have cL : ∀ W g, Room W g zs → Calls Tryd.prog 22 #[.slice (some ⟨g, 0, none⟩) len (len + 2)] W fun e w' => (∃ r, e = .returned (.float .f64 r)) ∧ Below W.heap.size W w' := fun W g R => by
    have := least_any (some ⟨g, 0, none⟩) (len + 2) zs W (R.floats hF.out.1) (by rw [← Hl.out]; exact hreach)
    rw [← Hl.out] at this
    exact this.mono fun e w' ⟨h1, h2⟩ => ⟨⟨_, h1⟩, h2⟩
  go_enter Tryd.func9, Tryd.ntmps9
  go_wp2_with fail
  refine c0.mono ?_; rintro e w1 ⟨rfl, hb⟩
  have F1 : From w w1 := F0.go hb
  have hF1 := Lib.hid (hF.out.later F1)
  clear F0 hb c0
  go_wp2_with (at_make; refine wpList_make_own _ rfl _ _ 30 rfl w1.heap.size 22 i0 (.float .f64 0) 1 Tryd.underlying30 hi hz0 hz1 _ _ _ (len + 2) rfl rfl (by omega) ?b2 ?b3 (Nat.le_refl _) ?_)
  case b2 => rw [hz2]; omega
  case b3 => unfold maxLen; omega
  intro w2 hown2 hgrow2
  have B2 : Below w1.heap.size w1 w2 := (Below.refl _ _).grown hgrow2 (Nat.le_refl _) (fun k h => by cases h)
  go_wp2_with (at_builtin; refine wpList_append_fits_any _ rfl _ _ 30 rfl w1.heap.size 22 i0 1 Tryd.underlying30 hi hz1 w1.heap.size 0 (len + 2) [] rfl hown2 a len cap (zs.map (Value.float .f64)) rfl ?n1 ?n2 ?n3 ?n4 (by omega) ?_)
  case n1 => rw [Hl.out]; simp
  case n2 => intro h0; subst h0; refine ⟨?_, hnil rfl⟩; rcases hF.out.2 with h1 | ⟨b, off, h1, -⟩; exact (by rw [Hl.out, h1]; rfl); cases h1
  case n3 =>
    intro ad h0 j u hu
    subst h0
    rcases hF1.out.2 with h1 | ⟨b, off, h1, hb, hc⟩
    · rw [h1] at hu; simp at hu
    · cases h1
      rw [addr_plus, B2.cell (p := ⟨b, off + j, none⟩) hb]
      rw [List.getElem?_map] at hu
      obtain ⟨x, hx, rfl⟩ := Option.map_eq_some_iff.1 hu
      rw [hc j (List.getElem?_eq_some_iff.1 hx).1]
      simp [List.getD, hx]
  case n4 => intro u hu; simp at hu; obtain ⟨x, -, rfl⟩ := hu; rfl
  intro w3 hown3 hgrow3
  have B3 : Below w1.heap.size w1 w3 := B2.grown hgrow3 B2.size (fun k h => by cases h; exact Nat.le_refl _)
  clear hown2 hgrow2 B2 hgrow3 hnil
  obtain ⟨x7, hx7, hf7, hR⟩ : ∃ x, w3.cell? ⟨w1.heap.size, len, none⟩ = some x ∧ w3.frozen? ⟨w1.heap.size, len, none⟩ = false ∧ Hid (Room (w3.setCell ⟨w1.heap.size, len, none⟩ (.float .f64 4619567317775286272)) w1.heap.size zs) := by
    rcases hown3.2 with ⟨h0, -⟩ | ⟨g', cp, cur, hv, -, hblk, h1, h2, h3, h4⟩
    · cases h0
    · cases hv
      have hsz : cur.size = len + 2 := by omega
      refine ⟨cur[len]'(by omega), by rw [cell_row hblk, Array.getElem?_eq_getElem], frozen_row hblk, ?_, ?_, ?_⟩
      · exact (Array.getElem?_eq_some_iff.1 (heap_setCell_row (i := len) (v := .float .f64 4619567317775286272) hblk)).1
      · intro j hj
        rw [← Hl.out] at hj
        rw [cell_row (heap_setCell_row hblk), Array.getElem?_setIfInBounds_ne (by omega)]
        have : (cur.toList.take (len * 1))[j]? = ((zs.map (Value.float .f64)))[j]? := by rw [h4]
        rw [Nat.mul_one, List.getElem?_take, if_pos hj] at this
        rw [← Array.getElem?_toList, this, List.getElem?_map]
        simp [List.getD, show j < zs.length by have := Hl.out; omega]
      · rw [← Hl.out, cell_row (heap_setCell_row hblk), Array.getElem?_setIfInBounds_self_of_lt (by omega)]
  clear hown3
  have hB4 := B3.setCell (p := ⟨w1.heap.size, len, none⟩) (Nat.le_refl _) (.float .f64 4619567317775286272)
  go_wp2_with fail
  refine (cS _ _ hR.out).mono ?_; rintro e w5 ⟨rfl, ⟨xs, hown5⟩, hb5⟩
  have hR5 := Lib.hid (hR.out.later (Nat.lt_of_lt_of_le hR.out.lt (Nat.le_refl _)) hb5)
  have B5 : Below w1.heap.size w1 w5 := hB4.trans (hb5.mono hB4.size)
  have hg5 : w1.heap.size < (w3.setCell ⟨w1.heap.size, len, none⟩ (.float .f64 4619567317775286272)).heap.size := hR.out.lt
  generalize w3.setCell ⟨w1.heap.size, len, none⟩ (.float .f64 4619567317775286272) = w4 at *
  clear hx7 hf7 B3
  go_wp2_with fail
  refine (cM _ _ hR5.out).mono ?_; rintro e w6 ⟨⟨r6, rfl⟩, n6, hn⟩
  have hR6 : Hid (Room w6 w1.heap.size zs) := by rw [hn]; exact hR5.out.later hR5.out.lt (below_drewN (Below.refl _ _) n6)
  have B6 : Below w1.heap.size w1 w6 := by rw [hn]; exact below_drewN B5 n6
  have hown6 : w6.ownsRow w4.heap.size 22 1 (.slice (some ⟨w4.heap.size, 0, none⟩) len len) len xs := by rw [hn]; exact hown5
  clear hn hR5 B5 hown5
  go_wp2_with fail
  refine (cL _ _ hR6.out).mono ?_; rintro e w7 ⟨⟨r7, rfl⟩, hb7⟩
  have hR7 : Hid (Room w7 w1.heap.size zs) := hR6.out.later hR6.out.lt hb7
  have B7 : Below w1.heap.size w1 w7 := B6.trans (hb7.mono B6.size)
  have hown7 := ownsRow_later hown6 hb7 (ownsRow_lt hown6)
  clear hR6 B6 hown6 hb7
  go_wp2_with fail
  go_loopw [33] (fun vi wr => ∃ k : Nat, k ≤ len ∧ vi = .int .i64 k ∧ (∃ xs, wr.ownsRow w4.heap.size 22 1 (.slice (some ⟨w4.heap.size, 0, none⟩) len len) len xs) ∧ Below w4.heap.size w7 wr) (fun vi _ => len - (intOf vi).toNat)
  case atStart => exact ⟨0, Nat.zero_le _, rfl, ⟨_, hown7⟩, Below.refl _ _⟩
  case round =>
    obtain ⟨k, hk, rfl, ⟨xs2, hown⟩, hb⟩ := hrel
    by_cases hlt : k < len
    · obtain ⟨⟨x, hx⟩, hf, hown'⟩ := ownsRow_put1 hown hlt (.float .f64 13837309855095848960)
      clear hown hown7
      go_wp2_with fail
      go_roundw
      case rel => exact ⟨k + 1, by omega, by go_num, hown', hb.setCell (Nat.le_refl _) _⟩
      case measure => simp [intOf]; omega
    · have hkl : k = len := by omega
      subst hkl
      have hR8 : Hid (Room wr w1.heap.size zs) := hR7.out.later hg5 hb
      have B8 : Below w1.heap.size w1 wr := B7.trans (hb.mono (Nat.le_of_lt hg5))
      have hgr : w4.heap.size ≤ wr.heap.size := Nat.le_of_lt (ownsRow_lt hown)
      clear hb hR7 B7 hown7
      obtain ⟨w8, hw8⟩ : ∃ w8, w8 = wr := ⟨_, rfl⟩
      subst hw8
      go_wp2_with fail
      go_loopw [5, 40] (fun vs vi w9 => ∃ (m : Nat) (xs : List Value), m ≤ 4 ∧ vi = .int .i64 m ∧ w9.ownsRow w4.heap.size 22 1 vs (k + m) xs ∧ Below w4.heap.size w8 w9) (fun _ vi _ => 4 - (intOf vi).toNat)
      case atStart => exact ⟨0, _, Nat.zero_le _, rfl, hown, Below.refl _ _⟩
      case round =>
        obtain ⟨m, xs3, hm, rfl, hown9, hb9⟩ := hrel
        obtain ⟨w9, hw9⟩ : ∃ w9, w9 = wr := ⟨_, rfl⟩
        subst hw9
        by_cases hlt4 : m < 4
        · clear hown
          go_wp2_with (at_builtin; refine wpList_append_own _ rfl _ _ 30 rfl w4.heap.size 22 i0 (.float .f64 0) 1 8 Tryd.underlying30 hi hz0 hz1 hz2 rfl (by decide) _ (k + m) _ rfl (hown9.alloc _) ⟨_, 0, none⟩ 1 1 [.float .f64 4607182418800017408] rfl rfl (cell_one_new _ _ _) (by intro u hu; simp at hu; subst hu; rfl) (by unfold maxLen; omega) (by omega) (by have := hb9.size; simp; omega) ?_; intro v' w10 hown10 hgrow10 _hn)
          exact ⟨⟨m + 1, _, by omega, by go_num, hown10, (hb9.alloc (Nat.le_trans hgr hb9.size) _).grown hgrow10 (by have := hb9.size; simp; omega) (fun j hj => (hown9.lt j hj).1)⟩, by simp [intOf]; omega⟩
        · have hm4 : m = 4 := by omega
          subst hm4
          have hR9 : Hid (Room w9 w1.heap.size zs) := hR8.out.later hg5 hb9
          have B9 : Below w1.heap.size w1 w9 := B8.trans (hb9.mono (Nat.le_of_lt hg5))
          clear hb9 hR8 B8 hown hown9 hgr
          go_wp2_with fail
          go_loopw [48] (fun vi wa => ∃ (m n : Nat), m ≤ k ∧ vi = .int .i64 m ∧ wa = w9.drewN n) (fun vi _ => k - (intOf vi).toNat)
          case atStart => exact ⟨0, 0, Nat.zero_le _, rfl, rfl⟩
          case round =>
            obtain ⟨m, n, hm, rfl, hn⟩ := hrel
            obtain ⟨wa, hwa⟩ : ∃ wa, wa = wr := ⟨_, rfl⟩
            subst hwa
            have hRa : Hid (Room wa w1.heap.size zs) := by rw [hn]; exact hR9.out.later hR9.out.lt (below_drewN (Below.refl _ _) n)
            have Ba : Below w1.heap.size w1 wa := by rw [hn]; exact below_drewN B9 n
            have hN := Lib.hid hn
            clear hR9 B9 hn
            by_cases hltk : m < k
            · have hc1 : wa.cell? ⟨w1.heap.size, m, none⟩ = some (.float .f64 (zs.getD m 0)) := hRa.out.row m (by rw [← Hl.out]; exact hltk)
              obtain ⟨b, off, ha, hc2⟩ : ∃ b off, a = some ⟨b, off, none⟩ ∧ wa.cell? ⟨b, off + m, none⟩ = some (.float .f64 (zs.getD m 0)) := by
                rcases hF1.out.2 with h1 | ⟨b, off, h1, hb, hc⟩
                · have := Hl.out; rw [h1] at this; simp at this; omega
                · exact ⟨b, off, h1, by rw [Ba.cell (p := ⟨b, off + m, none⟩) hb]; exact hc m (by rw [← Hl.out]; exact hltk)⟩
              subst ha
              have hbt := fun W => bits_any (zs.getD m 0) W
              clear hRa Ba
              generalize zs.getD m 0 = z at *
              go_wp2_with fail
              go_quiet ((go_at_call 15; exact (hbt _).mono fun _ _ ⟨he, hw⟩ => ⟨he, _, hw.symm⟩))
              go_wp2_with fail
              refine ⟨⟨m + 1, n + nq, by omega, by go_num, by rw [hN.out]; simp⟩, by simp [intOf]; omega⟩
            · have hmk : m = k := by omega
              subst hmk
              have hc7 : wa.cell? ⟨w1.heap.size, m, none⟩ = some (.float .f64 4619567317775286272) := by
                have := hRa.out.end7
                rwa [← Hl.out] at this
              have hE := Lib.hid (Below.trans F1 (Ba.mono (Below.size F1)))
              clear hRa Ba
              go_wp2_with fail
              go_ret
              exact ⟨rfl, hE.out⟩
end Go.Proofs.YtldhbelinopniaaDoor
