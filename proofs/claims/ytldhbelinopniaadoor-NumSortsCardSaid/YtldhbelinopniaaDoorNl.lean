/- Walks: the number of a text, of the program and of the document's answer; that both are one. -/
import Derived.Test.YtldhbelinopniaaDoorNk
import Derived.Lib.LazyBuf
namespace Tocsin
open Go
open Go.RowKit (Below Hid)

theorem pu_lt : ∀ (l : List UInt8) (acc n : Nat), acc < 18446744073709551616 → pu acc l = some (some n) → n < 18446744073709551616
  | [], acc, n, ha, h => by simp only [pu, Option.some.injEq] at h; omega
  | c :: r, acc, n, ha, h => by
    unfold pu at h
    cases hv : hexv c.toNat with
    | none => rw [hv] at h; cases h
    | some d =>
      rw [hv] at h
      have := hexv_lt hv
      by_cases hc : 1152921504606846976 ≤ acc
      · simp [hc] at h
      · simp [hc] at h
        exact pu_lt r _ n (by omega) h

/-- The library's answer, the empty text with it. -/
def puS (l : List UInt8) : Option (Option Nat) := if l = [] then some none else pu 0 l
theorem puS_lt {l : List UInt8} {n : Nat} (h : puS l = some (some n)) : n < 18446744073709551616 := by
  unfold puS at h; split at h
  · cases h
  · exact pu_lt l 0 n (by decide) h

/-- What is laid in memory ahead of all, below block B: a cell of a table, the two errors. -/
structure GTabs (g5 g2 g3 : Nat) (w : World) : Prop where
  shifts : Shifts g5 w
  syn : ∃ ev, w.cell? ⟨g2, 0, none⟩ = some ev ∧ (ev = .nilIface ∨ ∃ te pe, ev = .iface te pe)
  rng : ∃ ev, w.cell? ⟨g3, 0, none⟩ = some ev ∧ (ev = .nilIface ∨ ∃ te pe, ev = .iface te pe)
  b5 : g5 < w.heap.size
  b2 : g2 < w.heap.size
  b3 : g3 < w.heap.size

theorem GTabs.later {g5 g2 g3 : Nat} {w w' : World} (h : GTabs g5 g2 g3 w) (hb : Below w.heap.size w w') : GTabs g5 g2 g3 w' where
  shifts := by unfold Shifts; rw [hb.cell (p := ⟨g5, 15, none⟩) h.b5]; exact h.shifts
  syn := by rw [hb.cell (p := ⟨g2, 0, none⟩) h.b2]; exact h.syn
  rng := by rw [hb.cell (p := ⟨g3, 0, none⟩) h.b3]; exact h.rng
  b5 := Nat.lt_of_lt_of_le h.b5 hb.size
  b2 := Nat.lt_of_lt_of_le h.b2 hb.size
  b3 := Nat.lt_of_lt_of_le h.b3 hb.size

end Tocsin
namespace Go.Proofs.YtldhbelinopniaaDoor
open Go.RowKit Go.Lib Tocsin

abbrev Laid (w : World) : Prop := GTabs 5 2 3 w

theorem below_bytes (w : World) (t : ByteArray) : Below w.heap.size w (Lib.bytesWorld w 5 t) := by
  have hb : Below w.heap.size w (w.drew.alloc (.cells (Lib.bytesCells w 5 t) 5)) := ((Below.refl _ w).drew).alloc (Nat.le_refl _) _
  exact Lib.below_freeze hb (p := ⟨w.heap.size, _, none⟩) (Nat.le_refl _) _

set_option maxHeartbeats 400000 in
set_option maxRecDepth 100000 in
theorem iParse_none (w : World) : Calls Tryd.prog 50 #[.string ⟨#[]⟩, .int .i64 16, .int .i64 64] w fun e w' => e = .returned (.tuple #[.int .u64 0, .iface 84 (.int .i64 2)]) ∧ w' = w := by
  go_enter Tryd.func50, Tryd.ntmps50
  go_wp2
  go_ret2
  exact ⟨rfl, rfl⟩

set_option maxHeartbeats 400000 in
theorem parseUint_ok (s : ByteArray) (n : Nat) (h : puS s.data.toList = some (some n)) (hmax : s.size ≤ 140737488355328) (w : World) :
    Calls Tryd.prog 45 #[.string s, .int .i64 16, .int .i64 64] w fun e w' => e = .returned (.tuple #[.int .u64 n, .nilIface]) ∧ Below w.heap.size w w' := by
  have hne : s.size ≠ 0 := by
    intro h0
    have : s.data.toList = [] := List.eq_nil_of_length_eq_zero (by rw [← Lib.size_eq]; exact h0)
    unfold puS at h; rw [if_pos this] at h; cases h
  have hp : pu 0 s.data.toList = some (some n) := by
    unfold puS at h; split at h
    · cases h
    · exact h
  have h1 := iParse_any s hne (by omega) w
  rw [hp] at h1
  simp only [uT] at h1
  have hb := below_bytes w s
  generalize Lib.bytesWorld w 5 s = W1 at *
  clear h hp hne
  go_enter Tryd.func45, Tryd.ntmps45
  go_wp2_with fail
  refine h1.mono ?_
  rintro e w' ⟨rfl, rfl⟩
  go_wp2_with fail
  go_ret2
  exact ⟨rfl, hb⟩

set_option maxHeartbeats 400000 in
theorem parseUint_core (s : ByteArray) (v k : Int) (w : World) (h1 : Calls Tryd.prog 50 #[.string s, .int .i64 16, .int .i64 64] w fun e w' => e = .returned (.tuple #[.int .u64 v, .iface 84 (.int .i64 k)]) ∧ Below w.heap.size w w')
    (h2 : ∀ W, Below w.heap.size w W → Calls Tryd.prog 51 #[.string ⟨#[80, 97, 114, 115, 101, 85, 105, 110, 116]⟩, .string s, .int .i64 16, .int .i64 64, .iface 84 (.int .i64 k)] W fun e w' => (∃ N, e = .returned (.iface 87 (.pointer (some ⟨N, 0, none⟩)))) ∧ Below W.heap.size W w') :
    Calls Tryd.prog 45 #[.string s, .int .i64 16, .int .i64 64] w fun e w' => (∃ N, e = .returned (.tuple #[.int .u64 v, .iface 87 (.pointer (some ⟨N, 0, none⟩))])) ∧ Below w.heap.size w w' := by
  go_enter Tryd.func45, Tryd.ntmps45
  go_wp2_with fail
  refine h1.mono ?_
  rintro e w1 ⟨rfl, hb1⟩
  go_wp2_with fail
  refine (h2 w1 hb1).mono ?_
  rintro e w2 ⟨⟨N, rfl⟩, hb2⟩
  have HB : Hid (Below w.heap.size w w2) := hb1.trans (hb2.mono hb1.size)
  clear hb1 hb2
  go_wp2_with fail
  go_ret2
  exact ⟨⟨N, rfl⟩, HB.out⟩

theorem parseUint_bad (s : ByteArray) (h : ∀ n, puS s.data.toList ≠ some (some n)) (hmax : s.size ≤ 140737488355328) (w : World) (L : Laid w) :
    Calls Tryd.prog 45 #[.string s, .int .i64 16, .int .i64 64] w fun e w' => (∃ v : Int, ∃ N, 0 ≤ v ∧ v < 18446744073709551616 ∧ e = .returned (.tuple #[.int .u64 v, .iface 87 (.pointer (some ⟨N, 0, none⟩))])) ∧ Below w.heap.size w w' := by
  have hsyn : ∀ W, Below w.heap.size w W → Calls Tryd.prog 51 #[.string ⟨#[80, 97, 114, 115, 101, 85, 105, 110, 116]⟩, .string s, .int .i64 16, .int .i64 64, .iface 84 (.int .i64 2)] W fun e w' => (∃ N, e = .returned (.iface 87 (.pointer (some ⟨N, 0, none⟩)))) ∧ Below W.heap.size W w' := fun W hb => by
    obtain ⟨ev, hv, hev⟩ := (L.later hb).syn
    exact (Tryd.strconv_toError_syntax _ s 16 64 ev W (by omega) hv hev).mono fun e w' ⟨N, he, _, _, hB⟩ => ⟨⟨N, he⟩, hB⟩
  have hrng : ∀ W, Below w.heap.size w W → Calls Tryd.prog 51 #[.string ⟨#[80, 97, 114, 115, 101, 85, 105, 110, 116]⟩, .string s, .int .i64 16, .int .i64 64, .iface 84 (.int .i64 1)] W fun e w' => (∃ N, e = .returned (.iface 87 (.pointer (some ⟨N, 0, none⟩)))) ∧ Below W.heap.size W w' := fun W hb => by
    obtain ⟨ev, hv, hev⟩ := (L.later hb).rng
    exact (Tryd.strconv_toError_range _ s 16 64 ev W (by omega) hv hev).mono fun e w' ⟨N, he, _, _, hB⟩ => ⟨⟨N, he⟩, hB⟩
  by_cases hne : s.size = 0
  · have hs : s = ⟨#[]⟩ := by
      apply ByteArray.ext
      exact Array.eq_empty_of_size_eq_zero hne
    have h1 := iParse_none w
    rw [← hs] at h1
    exact (parseUint_core s 0 2 w (h1.mono fun e w' ⟨he, hw⟩ => ⟨he, by rw [hw]; exact Below.refl _ _⟩) hsyn).mono fun e w' ⟨⟨N, he⟩, hb⟩ => ⟨⟨0, N, by omega, by omega, he⟩, hb⟩
  · have h1 := iParse_any s hne (by omega) w
    have hl : s.data.toList ≠ [] := fun hh => hne (by rw [Lib.size_eq, hh]; rfl)
    have hb := below_bytes w s
    rcases hp : pu 0 s.data.toList with _ | _ | n
    case some.some => exact absurd (by unfold puS; rw [if_neg hl]; exact hp) (h n)
    case some.none =>
      rw [hp] at h1
      simp only [uT] at h1
      exact (parseUint_core s 0 2 w (h1.mono fun e w' ⟨he, hw⟩ => ⟨he, by rw [hw]; exact hb⟩) hsyn).mono fun e w' ⟨⟨N, he⟩, hb⟩ => ⟨⟨0, N, by omega, by omega, he⟩, hb⟩
    case none =>
      rw [hp] at h1
      simp only [uT] at h1
      exact (parseUint_core s 18446744073709551615 1 w (h1.mono fun e w' ⟨he, hw⟩ => ⟨he, by rw [hw]; exact hb⟩) hrng).mono fun e w' ⟨⟨N, he⟩, hb⟩ => ⟨⟨_, N, by omega, by omega, he⟩, hb⟩

/-- The number of a text, and the error. -/
def parseW (l : List UInt8) : Nat × Int := match puS l with
  | some (some n) => if dig (Tocsin.one n) 16 = l then (n, 0) else (0, 2)
  | _ => (0, 2)

set_option maxHeartbeats 400000 in
theorem parse_any (s : ByteArray) (hmax : s.size ≤ 140737488355328) (w : World) (L : Laid w) :
    Calls Tryd.prog 32 #[.string s] w fun e w' => e = .returned (.tuple #[.float .f64 (parseW s.data.toList).1, .int .i64 (parseW s.data.toList).2]) ∧ Below w.heap.size w w' := by
  by_cases hok : ∃ n, puS s.data.toList = some (some n)
  · obtain ⟨n, hn⟩ := hok
    have hn64 := puS_lt hn
    have h1 := parseUint_ok s n hn hmax w
    have h2 : ∀ W, Below w.heap.size w W → Calls Tryd.prog 31 #[.float .f64 n] W fun e w' => e = .returned (.string ⟨(dig (Tocsin.one n) 16).toArray⟩) ∧ Below W.heap.size W w' := fun W hb =>
      print_any n hn64 W (L.later hb).shifts (L.later hb).b5
    have hp : parseW s.data.toList = if dig (Tocsin.one n) 16 = s.data.toList then (n, 0) else (0, 2) := by unfold parseW; rw [hn]
    rw [hp]
    clear hn hp
    generalize dig (Tocsin.one n) 16 = d at *
    by_cases he : d = s.data.toList
    · rw [if_pos he]
      go_enter Tryd.func32, Tryd.ntmps32
      go_wp2_with fail
      refine h1.mono ?_
      rintro e w1 ⟨rfl, hb1⟩
      go_wp2_with fail
      refine (h2 w1 hb1).mono ?_
      rintro e w2 ⟨rfl, hb2⟩
      have HB : Hid (Below w.heap.size w w2) := hb1.trans (hb2.mono hb1.size)
      clear hb1 hb2
      go_wp2_with fail
      go_ret2
      exact ⟨rfl, HB.out⟩
    · rw [if_neg he]
      have hd : (d == s.toList) = false := by rw [Lib.toList_data]; simpa using he
      go_enter Tryd.func32, Tryd.ntmps32
      go_wp2_with fail
      refine h1.mono ?_
      rintro e w1 ⟨rfl, hb1⟩
      go_wp2_with fail
      refine (h2 w1 hb1).mono ?_
      rintro e w2 ⟨rfl, hb2⟩
      have HB : Hid (Below w.heap.size w w2) := hb1.trans (hb2.mono hb1.size)
      clear hb1 hb2
      go_wp2_with fail
      go_ret2
      exact ⟨rfl, HB.out⟩
  · have hbad : ∀ n, puS s.data.toList ≠ some (some n) := fun n hn => hok ⟨n, hn⟩
    have h1 := parseUint_bad s hbad hmax w L
    have hp : parseW s.data.toList = (0, 2) := by
      unfold parseW
      rcases hq : puS s.data.toList with _ | _ | n
      · rfl
      · rfl
      · exact absurd hq (hbad n)
    rw [hp]
    clear hbad hok hp
    go_enter Tryd.func32, Tryd.ntmps32
    go_wp2_with fail
    refine h1.mono ?_
    rintro e w1 ⟨⟨v, N, v0, v1, rfl⟩, hb1⟩
    go_wp2_with fail
    go_ret2
    exact ⟨rfl, hb1⟩

end Go.Proofs.YtldhbelinopniaaDoor
