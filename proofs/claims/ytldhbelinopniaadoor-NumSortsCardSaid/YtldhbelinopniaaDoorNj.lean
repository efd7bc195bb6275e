/- Walks: a uint64 in hexadecimal digits, by the library's text; the words of a number, of the program and of the document's answer. -/
import Derived.Test.YtldhbelinopniaaDoorNi
import Derived.Deep.Heap
namespace Tocsin
open Go

/-- A hexadecimal digit's byte. -/
def hexb (d : Nat) : UInt8 := if d < 10 then (48 + d).toUInt8 else (87 + d).toUInt8
/-- The last n digits, the highest first. -/
def dig (u n : Nat) : List UInt8 := (List.range n).map fun t => hexb (u / 16 ^ (n - 1 - t) % 16)
theorem dig_length (u n : Nat) : (dig u n).length = n := by simp [dig]
theorem dig_get (u n t : Nat) (h' : t < (dig u n).length) : (dig u n)[t] = hexb (u / 16 ^ (n - 1 - t) % 16) := by simp [dig]
theorem dig_zero_cons (u n : Nat) (h : u < 16 ^ n) : 48 :: dig u n = dig u (n + 1) := by
  unfold dig
  rw [List.range_succ_eq_map, List.map_cons, List.map_map]
  congr 1
  · rw [show n + 1 - 1 - 0 = n by omega, Nat.div_eq_of_lt h]; rfl
  · apply List.map_congr_left
    intro t ht
    simp only [Function.comp]
    rw [show n + 1 - 1 - (t + 1) = n - 1 - t by omega]

theorem digit_at (n : Nat) (hn : n < 16) (h : n < (⟨#[48, 49, 50, 51, 52, 53, 54, 55, 56, 57, 97, 98, 99, 100, 101, 102, 103, 104, 105, 106, 107, 108, 109, 110, 111, 112, 113, 114, 115, 116, 117, 118, 119, 120, 121, 122]⟩ : ByteArray).size) :
    (⟨#[48, 49, 50, 51, 52, 53, 54, 55, 56, 57, 97, 98, 99, 100, 101, 102, 103, 104, 105, 106, 107, 108, 109, 110, 111, 112, 113, 114, 115, 116, 117, 118, 119, 120, 121, 122]⟩ : ByteArray)[n]'h = hexb n := by
  match n, hn with
  | 0, _ => rfl
  | 1, _ => rfl
  | 2, _ => rfl
  | 3, _ => rfl
  | 4, _ => rfl
  | 5, _ => rfl
  | 6, _ => rfl
  | 7, _ => rfl
  | 8, _ => rfl
  | 9, _ => rfl
  | 10, _ => rfl
  | 11, _ => rfl
  | 12, _ => rfl
  | 13, _ => rfl
  | 14, _ => rfl
  | 15, _ => rfl
  | n + 16, hn => omega

/-- The row of 65 cells holds the last j digits at its end. -/
def RowAt (arr : Array Value) (u j : Nat) : Prop := arr.size = 65 ∧ ∀ t, t < j → arr[65 - j + t]? = some (.int .u8 ((hexb (u / 16 ^ (j - 1 - t) % 16)).toNat : Int))

theorem RowAt.next {arr : Array Value} {u j : Nat} (h : RowAt arr u j) (hj : j ≤ 64) : RowAt (arr.setIfInBounds (64 - j) (.int .u8 ((hexb (u / 16 ^ j % 16)).toNat : Int))) u (j + 1) := by
  refine ⟨by simp [h.1], fun t ht => ?_⟩
  cases t with
  | zero => rw [show 65 - (j + 1) + 0 = 64 - j by omega, Array.getElem?_setIfInBounds_self_of_lt (by rw [h.1]; omega)]; simp
  | succ t =>
    rw [Array.getElem?_setIfInBounds_ne (by omega), show 65 - (j + 1) + (t + 1) = 65 - j + t by omega, h.2 t (by omega), show j + 1 - 1 - (t + 1) = j - 1 - t by omega]

theorem heap_setCell_row {w : World} {b i : Nat} {arr : Array Value} {T : TypeId} {v : Value} (h : w.heap[b]? = some (.cells arr T (0, 0))) :
    (w.setCell ⟨b, i, none⟩ v).heap[b]? = some (.cells (arr.setIfInBounds i v) T (0, 0)) := by
  have hb := (Array.getElem?_eq_some_iff.1 h).1
  simp [World.setCell, h, Array.getElem?_modify]

theorem cell_row {w : World} {b i : Nat} {arr : Array Value} {T : TypeId} (h : w.heap[b]? = some (.cells arr T (0, 0))) : w.cell? ⟨b, i, none⟩ = arr[i]? := by
  simp [World.cell?, h]
theorem frozen_row {w : World} {b i : Nat} {arr : Array Value} {T : TypeId} (h : w.heap[b]? = some (.cells arr T (0, 0))) : w.frozen? ⟨b, i, none⟩ = false := by
  simp [World.frozen?, h]

theorem addr_plus (b o i : Nat) : (⟨b, o, none⟩ : Addr).add i = ⟨b, o + i, none⟩ := by unfold Addr.add; split <;> simp_all

/-- The cell of the library's table that a shift by four reads. -/
def Shifts (g : Nat) (w : World) : Prop := w.cell? ⟨g, 15, none⟩ = some (.int .u8 4)

end Tocsin
namespace Go.Proofs.YtldhbelinopniaaDoor
open Go.RowKit Go.Lib Tocsin

set_option maxHeartbeats 400000 in
set_option maxRecDepth 100000 in
theorem trailing_any (w : World) (h : Shifts 5 w) : Calls Tryd.prog 81 #[.int .u64 16] w fun e w' => e = .returned (.int .i64 4) ∧ w = w' := by
  have e1 : bits .and .u64 16 (IntKind.u64.wrap (-16)) = 16 := by decide +kernel
  have e2 : IntKind.u64.wrap (16 * 285870213051353865) = 4573923408821661840 := by decide +kernel
  unfold Shifts at h
  go_enter Tryd.func81, Tryd.ntmps81
  go_wp2
  go_ret
  exact ⟨rfl, rfl⟩

theorem zero_row (w : World) : (w.alloc (.cells Tryd.zeroCells99 99)).heap[w.heap.size]? = some (.cells Tryd.zeroCells99 99 (0, 0)) := by
  show (w.heap.push _)[w.heap.size]? = _
  simp

set_option maxHeartbeats 800000 in
set_option maxRecDepth 100000 in
theorem formatBits_any (u : Nat) (hu : u < 18446744073709551616) (w : World) (hs : Shifts 5 w) (hg : 5 < w.heap.size) :
    Calls Tryd.prog 66 #[.slice none 0 0, .int .u64 u, .int .i64 16, .bool false, .bool false] w fun e w' =>
      ∃ n, 1 ≤ n ∧ n ≤ 16 ∧ u < 16 ^ n ∧ e = .returned (.tuple #[.slice none 0 0, .string ⟨(dig u n).toArray⟩]) ∧ Below w.heap.size w w' := by
  have e3 : bits .and .i64 16 15 = 0 := by decide +kernel
  have htz := trailing_any (w.alloc (.cells Tryd.zeroCells99 99)) (by unfold Shifts; rw [World.cell?_alloc_past _ _ _ (by exact hg)]; exact hs)
  have hrow0 := zero_row w
  have hsz0 : Tryd.zeroCells99.size = 65 := by decide +kernel
  have hbel : Below w.heap.size w (w.alloc (.cells Tryd.zeroCells99 99)) := (Below.refl _ _).alloc (Nat.le_refl _) _
  have hw1 : (w.alloc (.cells Tryd.zeroCells99 99)).heap.size = w.heap.size + 1 := by simp
  have Hst : Hid (∃ arr, (w.alloc (.cells Tryd.zeroCells99 99)).heap[w.heap.size]? = some (.cells arr 99 (0, 0)) ∧ RowAt arr u 0) := ⟨_, hrow0, hsz0, fun t ht => by omega⟩
  clear hrow0 hsz0 hw1
  go_enter Tryd.func66, Tryd.ntmps66
  go_wp2_with (first | (go_at_call 81; refine htz.mono ?_; rintro e w' ⟨rfl, rfl⟩) | (go_at_call 80; go_in))
  go_loopw [1, 13] (fun su si wr => ∃ (j v : Nat), j ≤ 15 ∧ su = .int .u64 v ∧ si = .int .i64 (65 - (j : Int)) ∧ Hid (v = u / 16 ^ j) ∧ Below w.heap.size w wr ∧ Hid (∃ arr : Array Value, wr.heap[w.heap.size]? = some (.cells arr 99 (0, 0)) ∧ RowAt arr u j)) (fun su _ _ => (intOf su).toNat)
  case atStart => exact ⟨0, u, by omega, rfl, rfl, by show u = u / 16 ^ 0; simp, hbel, Hst⟩
  case round =>
    obtain ⟨j, v, hj, rfl, rfl, hv, hb, hr⟩ := hrel
    have hdg := fun h => digit_at (v % 16) (Nat.mod_lt _ (by decide)) h
    by_cases hge : 16 ≤ v
    · have hj14 : j ≤ 14 := by
        rcases Nat.lt_or_ge j 15 with h | h
        · omega
        · have : j = 15 := by omega
          subst this
          have hv' := hv.out
          have : u / 16 ^ 15 < 16 := by rw [Nat.div_lt_iff_lt_mul (by decide)]; omega
          omega
      have hv64 : v < 18446744073709551616 := by rw [hv.out]; exact Nat.lt_of_le_of_lt (Nat.div_le_self _ _) hu
      obtain ⟨x, hx⟩ : ∃ x, wr.cell? ⟨w.heap.size, 64 - j, none⟩ = some x := by
        obtain ⟨arr, h1, h2⟩ := hr.out
        rw [cell_row h1]; exact ⟨arr[64 - j]'(by rw [h2.1]; omega), by rw [Array.getElem?_eq_getElem]⟩
      have hf : wr.frozen? ⟨w.heap.size, 64 - j, none⟩ = false := by obtain ⟨arr, h1, h2⟩ := hr.out; exact frozen_row h1
      have hto : (65 - (j : Int) - 1).toNat = 64 - j := by omega
      have hnx : Hid (∃ arr : Array Value, (wr.setCell ⟨w.heap.size, 64 - j, none⟩ (.int .u8 ((hexb (v % 16)).toNat : Int))).heap[w.heap.size]? = some (.cells arr 99 (0, 0)) ∧ RowAt arr u (j + 1)) := by
        obtain ⟨arr, h1, h2⟩ := hr.out
        exact ⟨_, heap_setCell_row h1, by rw [hv.out]; exact h2.next (by omega)⟩
      have hvn : Hid (v / 16 = u / 16 ^ (j + 1)) := by show _ = _; rw [hv.out, Nat.div_div_eq_div_mul, Nat.pow_succ]
      clear hr hv hbel
      go_wp2
      go_roundw
      case rel => exact ⟨j + 1, v / 16, by omega, by go_num, by go_num, hvn, hb.setCell (by simp) _, hnx⟩
      case measure => simp [intOf]; omega
    · have hv64 : v < 16 := by omega
      obtain ⟨x, hx⟩ : ∃ x, wr.cell? ⟨w.heap.size, 64 - j, none⟩ = some x := by
        obtain ⟨arr, h1, h2⟩ := hr.out
        rw [cell_row h1]; exact ⟨arr[64 - j]'(by rw [h2.1]; omega), by rw [Array.getElem?_eq_getElem]⟩
      have hf : wr.frozen? ⟨w.heap.size, 64 - j, none⟩ = false := by obtain ⟨arr, h1, h2⟩ := hr.out; exact frozen_row h1
      have hto : (65 - (j : Int) - 1).toNat = 64 - j := by omega
      have hdg2 : ∀ h, (⟨#[48, 49, 50, 51, 52, 53, 54, 55, 56, 57, 97, 98, 99, 100, 101, 102, 103, 104, 105, 106, 107, 108, 109, 110, 111, 112, 113, 114, 115, 116, 117, 118, 119, 120, 121, 122]⟩ : ByteArray)[v]'h = hexb v := fun h => digit_at v hv64 h
      have hcv : (convert 62 9 (.slice (some ⟨w.heap.size, 64 - j, none⟩) (j + 1) (j + 1))).run Tryd.prog (wr.setCell ⟨w.heap.size, 64 - j, none⟩ (.int .u8 ((hexb v).toNat : Int))) = .ok (.string ⟨(dig u (j + 1)).toArray⟩) (wr.setCell ⟨w.heap.size, 64 - j, none⟩ (.int .u8 ((hexb v).toNat : Int))) := by
        obtain ⟨arr, h1, h2⟩ := hr.out
        have h3 := heap_setCell_row (i := 64 - j) (v := .int .u8 ((hexb v).toNat : Int)) h1
        have h4 : RowAt (arr.setIfInBounds (64 - j) (.int .u8 ((hexb v).toNat : Int))) u (j + 1) := by
          have := h2.next (u := u) (by omega)
          rwa [← hv.out, Nat.mod_eq_of_lt hv64] at this
        have := run_convert_bytes_back (P := Tryd.prog) (wr.setCell ⟨w.heap.size, 64 - j, none⟩ (.int .u8 ((hexb v).toNat : Int))) 62 9 5 ⟨w.heap.size, 64 - j, none⟩ (j + 1) (dig u (j + 1)) Tryd.underlying62 Tryd.underlying5 Tryd.underlying9 (fun t ht => by
          rw [dig_length] at ht
          rw [addr_plus, cell_row h3, show 64 - j + t = 65 - (j + 1) + t by omega, h4.2 t ht, dig_get u (j + 1) t])
        rw [dig_length] at this
        exact this
      have hlast : Hid (u < 16 ^ (j + 1)) := by
        show _ < _
        have := hv.out
        rw [Nat.pow_succ]
        have h16 := Nat.two_pow_pos 1
        have : u / 16 ^ j < 16 := by omega
        rwa [Nat.div_lt_iff_lt_mul (Nat.pow_pos (by decide)), Nat.mul_comm] at this
      have hend : Below w.heap.size w (wr.setCell ⟨w.heap.size, 64 - j, none⟩ (.int .u8 ((hexb v).toNat : Int))) := hb.setCell (by simp) _
      have hal : Tryd.prog.arrayLen 99 = 65 := by kernel_rfl
      have hel : Tryd.prog.elem 99 = 5 := by kernel_rfl
      have hsl : ∀ W, (Instr.sliceAt 99 (.pointer (some ⟨w.heap.size, 0, none⟩)) (some (.int .i64 (65 - (j : Int) - 1))) none none).run Tryd.prog W = .ok (.slice (some ⟨w.heap.size, 64 - j, none⟩) (j + 1) (j + 1)) W := fun W => by
        have hsz : (sizeOf 5).run Tryd.prog W = .ok 1 W := Tryd.sizeOf5 W
        rw [run_sliceAt_array_l W 99 ⟨w.heap.size, 0, none⟩ (by kernel_rfl) .i64 (65 - (j : Int) - 1) (by omega) (by rw [hal]; omega), hal, hel, hsz]
        simp only [Result.andThen, slicedAt]
        rw [if_neg (by omega), addr_plus, hto, show 0 + (64 - j) * 1 = 64 - j by omega, show 65 - (64 - j) = j + 1 by omega]
      clear hr hv hbel hdg hal hel
      go_wp2
      go_ret2
      exact ⟨j + 1, by omega, by omega, hlast.out, rfl, hend⟩

theorem formatUint_any (u : Nat) (hu : u < 18446744073709551616) (w : World) (hs : Shifts 5 w) (hg : 5 < w.heap.size) :
    Calls Tryd.prog 44 #[.int .u64 u, .int .i64 16] w fun e w' =>
      ∃ n, 1 ≤ n ∧ n ≤ 16 ∧ u < 16 ^ n ∧ e = .returned (.string ⟨(dig u n).toArray⟩) ∧ Below w.heap.size w w' := by
  have h1 := formatBits_any u hu w hs hg
  go_enter Tryd.func44, Tryd.ntmps44
  go_wp2_with (first | (go_at_call 49; go_in) | (go_at_call 66; refine h1.mono ?_; rintro e w1 ⟨n, n1, n2, n3, rfl, hb⟩; have N3 := Lib.hid n3; clear n3))
  go_ret
  exact ⟨n, n1, n2, N3.out, rfl, hb⟩

set_option maxHeartbeats 400000 in
theorem print_any (x : Nat) (hx : x < 18446744073709551616) (w : World) (hs : Shifts 5 w) (hg : 5 < w.heap.size) :
    Calls Tryd.prog 31 #[.float .f64 x] w fun e w' => e = .returned (.string ⟨(dig (Tocsin.one x) 16).toArray⟩) ∧ Below w.heap.size w w' := by
  have h1 := one_any x w
  have h2 := formatUint_any (Tocsin.one x) (one_lt x hx) w hs hg
  generalize Tocsin.one x = u at *
  go_enter Tryd.func31, Tryd.ntmps31
  go_wp2_with (first | (go_at_call 16; refine h1.mono ?_; rintro e w' ⟨rfl, rfl⟩) | (go_at_call 44; refine h2.mono ?_; rintro e w1 ⟨n, n1, n2, n3, rfl, hb⟩; have N3 := Lib.hid n3; clear n3))
  go_loop [3] (fun s => ∃ k : Nat, k ≤ 16 ∧ Hid (u < 16 ^ k) ∧ s = .string ⟨(dig u k).toArray⟩) (fun s => match s with | .string b => 16 - b.size | _ => 0)
  case atStart => exact ⟨n, n2, N3, rfl⟩
  case round =>
    obtain ⟨k, hk, hu, rfl⟩ := hrel
    have hsz : (⟨(dig u k).toArray⟩ : ByteArray).size = k := by show (dig u k).toArray.size = k; simp [dig_length]
    by_cases hlt : k < 16
    · have hap : ∀ s : ByteArray, s = ⟨(dig u k).toArray⟩ → (⟨#[48]⟩ : ByteArray) ++ s = ⟨(dig u (k + 1)).toArray⟩ := fun s hs => by
        rw [hs, ← dig_zero_cons u k hu.out]
        apply ByteArray.ext
        rw [ByteArray.data_append]; simp
      have Hap := Lib.hid (hap _ rfl)
      have hun : Hid (u < 16 ^ (k + 1)) := Nat.lt_of_lt_of_le hu.out (Nat.pow_le_pow_right (by decide) (by omega))
      have hsn : Hid (((⟨#[48]⟩ : ByteArray) ++ ⟨(dig u k).toArray⟩).size = k + 1) := by
        show _ = _
        rw [Hap.out]; show (dig u (k + 1)).toArray.size = k + 1; simp [dig_length]
      generalize (⟨(dig u k).toArray⟩ : ByteArray) = b at *
      have hk0 := Lib.hid hsz
      have hbl : b.size < 16 := by omega
      clear hap hsz
      go_wp2
      go_round
      case rel => exact ⟨k + 1, by omega, hun, by rw [Hap.out]⟩
      case measure =>
        have e1 := hk0.out
        have e2 := hsn.out
        show 16 - (_ : ByteArray).size < 16 - b.size
        rw [e1, e2]; omega
    · have : k = 16 := by omega
      subst this
      generalize hb : (⟨(dig u 16).toArray⟩ : ByteArray) = b at *
      have Hb := Lib.hid hb
      have hbl : ¬ b.size < 16 := by omega
      clear hsz hb
      go_wp2
      go_ret
      exact ⟨by rw [Hb.out]; rfl, by assumption⟩

theorem hex_get (n : Nat) (hn : n < 16) : ∀ h, (⟨#[48, 49, 50, 51, 52, 53, 54, 55, 56, 57, 97, 98, 99, 100, 101, 102]⟩ : ByteArray)[n]'h = hexb n := by
  intro h
  match n, hn with
  | 0, _ => rfl
  | 1, _ => rfl
  | 2, _ => rfl
  | 3, _ => rfl
  | 4, _ => rfl
  | 5, _ => rfl
  | 6, _ => rfl
  | 7, _ => rfl
  | 8, _ => rfl
  | 9, _ => rfl
  | 10, _ => rfl
  | 11, _ => rfl
  | 12, _ => rfl
  | 13, _ => rfl
  | 14, _ => rfl
  | 15, _ => rfl
  | n + 16, hn => omega

theorem byteInfo : (Tryd.prog.info? 5).map (fun i => (i.zero, i.size, i.bytes)) = some (some (.int .u8 0), 1, 1) := by kernel_rfl

def byteV (b : UInt8) : Value := .int .u8 (b.toNat : Int)
theorem dig_snoc (u k : Nat) (hk : k < 16) : (dig u 16).take (k + 1) = (dig u 16).take k ++ [hexb (u / 16 ^ (15 - k) % 16)] := by
  rw [List.take_succ_eq_append_getElem (by rw [dig_length]; omega), dig_get]

set_option maxHeartbeats 400000 in
set_option maxRecDepth 100000 in
theorem refPrint_any (x : Nat) (hx : x < 18446744073709551616) (w : World) :
    Calls Tryd.prog 34 #[.float .f64 x] w fun e w' => e = .returned (.string ⟨(dig (Tocsin.one x) 16).toArray⟩) ∧ Below w.heap.size w w' := by
  have h1 := refOne_any x w
  have hu := one_lt x hx
  obtain ⟨i0, hi, hz0, hz1, hz2⟩ := info_parts byteInfo
  generalize Tocsin.one x = u at *
  have hown0 : w.ownsRow w.heap.size 5 1 (.slice none 0 0) 0 [] := ⟨rfl, .inl ⟨rfl, rfl⟩⟩
  go_enter Tryd.func34, Tryd.ntmps34
  go_wp2_with (go_at_call 17; refine h1.mono ?_; rintro e w' ⟨rfl, rfl⟩)
  go_loopw [5, 6] (fun out i wr => ∃ k : Nat, k ≤ 16 ∧ i = .int .i64 (60 - 4 * (k : Int)) ∧ wr.ownsRow w.heap.size 5 1 out k (((dig u 16).take k).map byteV) ∧ Below w.heap.size w wr) (fun _ i _ => (64 + intOf i).toNat)
  case atStart => exact ⟨0, by omega, rfl, hown0, Below.refl _ _⟩
  case round =>
    obtain ⟨k, hk, rfl, hown, hb⟩ := hrel
    by_cases hlt : k < 16
    · have hsh : (60 - 4 * (k : Int)).toNat = 4 * (15 - k) := by omega
      have hpw : (u : Int) / 2 ^ (4 * (15 - k)) = ((u / 16 ^ (15 - k) : Nat) : Int) := by
        have e : 2 ^ (4 * (15 - k)) = 16 ^ (15 - k) := by rw [Nat.pow_mul]
        rw [show (2 : Int) ^ (4 * (15 - k)) = ((2 ^ (4 * (15 - k)) : Nat) : Int) by simp, e, ← Int.natCast_ediv]
      have hdg := hex_get (u / 16 ^ (15 - k) % 16) (Nat.mod_lt _ (by decide))
      have hsn : Hid (((dig u 16).take (k + 1)).map byteV = ((dig u 16).take k).map byteV ++ [.int .u8 ((hexb (u / 16 ^ (15 - k) % 16)).toNat : Int)]) := by
        show _ = _
        rw [dig_snoc u k hlt, List.map_append]; rfl
      generalize u / 16 ^ (15 - k) = d at *
      go_wp2_with (at_builtin; refine wpList_append_own _ rfl _ _ 62 rfl w.heap.size 5 i0 (.int .u8 0) 1 1 Tryd.underlying62 hi hz0 hz1 hz2 rfl (by decide) _ k _ rfl (hown.alloc _) ⟨wr.heap.size, 0, none⟩ 1 1 [.int .u8 ((hexb (d % 16)).toNat : Int)] rfl rfl (cell_one_new _ _ _) (by intro u hu; simp at hu; subst hu; rfl) (by unfold maxLen; omega) (by omega) (by have := hb.size; simp; omega) ?_; intro v' w1 hown1 hgrow1 _hn)
      go_roundw
      case rel => exact ⟨k + 1, by omega, by go_num, by rw [hsn.out]; exact hown1, (hb.alloc hb.size _).grown hgrow1 (by simp; have := hb.size; omega) (fun j hj => (hown.lt j hj).1)⟩
      case measure => simp [intOf]; omega
    · have hk16 : k = 16 := by omega
      subst hk16
      have hcv : (convert 62 9 u5).run Tryd.prog wr = .ok (.string ⟨(dig u 16).toArray⟩) wr := by
        have hrow := hown
        rcases hrow.2 with ⟨hnil, hx⟩ | ⟨g, cp, cur, hv, hbase, hblk, h1', h2', h3', h4'⟩
        · cases hx
        · subst hv
          have := run_convert_bytes_back (P := Tryd.prog) wr 62 9 5 ⟨g, 0, none⟩ cp (dig u 16) Tryd.underlying62 Tryd.underlying5 Tryd.underlying9 (fun t ht => by
            rw [addr_plus, Nat.zero_add, hown.cellAt t (by rw [dig_length] at ht; omega), List.take_of_length_le (by rw [dig_length]; omega), List.getElem?_map, List.getElem?_eq_getElem ht]; rfl)
          rw [dig_length] at this
          exact this
      clear hown
      go_wp2
      go_ret
      exact ⟨rfl, hb⟩

end Go.Proofs.YtldhbelinopniaaDoor
