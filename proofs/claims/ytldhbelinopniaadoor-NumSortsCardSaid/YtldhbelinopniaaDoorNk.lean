/- Walks: reading hexadecimal digits by the library's text; the number of a text, of the program and of the document's answer. -/
import Derived.Test.YtldhbelinopniaaDoorNj
import Derived.Lib.Strings
import Derived.Lib.Walk
import Derived.Lib.ConvBytes
import Derived.Lib.AtoiAllMem
import Derived.Laws.Strings3
import Derived.Laws.Closers25
import Derived.Laws.Closers25b
import Derived.BigCall
import Derived.BigGuard
namespace Tocsin
open Go

/-- A hexadecimal digit's value, of either case; none otherwise. -/
def hexv (c : Nat) : Option Nat := if 48 ≤ c ∧ c ≤ 57 then some (c - 48) else if 97 ≤ (c ||| 32) ∧ (c ||| 32) ≤ 102 then some ((c ||| 32) - 87) else none
/-- What the library's reading of digits of base sixteen comes to. -/
def pu (acc : Nat) : List UInt8 → Option (Option Nat)
  | [] => some (some acc)
  | c :: r => match hexv c.toNat with
    | none => some none
    | some d => if 1152921504606846976 ≤ acc then none else pu (acc * 16 + d) r

/-- What is handed back: the number; that it is no row of digits; that it is too great. -/
def uT (T : TypeId) : Option (Option Nat) → Value
  | some (some n) => .tuple #[.int .u64 n, .nilIface]
  | some none => .tuple #[.int .u64 0, .iface T (.int .i64 2)]
  | none => .tuple #[.int .u64 18446744073709551615, .iface T (.int .i64 1)]

theorem hexv_lt {c d : Nat} (h : hexv c = some d) : d < 16 := by
  unfold hexv at h
  split at h
  · cases h; omega
  · split at h
    · cases h; omega
    · cases h
theorem or_32 (c : Nat) (h : c < 256) : bits .or .u8 (c : Int) 32 = ((c ||| 32 : Nat) : Int) := u8_or_nat c 32 h (by decide)
theorem or_32_le : ∀ c < 256, c ||| 32 ≤ c + 32 := by decide +kernel
theorem or_32_lt (c : Nat) (h : c < 256) : c ||| 32 < 256 := Nat.or_lt_two_pow (n := 8) h (by decide)

end Tocsin
namespace Go.Proofs.YtldhbelinopniaaDoor
open Go.RowKit Go.Lib Tocsin

set_option maxHeartbeats 4000000 in
set_option maxRecDepth 100000 in
/-- internal/strconv.ParseUint(s, 16, 64), s not empty. -/
theorem iParse_any (t : ByteArray) (hne : t.size ≠ 0) (hmax : t.size ≤ 9223372036854775806) (w : World) :
    Calls Tryd.prog 50 #[.string t, .int .i64 16, .int .i64 64] w fun e w' => e = .returned (uT 84 (pu 0 t.data.toList)) ∧ w' = Lib.bytesWorld w 5 t := by
  have hemp : t.toList.isEmpty = false := by
    rw [← decide_eq_emptyBytes]
    exact decide_eq_false (fun h => hne (by rw [h]; rfl))
  have hcv := Lib.run_convert_string_bytes (P := Tryd.prog) w 9 62 5 t (u := .string) Tryd.underlying9 Tryd.underlying62 Tryd.underlying5
  have hB : ∀ j, j < t.size → (Lib.bytesWorld w 5 t).cell? ⟨w.heap.size, j, none⟩ = some (.int .u8 (t.data.toList.getD j 0).toNat) := fun j hj => Lib.bytesWorld_cell w 5 t j hj
  obtain ⟨W1, hW1⟩ : ∃ W1, W1 = Lib.bytesWorld w 5 t := ⟨_, rfl⟩
  rw [← hW1] at hcv hB ⊢
  clear hW1
  obtain ⟨bs, hL⟩ : ∃ bs, bs = t.data.toList := ⟨_, rfl⟩
  have hLn : bs.length = t.size := by rw [hL, Lib.size_eq]
  rw [← hL] at hB ⊢
  clear hL
  have hmv : IntKind.u64.wrap (IntKind.u64.wrap 18446744073709551616 - 1) = 18446744073709551615 := by
    rw [IntKind.wrap_u64, IntKind.wrap_u64]
    decide
  go_enter Tryd.func50, Tryd.ntmps50
  go_wp2
  go_loop [12, 13, 101] (fun vu vn vi => ∃ (k acc : Nat) (a : Int), vu = .bool false ∧ vn = .int .u64 a ∧ vi = .int .i64 k ∧ k ≤ t.size ∧ Hid (a = (acc : Int) ∧ acc < 18446744073709551616 ∧ pu 0 bs = pu acc (bs.drop k)))
    (fun _ _ vi => t.size - (intOf vi).toNat)
  case atStart => exact ⟨0, 0, 0, rfl, rfl, rfl, by omega, rfl, by omega, rfl⟩
  case round =>
    obtain ⟨k, acc, a, rfl, rfl, rfl, hk, hh⟩ := hrel
    obtain ⟨ha, hacc, hdec⟩ := hh.out
    clear hh
    have a0 : 0 ≤ a := by omega
    have a1 : a < 18446744073709551616 := by omega
    by_cases hkn : k < t.size
    · have hc := hB k hkn
      have hdrop : bs.drop k = bs[k]'(by omega) :: bs.drop (k + 1) := List.drop_eq_getElem_cons (by omega)
      have hget : bs.getD k 0 = bs[k]'(by omega) := by simp [List.getD, List.getElem?_eq_getElem (show k < bs.length by omega)]
      rw [hdrop] at hdec
      rw [hget] at hc
      generalize bs[k]'(by omega) = c at hc hdec
      have hc256 : c.toNat < 256 := c.toNat_lt
      have hlo := or_32 c.toNat hc256
      have hlo256 := or_32_lt c.toNat hc256
      have hlc := or_32_le c.toNat hc256
      have hx : Hid (hexv c.toNat = if 48 ≤ c.toNat ∧ c.toNat ≤ 57 then some (c.toNat - 48) else if 97 ≤ (c.toNat ||| 32) ∧ (c.toNat ||| 32) ≤ 102 then some ((c.toNat ||| 32) - 87) else none) := rfl
      have hlow : ∀ W, Calls Tryd.prog 67 #[.int .u8 (c.toNat : Int)] W fun e w' => e = .returned (.int .u8 ((c.toNat ||| 32 : Nat) : Int)) ∧ w' = W := fun W =>
        (Tryd.internal_strconv_lower (c.toNat : Int) W).mono fun e w' ⟨he, hw⟩ => ⟨by rw [he, hlo], hw⟩
      have hlow95 : ∀ W, Calls Tryd.prog 67 #[.int .u8 95] W fun e w' => e = .returned (.int .u8 127) ∧ w' = W := fun W =>
        (Tryd.internal_strconv_lower 95 W).mono fun e w' ⟨he, hw⟩ => ⟨by rw [he, show bits .or .u8 95 32 = 127 by decide +kernel], hw⟩
      have h95 : Hid (c.toNat = 95 → c.toNat ||| 32 = 127) := fun h => by rw [h]; decide
      clear hlo
      generalize c.toNat ||| 32 = lo at *
      clear hB hdrop hget
      by_cases hdig : 48 ≤ c.toNat ∧ c.toNat ≤ 57
      · obtain ⟨hd0, hd1⟩ := hdig
        have hv : hexv c.toNat = some (c.toNat - 48) := by rw [hx.out, if_pos ⟨hd0, hd1⟩]
        clear hlow hlow95 h95 hlo256 hx hlc
        by_cases hcut : 1152921504606846976 ≤ acc
        · have hF : pu acc (c :: bs.drop (k + 1)) = none := by simp [pu, hv, hcut]
          rw [hF] at hdec
          have icut : 1152921504606846976 ≤ a := by omega
          clear hcut hacc hF ha hv
          go_wp2
          go_ret2
          exact ⟨rfl, rfl⟩
        · have hF : pu acc (c :: bs.drop (k + 1)) = pu (acc * 16 + (c.toNat - 48)) (bs.drop (k + 1)) := by simp [pu, hv, hcut]
          have HN : Hid (a * 16 + ((c.toNat : Int) - 48) = ((acc * 16 + (c.toNat - 48) : Nat) : Int) ∧ acc * 16 + (c.toNat - 48) < 18446744073709551616 ∧ pu 0 bs = pu (acc * 16 + (c.toNat - 48)) (bs.drop (k + 1))) := Lib.hid ⟨by omega, by omega, hdec.trans hF⟩
          have icut : a < 1152921504606846976 := by omega
          have iov : a * 16 + ((c.toNat : Int) - 48) < 18446744073709551616 := by omega
          clear hcut hacc hF hdec ha hv
          go_wp2
          refine ⟨⟨k + 1, acc * 16 + (c.toNat - 48), a * 16 + ((c.toNat : Int) - 48), rfl, (by first | rfl | (congr 1; omega)), (by first | rfl | (congr 1; omega)), by omega, HN⟩, by simp [intOf]; omega⟩
      · by_cases hlet : 97 ≤ lo ∧ lo ≤ 102
        · obtain ⟨hd0, hd1⟩ := hlet
          have hv : hexv c.toNat = some (lo - 87) := by rw [hx.out, if_neg hdig, if_pos ⟨hd0, hd1⟩]
          have h57 : 57 < (c.toNat : Int) := by omega
          have hne95 : ((c.toNat : Int) == 95) = false := by
            rw [beq_eq_false_iff_ne]; intro hh; have := h95.out (by omega); omega
          have hN87 : ((lo : Int) - 97 + 10) = ((lo - 87 : Nat) : Int) := by omega
          have hl16 : lo - 87 < 16 := by omega
          clear hx hdig hlow95 h95
          generalize lo - 87 = d at *
          by_cases hcut : 1152921504606846976 ≤ acc
          · have hF : pu acc (c :: bs.drop (k + 1)) = none := by simp [pu, hv, hcut]
            rw [hF] at hdec
            have icut : 1152921504606846976 ≤ a := by omega
            clear hcut hacc hF ha hv hlc
            go_wp2_with (go_at_call 67; refine (hlow _).mono ?_; rintro e w' ⟨rfl, rfl⟩)
            go_ret2
            first | exact ⟨rfl, rfl⟩ | exact ⟨by rw [hdec]; rfl, rfl⟩
          · have hF : pu acc (c :: bs.drop (k + 1)) = pu (acc * 16 + d) (bs.drop (k + 1)) := by simp [pu, hv, hcut]
            have HN : Hid (a * 16 + (d : Int) = ((acc * 16 + d : Nat) : Int) ∧ acc * 16 + d < 18446744073709551616 ∧ pu 0 bs = pu (acc * 16 + d) (bs.drop (k + 1))) := Lib.hid ⟨by omega, by omega, hdec.trans hF⟩
            have icut : a < 1152921504606846976 := by omega
            have iov : a * 16 + (d : Int) < 18446744073709551616 := by omega
            clear hcut hacc hF hdec ha hv hlc
            go_wp2_with (go_at_call 67; refine (hlow _).mono ?_; rintro e w' ⟨rfl, rfl⟩)
            refine ⟨⟨k + 1, acc * 16 + d, a * 16 + (d : Int), rfl, (by first | rfl | (congr 1; omega)), (by first | rfl | (congr 1; omega)), by omega, HN⟩, by simp [intOf]; omega⟩
        · have hv : hexv c.toNat = none := by rw [hx.out, if_neg hdig, if_neg hlet]
          have hF : pu acc (c :: bs.drop (k + 1)) = some none := by simp [pu, hv]
          rw [hF] at hdec
          clear hacc hF ha hv hx hlc
          by_cases c95 : c.toNat = 95
          · rw [c95] at hc
            clear hlow h95 hlo256 hdig hlet hc256
            go_wp2_with (go_at_call 67; refine (hlow95 _).mono ?_; rintro e w' ⟨rfl, rfl⟩)
            all_goals go_ret2
            all_goals first | exact ⟨rfl, rfl⟩ | exact ⟨by rw [hdec]; rfl, rfl⟩
          · have hne95 : ((c.toNat : Int) == 95) = false := by rw [beq_eq_false_iff_ne]; omega
            clear hlow95 h95 c95
            go_wp2_with (go_at_call 67; refine (hlow _).mono ?_; rintro e w' ⟨rfl, rfl⟩)
            all_goals go_ret2
            all_goals first | exact ⟨rfl, rfl⟩ | exact ⟨by rw [hdec]; rfl, rfl⟩
    · have hkk : k = t.size := by omega
      subst hkk
      have hF : pu acc (bs.drop t.size) = some (some acc) := by rw [List.drop_eq_nil_of_le (by omega)]; rfl
      rw [hF] at hdec
      subst ha
      clear hacc hF a0 a1
      go_wp2
      go_ret2
      exact ⟨rfl, rfl⟩

end Go.Proofs.YtldhbelinopniaaDoor
