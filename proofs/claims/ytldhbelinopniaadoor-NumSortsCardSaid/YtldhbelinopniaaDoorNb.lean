/- How the walk's bit operations on uint64 read as remainders and quotients; the calls that have no Go text. -/
import Derived.Test.YtldhbelinopniaaDoorProg
import Derived.Laws.BitsAllLaws
import Derived.WalkKit
import Derived.WalkSpells
import Derived.WalkLawsBesides
namespace Tocsin
open Go

theorem and_mask_u64 (k : Nat) (hk : k ≤ 63) (n : Int) : bits .and .u64 n (2 ^ k - 1) = n % 2 ^ k := by
  have h63 : (2 : Nat) ^ k ≤ 2 ^ 63 := Nat.pow_le_pow_right (by decide) hk
  have hp : 0 < (2 : Nat) ^ k := Nat.two_pow_pos k
  have e1 : (BitVec.ofInt 64 n).toNat = (n % 18446744073709551616).toNat := by simp [BitVec.toNat_ofInt]
  have e2 : ((2 : Int) ^ k - 1) = ((2 ^ k - 1 : Nat) : Int) := by rw [Int.natCast_sub hp]; simp
  have e3 : (BitVec.ofInt 64 ((2 : Int) ^ k - 1)).toNat = 2 ^ k - 1 := by rw [e2]; simp; omega
  have e4 : bits .and .u64 n (2 ^ k - 1) = IntKind.u64.wrap (((BitVec.ofInt 64 n).toNat &&& (BitVec.ofInt 64 ((2 : Int) ^ k - 1)).toNat : Nat) : Int) := by
    simp only [bits, BitVec.toNat_and]; rfl
  rw [e4, e1, e3, Nat.and_two_pow_sub_one_eq_mod, IntKind.wrap_u64]
  obtain ⟨c, hc⟩ : ∃ c, (2 : Nat) ^ 64 = 2 ^ k * c := ⟨2 ^ (64 - k), by rw [← Nat.pow_add]; congr 1; omega⟩
  have hc' : (18446744073709551616 : Int) = ((2 ^ k : Nat) : Int) * c := by rw [← Int.natCast_mul, ← hc]; rfl
  have e5 : (((n % 18446744073709551616).toNat % 2 ^ k : Nat) : Int) = n % (2 ^ k : Nat) := by
    rw [Int.natCast_emod, Int.toNat_of_nonneg (by omega), hc', Int.emod_emod_of_dvd _ (Int.dvd_mul_right _ _)]
  have e6 : n % (2 ^ k : Nat) < (2 ^ k : Nat) := Int.emod_lt_of_pos _ (by omega)
  have e7 : 0 ≤ n % (2 ^ k : Nat) := Int.emod_nonneg _ (by omega)
  rw [e5, Int.emod_eq_of_lt e7 (by omega)]
  simp

@[go_sem] theorem and_1 (n : Int) : bits .and .u64 n 1 = n % 2 := and_mask_u64 1 (by decide) n
@[go_sem] theorem and_15 (n : Int) : bits .and .u64 n 15 = n % 16 := and_mask_u64 4 (by decide) n
@[go_sem] theorem and_2047 (n : Int) : bits .and .u64 n 2047 = n % 2048 := and_mask_u64 11 (by decide) n
@[go_sem] theorem and_52 (n : Int) : bits .and .u64 n 4503599627370495 = n % 4503599627370496 := and_mask_u64 52 (by decide) n
theorem and_63 (n : Int) : bits .and .u64 n 9223372036854775807 = n % 9223372036854775808 := and_mask_u64 63 (by decide) n

/-- A test against a great number, kept closed: what looks at a hypothesis must not count the number up. -/
def isInfB (m : Int) : Bool := m == 9218868437227405312
theorem isInfB_iff (m : Int) : isInfB m = true ↔ m = 9218868437227405312 := by simp [isInfB]
theorem isInfB_iff' (m : Int) : isInfB m = false ↔ ¬ m = 9218868437227405312 := by simp [isInfB]
@[go_sem] theorem isInfB_eq (m : Int) : (m == 9218868437227405312) = isInfB m := rfl
def bigGe (c m : Int) : Bool := decide (c ≤ m)
theorem bigGe_iff (c m : Int) : bigGe c m = true ↔ c ≤ m := by simp [bigGe]
theorem bigGe_iff' (c m : Int) : bigGe c m = false ↔ ¬ c ≤ m := by simp [bigGe]
@[go_sem] theorem bigGe_52 (m : Int) : decide ((4503599627370496 : Int) ≤ m) = bigGe 4503599627370496 m := rfl
@[go_sem] theorem bigGe_63 (m : Int) : decide ((9223372036854775808 : Int) ≤ m) = bigGe 9223372036854775808 m := rfl
def is52B (m : Int) : Bool := m == 4503599627370496
theorem is52B_iff (m : Int) : is52B m = true ↔ m = 4503599627370496 := by simp [is52B]
theorem is52B_iff' (m : Int) : is52B m = false ↔ ¬ m = 4503599627370496 := by simp [is52B]
@[go_sem] theorem is52B_eq (m : Int) : (m == 4503599627370496) = is52B m := rfl
attribute [irreducible] isInfB bigGe is52B

end Tocsin
namespace Go.Proofs.YtldhbelinopniaaDoor
@[go_sem] theorem call_bits (x : Nat) (w : World) : (callFunc 35 #[.float .f64 x]).run Tryd.prog w = .ok (.value (.int .u64 x)) w := by kernel_rfl
@[go_sem] theorem call_from (n : Int) (w : World) : (callFunc 38 #[.int .u64 n]).run Tryd.prog w = .ok (.value (.float .f64 n.toNat)) w := by kernel_rfl
end Go.Proofs.YtldhbelinopniaaDoor
