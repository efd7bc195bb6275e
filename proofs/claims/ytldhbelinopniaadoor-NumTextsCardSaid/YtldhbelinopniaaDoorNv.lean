/- The document's answer on texts, plain and walked. -/
import Derived.Test.YtldhbelinopniaaDoorNl
import Derived.Test.YtldhbelinopniaaDoorNq
import Derived.BigGuard
import Derived.Laws.Strings3
namespace Tocsin
open Go
open Go.RowKit (Below Hid)

def lowv (c : Nat) : Option Nat := if 48 ≤ c ∧ c ≤ 57 then some (c - 48) else if 97 ≤ c ∧ c ≤ 102 then some (c - 87) else none
/-- A row of small hexadecimal digits. -/
def lowF (acc : Nat) : List UInt8 → Option Nat
  | [] => some acc
  | c :: r => match lowv c.toNat with
    | none => none
    | some d => lowF (acc * 16 + d) r
def refParseW (l : List UInt8) : Nat × Int :=
  if l.length = 16 then match lowF 0 l with
    | none => (0, 2)
    | some u => if isNan u = true ∧ u ≠ 9221120237041090561 then (0, 2) else (u, 0)
  else (0, 2)

theorem lowv_lt {c d : Nat} (h : lowv c = some d) : d < 16 := by
  unfold lowv at h
  split at h
  · cases h; omega
  · split at h
    · cases h; omega
    · cases h
theorem hexb_lowv : ∀ d < 16, lowv (hexb d).toNat = some d := by decide +kernel
theorem hexb_hexv : ∀ d < 16, hexv (hexb d).toNat = some d := by decide +kernel
theorem lowv_hexb {c : UInt8} {d : Nat} (h : lowv c.toNat = some d) : c = hexb d := by
  have hc := c.toNat_lt
  have e : c = c.toNat.toUInt8 := by simp
  unfold lowv at h
  split at h
  · cases h
    rw [e]; unfold hexb
    simp only [Nat.toUInt8_eq, UInt8.toNat_ofNat']
    rw [if_pos (by simp; omega)]
    congr 1; simp; omega
  · split at h
    · cases h
      rw [e]; unfold hexb
      simp only [Nat.toUInt8_eq, UInt8.toNat_ofNat']
      rw [if_neg (by simp; omega)]
      congr 1; simp; omega
    · cases h

theorem dig_cons (u n : Nat) : dig u (n + 1) = hexb (u / 16 ^ n % 16) :: dig u n := by
  unfold dig
  rw [List.range_succ_eq_map]
  simp only [List.map_cons, List.map_map]
  congr 1
  apply List.map_congr_left
  intro t _
  simp only [Function.comp]
  rw [show n + 1 - 1 - (t + 1) = n - 1 - t by omega]

theorem lowF_dig (u : Nat) : ∀ (n acc : Nat), lowF acc (dig u n) = some (acc * 16 ^ n + u % 16 ^ n)
  | 0, acc => by simp [dig, lowF, Nat.mod_one]
  | n + 1, acc => by
    rw [dig_cons, lowF, hexb_lowv _ (Nat.mod_lt _ (by decide))]
    show lowF (acc * 16 + u / 16 ^ n % 16) (dig u n) = _
    rw [lowF_dig u n]
    congr 1
    rw [Nat.pow_succ, Nat.mod_mul, Nat.add_mul, Nat.mul_assoc, Nat.mul_comm 16 (16 ^ n), Nat.mul_comm (u / 16 ^ n % 16)]
    omega

theorem pu_dig (u : Nat) : ∀ (n acc : Nat), n ≤ 16 → acc < 16 ^ (16 - n) → pu acc (dig u n) = some (some (acc * 16 ^ n + u % 16 ^ n))
  | 0, acc, _, _ => by simp [dig, pu, Nat.mod_one]
  | n + 1, acc, hn, ha => by
    have hd := Nat.mod_lt (u / 16 ^ n) (show 16 > 0 by decide)
    have e : 16 ^ (16 - n) = 16 ^ (16 - (n + 1)) * 16 := by rw [← Nat.pow_succ]; congr 1; omega
    have hle : 16 ^ (16 - (n + 1)) ≤ 16 ^ 15 := Nat.pow_le_pow_right (by decide) (by omega)
    have hc : ¬ 1152921504606846976 ≤ acc := by
      have : (16 : Nat) ^ 15 = 1152921504606846976 := by decide
      omega
    rw [dig_cons, pu, hexb_hexv _ hd]
    simp only [hc, if_false]
    rw [pu_dig u n _ (by omega) (by omega)]
    congr 2
    rw [Nat.pow_succ, Nat.mod_mul, Nat.add_mul, Nat.mul_assoc, Nat.mul_comm 16 (16 ^ n), Nat.mul_comm (u / 16 ^ n % 16)]
    omega

theorem lowF_back : ∀ (l : List UInt8) (acc u : Nat), lowF acc l = some u → l = dig u l.length ∧ u / 16 ^ l.length = acc
  | [], acc, u, h => by
    simp only [lowF, Option.some.injEq] at h
    subst h
    simp [dig]
  | c :: r, acc, u, h => by
    unfold lowF at h
    cases hv : lowv c.toNat with
    | none => rw [hv] at h; cases h
    | some d =>
      rw [hv] at h
      obtain ⟨h1, h2⟩ := lowF_back r (acc * 16 + d) u h
      have hd := lowv_lt hv
      simp only [List.length_cons]
      constructor
      · rw [dig_cons, ← h1, h2, lowv_hexb hv]
        congr 2; omega
      · rw [Nat.pow_succ, ← Nat.div_div_eq_div_mul, h2]; omega

theorem lowF_dig16 (u : Nat) (hu : u < 18446744073709551616) : lowF 0 (dig u 16) = some u := by
  rw [lowF_dig u 16 0]
  congr 1
  rw [show (16 : Nat) ^ 16 = 18446744073709551616 by decide, Nat.mod_eq_of_lt hu]; omega
theorem puS_dig16 (u : Nat) (hu : u < 18446744073709551616) : puS (dig u 16) = some (some u) := by
  unfold puS
  have hne : dig u 16 ≠ [] := fun h => by have := dig_length u 16; rw [h] at this; cases this
  rw [if_neg hne, pu_dig u 16 0 (by decide) (by decide)]
  congr 2
  rw [show (16 : Nat) ^ 16 = 18446744073709551616 by decide, Nat.mod_eq_of_lt hu]; omega
theorem dig16_inj {u v : Nat} (hu : u < 18446744073709551616) (hv : v < 18446744073709551616) (h : dig u 16 = dig v 16) : u = v := by
  have a := lowF_dig16 u hu
  rw [h, lowF_dig16 v hv] at a
  exact (Option.some.inj a).symm
theorem one_fix (u : Nat) : Tocsin.one u = u ↔ ¬ (isNan u = true ∧ u ≠ 9221120237041090561) := by
  unfold Tocsin.one
  split
  · rename_i h
    constructor
    · rintro e ⟨-, h2⟩; exact h2 e.symm
    · intro h2
      rcases Nat.decEq u 9221120237041090561 with h3 | h3
      · exact absurd ⟨h, h3⟩ h2
      · exact h3.symm
  · rename_i h
    simp [h]

end Tocsin
namespace Go.Proofs.YtldhbelinopniaaDoor
open Go.RowKit Go.Lib Tocsin
/-- Both answers are one. -/
theorem parse_ref (l : List UInt8) : parseW l = refParseW l := by
  by_cases hl : l.length = 16
  · cases hf : lowF 0 l with
    | some u =>
      obtain ⟨h1, h2⟩ := lowF_back l 0 u hf
      rw [hl] at h1 h2
      have hu : u < 18446744073709551616 := by
        have e : (16 : Nat) ^ 16 = 18446744073709551616 := by decide
        rw [e] at h2; omega
      have ho := one_lt u hu
      unfold parseW refParseW
      rw [if_pos hl, hf, h1, puS_dig16 u hu]
      simp only
      by_cases h3 : Tocsin.one u = u
      · rw [h3, if_pos rfl, if_neg ((one_fix u).1 h3)]
      · rw [if_neg (fun e => h3 (dig16_inj ho hu e)), if_pos (Decidable.not_not.1 (fun e => h3 ((one_fix u).2 e)))]
    | none =>
      unfold parseW refParseW
      rw [if_pos hl, hf]
      rcases hp : puS l with _ | _ | n
      · rfl
      · rfl
      · simp only
        rw [if_neg]
        intro e
        have := lowF_dig16 (Tocsin.one n) (one_lt n (puS_lt hp))
        rw [e, hf] at this
        cases this
  · unfold parseW refParseW
    rw [if_neg hl]
    rcases hp : puS l with _ | _ | n
    · rfl
    · rfl
    · simp only
      rw [if_neg]
      intro e
      exact hl (by rw [← e, dig_length])

theorem parse_print (x : Nat) (hx : x < 18446744073709551616) : parseW (dig (Tocsin.one x) 16) = (Tocsin.one x, 0) := by
  unfold parseW
  rw [puS_dig16 _ (one_lt x hx)]
  simp [Tocsin.one_one]
theorem parse_lt (l : List UInt8) : (parseW l).1 < 18446744073709551616 := by
  unfold parseW
  rcases hp : puS l with _ | _ | n
  · show 0 < 18446744073709551616; decide
  · show 0 < 18446744073709551616; decide
  · simp only; split
    · exact puS_lt hp
    · decide
theorem parse_good (l : List UInt8) : (parseW l).2 = 2 ∨ ((parseW l).2 = 0 ∧ dig (Tocsin.one (parseW l).1) 16 = l) := by
  unfold parseW
  rcases hp : puS l with _ | _ | n
  · exact .inl rfl
  · exact .inl rfl
  · simp only; split
    · rename_i h; exact .inr ⟨rfl, h⟩
    · exact .inl rfl

theorem lowF_snoc (l : List UInt8) : ∀ (acc u : Nat) (c : UInt8), lowF acc l = some u → lowF acc (l ++ [c]) = (lowv c.toNat).map (fun d => u * 16 + d) := by
  induction l with
  | nil =>
    intro acc u c h
    simp only [lowF, Option.some.injEq] at h
    subst h
    simp only [List.nil_append, lowF]
    cases lowv c.toNat <;> rfl
  | cons a r ih =>
    intro acc u c h
    simp only [List.cons_append, lowF] at h ⊢
    cases ha : lowv a.toNat with
    | none => rw [ha] at h; cases h
    | some d => rw [ha] at h; exact ih _ u c h
theorem lowF_none (l r : List UInt8) : ∀ acc, lowF acc l = none → lowF acc (l ++ r) = none := by
  induction l with
  | nil => intro acc h; cases h
  | cons a t ih =>
    intro acc h
    simp only [List.cons_append, lowF] at h ⊢
    cases ha : lowv a.toNat with
    | none => rfl
    | some d => rw [ha] at h; exact ih _ h
theorem lowF_lt : ∀ (l : List UInt8) (u : Nat), lowF 0 l = some u → u < 16 ^ l.length := by
  intro l u h
  obtain ⟨-, h2⟩ := lowF_back l 0 u h
  have := Nat.two_pow_pos 0
  have hp : 0 < 16 ^ l.length := Nat.pow_pos (by decide)
  exact (Nat.div_eq_zero_iff_lt hp).1 h2

set_option maxHeartbeats 1000000 in
set_option maxRecDepth 100000 in
theorem refParse_any (s : ByteArray) (w : World) :
    Calls Tryd.prog 33 #[.string s] w fun e w' => e = .returned (.tuple #[.int .u64 ((refParseW s.data.toList).1 : Nat), .int .i64 (refParseW s.data.toList).2]) ∧ w = w' := by
  obtain ⟨bs, hL⟩ : ∃ bs, bs = s.data.toList := ⟨_, rfl⟩
  have hLn : bs.length = s.size := by rw [hL, Lib.size_eq]
  rw [← hL]
  by_cases h16 : s.size = 16
  · have hget : ∀ k (h : k < s.size), bs[k]'(by omega) = s[k] := fun k h => by subst hL; simp [ByteArray.getElem_eq_getElem_data]
    have hsn : ∀ k (h : k < s.size), bs.take (k + 1) = bs.take k ++ [s[k]] := fun k h => by rw [List.take_succ_eq_append_getElem (by omega), hget k h]
    have hbad : ∀ k (h : k < s.size) u, lowF 0 (bs.take k) = some u → lowv (s[k]).toNat = none → refParseW bs = (0, 2) := fun k h u h1 h2 => by
      have e : lowF 0 (bs.take (k + 1)) = none := by rw [hsn k h, lowF_snoc _ _ _ _ h1, h2]; rfl
      have e2 : lowF 0 bs = none := by
        have := lowF_none (bs.take (k + 1)) (bs.drop (k + 1)) 0 e
        rwa [List.take_append_drop] at this
      unfold refParseW; rw [e2]; split <;> rfl
    have hall : ∀ u, lowF 0 bs = some u → refParseW bs = if isNan u = true ∧ u ≠ 9221120237041090561 then (0, 2) else (u, 0) := fun u h => by
      unfold refParseW; rw [if_pos (by omega), h]
    have hult : ∀ k u, k ≤ 16 → lowF 0 (bs.take k) = some u → u < 16 ^ k := fun k u hk h => by
      have := lowF_lt _ _ h
      rwa [List.length_take, Nat.min_eq_left (by omega)] at this
    clear hget
    have HB := Lib.hid hbad
    have HA := Lib.hid hall
    have HU := Lib.hid hult
    have HS := Lib.hid hsn
    clear hbad hall hult hsn hL
    go_enter Tryd.func33, Tryd.ntmps33
    go_wp2_with fail
    go_loopw [4, 5] (fun vu vi wr => ∃ (k u : Nat), vu = .int .u64 u ∧ vi = .int .i64 k ∧ k ≤ 16 ∧ wr = w ∧ Hid (lowF 0 (bs.take k) = some u)) (fun _ vi _ => 16 - (intOf vi).toNat)
    case atStart => exact ⟨0, 0, rfl, rfl, by omega, rfl, rfl⟩
    case round =>
      obtain ⟨k, u, rfl, rfl, hk, rfl, hh⟩ := hrel
      by_cases hlt : k < 16
      · have hks : k < s.size := by omega
        have hu : u < 1152921504606846976 := by
          have h1 := HU.out k u hk hh.out
          have h2 : (16 : Nat) ^ k ≤ 16 ^ 15 := Nat.pow_le_pow_right (by decide) (by omega)
          have : (16 : Nat) ^ 15 = 1152921504606846976 := by decide
          omega
        have hc256 : (s[k]).toNat < 256 := (s[k]).toNat_lt
        have hnext : ∀ d, lowv (s[k]).toNat = some d → Hid (lowF 0 (bs.take (k + 1)) = some (u * 16 + d)) := fun d hd => by
          show _ = _
          rw [HS.out k hks, lowF_snoc _ _ _ _ hh.out, hd]; rfl
        by_cases hd : 48 ≤ (s[k]).toNat ∧ (s[k]).toNat ≤ 57
        · obtain ⟨d1, d2⟩ := hd
          have hN := hnext ((s[k]).toNat - 48) (by unfold lowv; rw [if_pos ⟨d1, d2⟩])
          clear hnext HB HA HU HS hh
          go_wp2_with fail
          refine ⟨⟨k + 1, u * 16 + ((s[k]).toNat - 48), by first | rfl | (congr 1; omega), by first | rfl | (congr 1; omega), by omega, trivial, hN⟩, by simp [intOf]; omega⟩
        · by_cases hl : 97 ≤ (s[k]).toNat ∧ (s[k]).toNat ≤ 102
          · obtain ⟨d1, d2⟩ := hl
            have hN := hnext ((s[k]).toNat - 87) (by unfold lowv; rw [if_neg hd, if_pos ⟨d1, d2⟩])
            have h57 : 57 < (s[k]).toNat := by omega
            clear hnext HB HA HU HS hh hd
            go_wp2_with fail
            refine ⟨⟨k + 1, u * 16 + ((s[k]).toNat - 87), by first | rfl | (congr 1; omega), by first | rfl | (congr 1; omega), by omega, trivial, hN⟩, by simp [intOf]; omega⟩
          · have hF := Lib.hid (HB.out k hks u hh.out (by unfold lowv; rw [if_neg hd, if_neg hl]))
            clear hnext HB HA HU HS hh hu
            go_wp2_with fail
            all_goals go_ret2
            all_goals exact ⟨by rw [hF.out]; rfl, rfl⟩
      · have hk16 : k = 16 := by omega
        subst hk16
        have hfin := hh.out
        rw [List.take_of_length_le (by omega)] at hfin
        have hF := Lib.hid (HA.out u hfin)
        clear HB HA HU HS hh hfin
        obtain ⟨m, hm⟩ : ∃ m : Nat, m = u % 9223372036854775808 := ⟨_, rfl⟩
        have hand : bits .and .u64 (u : Int) 9223372036854775807 = (m : Int) := by rw [and_63, hm]; rfl
        cases h : isNan u
        · have h1 : ¬ 9218868437227405312 < (m : Int) := by
            have : ¬ 9218868437227405312 < u % 9223372036854775808 := by simpa [isNan] using h
            omega
          have hG := Lib.hid (show refParseW bs = (u, 0) by rw [hF.out, h]; simp)
          clear hm hF h
          go_wp2_with fail
          go_ret2
          exact ⟨by rw [hG.out]; rfl, rfl⟩
        · have h1 : 9218868437227405312 < (m : Int) := by
            have : 9218868437227405312 < u % 9223372036854775808 := by simpa [isNan] using h
            omega
          by_cases h2 : u = 9221120237041090561
          · have hG := Lib.hid (show refParseW bs = (u, 0) by rw [hF.out, h, h2]; simp)
            have h3 : ((u : Int) != 9221120237041090561) = false := by rw [h2]; rfl
            have h4 : ((u : Int) == 9221120237041090561) = true := by rw [h2]; rfl
            clear hm hF h h2
            go_wp2_with fail
            go_ret2
            exact ⟨by rw [hG.out]; rfl, rfl⟩
          · have hG := Lib.hid (show refParseW bs = (0, 2) by rw [hF.out, h, if_pos ⟨rfl, h2⟩])
            have h3 : ((u : Int) != 9221120237041090561) = true := by rw [bne_iff_ne]; omega
            have h4 : ((u : Int) == 9221120237041090561) = false := by rw [beq_eq_false_iff_ne]; omega
            clear hm hF h h2
            go_wp2_with fail
            go_ret2
            exact ⟨by rw [hG.out]; rfl, rfl⟩
  · have hF := Lib.hid (show refParseW bs = (0, 2) by unfold refParseW; rw [if_neg (by omega)])
    have hne : ((s.size : Int) == 16) = false := by rw [beq_eq_false_iff_ne]; omega
    clear hL hLn
    go_enter Tryd.func33, Tryd.ntmps33
    go_wp2_with fail
    go_ret2
    exact ⟨by rw [hF.out]; rfl, rfl⟩
end Go.Proofs.YtldhbelinopniaaDoor
