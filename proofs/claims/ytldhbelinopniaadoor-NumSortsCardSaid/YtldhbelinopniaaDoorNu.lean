/- The opening of an argument that is a row of float64, and its size. -/
import Derived.Test.YtldhbelinopniaaDoorNp
import Derived.Test.YtldhbelinopniaaDoorNr
import Derived.Deep.Slices
import Derived.SizedLaws
import Derived.DataShut
namespace Go.Proofs.YtldhbelinopniaaDoor
open Go.ChangeShapes Go.WideShapes Go.ChangeAt Go.RowKit Tocsin

theorem bytes8 : Tryd.prog.bytesOf 22 = 8 := by kernel_rfl
theorem cellsF : Tryd.prog.cellsOf 22 = 1 := by kernel_rfl

theorem wf_i64 {n : Int} (h : (Lit.int .i64 n).wf = true) : -9223372036854775808 ≤ n ∧ n ≤ 9223372036854775807 := by
  obtain ⟨a, b⟩ := (Lit.wf_int_iff _ _).1 h
  exact ⟨a, b⟩
theorem string_le {s : ByteArray} (h : s.data.toList.length ≤ reachBytes) : s.size ≤ 140737488355328 := by
  have : reachBytes = 140737488351232 := rfl
  have e : s.size = s.data.toList.length := (Array.length_toList (xs := s.data)).symm
  omega
theorem float_of_trod {H : Type} {enc : TypeId × Value → H} {w : World} {base n : Nat} {spare : Nat → Bool} {held : Bool} {v : Value} {x : DataW H × List MemPlace} (h : DataW.trod enc Tryd.prog w base spare held n 22 [v] = some x) :
    ∃ b, v = .float .f64 b ∧ b < 18446744073709551616 := by
  cases n with
  | zero => simp [DataW.trod] at h
  | succ n =>
    cases v with
    | float k b =>
      simp [DataW.trod, Tryd.underlying22] at h
      obtain ⟨⟨rfl, hk⟩, -⟩ := h
      exact ⟨b, rfl, by simpa [Lit.wf] using hk⟩
    | _ => simp [DataW.trod, Tryd.underlying22] at h

set_option maxRecDepth 100000 in
theorem open_floats {H : Type} {enc : TypeId × Value → H} {W : World} {base : Nat} {v : Value} {d : DataW H} {p : List MemPlace} (hval : Value.okWide Tryd.prog W .any base 30 v)
    (h : DataW.Trod enc Tryd.prog W 0 (fun _ => true) true 30 v d p)
    {ts : List TypeId} {ds : List (DataW H)} (hsz : (DataW.weightsEach Tryd.prog ts ds).all (· ≤ reachBytes) = true) {j : Nat} (ht : ts[j]? = some 30) (hd : ds[j]? = some d) :
    ∃ (a : Option Addr) (cap : Nat) (zs : List Nat), v = .slice a zs.length cap ∧ Floats W W.heap.size a zs ∧ zs.length * 8 ≤ 140737488351232 := by
  obtain ⟨a0, len0, cap0, rfl⟩ := okWide_slice Tryd.underlying30 hval
  obtain ⟨fuel, hf⟩ := h
  rcases Deep.open_slice1 Tryd.underlying30 cellsF hf with ⟨hv, -⟩ | ⟨a, len, cap, m, n, V, D, Pl, hv, -, hl, -, hm, hx, hel⟩
  · have hv' : (Value.slice a0 len0 cap0) = .slice none 0 0 := by simpa [Value.cells] using hv
    cases hv'
    exact ⟨none, 0, [], rfl, ⟨by simp, .inl rfl⟩, by simp⟩
  · have hv' : (Value.slice a0 len0 cap0) = .slice (some a) len cap := by simpa [Value.cells] using hv
    cases hv'
    simp only [if_true] at hm
    subst hm
    have hsl := sized_slice hsz ht (by rw [hd, (Prod.mk.inj hx).1]) Tryd.underlying30
    rw [bytes8] at hsl
    simp only [List.length_map, List.length_range] at hsl
    have hlen : len0 * 8 ≤ 140737488351232 := by
      have : reachBytes = 140737488351232 := rfl
      omega
    obtain ⟨f, hfl⟩ : ∃ f : Nat → Nat, ∀ i, i < m → V i = .float .f64 (f i) ∧ f i < 18446744073709551616 := by
      refine ⟨fun i => match V i with | .float _ b => b | _ => 0, fun i hi => ?_⟩
      obtain ⟨b, hb, hlt⟩ := float_of_trod (hel i hi).2
      simp only [hb]
      exact ⟨trivial, hlt⟩
    refine ⟨some a, m, (List.range len0).map f, by simp, ⟨?_, ?_⟩, by simpa using hlen⟩
    · intro x hx
      simp only [List.mem_map, List.mem_range] at hx
      obtain ⟨i, hi, rfl⟩ := hx
      exact (hfl i (by omega)).2
    · by_cases h0 : len0 = 0
      · left; simp [h0]
      · right
        obtain ⟨b, off, spot⟩ := a
        have c0 := (hel 0 (by omega)).1
        have hs : spot = none := by
          cases spot with
          | none => rfl
          | some s =>
            exfalso
            simp only [Addr.add, if_true, World.cell?] at c0
            split at c0 <;> simp at c0
        subst hs
        refine ⟨b, off, rfl, ?_, fun j hj => ?_⟩
        · exact lt_of_cell (i := off) (v := V 0) (by simpa [Addr.add] using c0)
        · have hj' : j < len0 := by simpa using hj
          have := (hel j (by omega)).1
          rw [(hfl j (by omega)).1, addr_plus] at this
          rw [this]
          simp [List.getD, hj']
end Go.Proofs.YtldhbelinopniaaDoor
