/- The opening of an argument that is a row of float64: its room is no less than its length. -/
import Derived.Test.YtldhbelinopniaaDoorNu
namespace Go.Proofs.YtldhbelinopniaaDoor
open Go.ChangeShapes Go.WideShapes Go.ChangeAt Go.RowKit Tocsin

set_option maxRecDepth 100000 in
theorem open_floats3 {H : Type} {enc : TypeId × Value → H} {W : World} {base : Nat} {v : Value} {d : DataW H} {p : List MemPlace} (hval : Value.okWide Tryd.prog W .any base 30 v)
    (h : DataW.Trod enc Tryd.prog W 0 (fun _ => true) true 30 v d p)
    {ts : List TypeId} {ds : List (DataW H)} (hsz : (DataW.weightsEach Tryd.prog ts ds).all (· ≤ reachBytes) = true) {j : Nat} (ht : ts[j]? = some 30) (hd : ds[j]? = some d) :
    ∃ (a : Option Addr) (cap : Nat) (zs : List Nat), v = .slice a zs.length cap ∧ Floats W W.heap.size a zs ∧ zs.length * 8 ≤ 140737488351232 ∧ zs.length ≤ cap := by
  obtain ⟨a, cap, zs, rfl, h1, h2⟩ := open_floats hval h hsz ht hd
  refine ⟨a, cap, zs, rfl, h1, h2, ?_⟩
  obtain ⟨fuel, hf⟩ := h
  rcases Deep.open_slice1 Tryd.underlying30 cellsF hf with ⟨hv, -⟩ | ⟨a, len, cap, m, n, V, D, Pl, hv, -, hl, -⟩
  · simp [Value.cells] at hv
    simp [hv]
  · simp [Value.cells] at hv
    obtain ⟨-, hv1, hv2⟩ := hv
    rw [hv1, hv2]; exact hl
end Go.Proofs.YtldhbelinopniaaDoor
