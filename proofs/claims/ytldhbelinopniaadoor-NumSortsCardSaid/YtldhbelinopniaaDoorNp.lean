/- The frame of every law's proof: what the row's condition gives, a start that meets it, the shut. -/
import Derived.Test.YtldhbelinopniaaDoorCards
import Derived.Test.YtldhbelinopniaaDoorTie
import Derived.Test.YtldhbelinopniaaDoorNm
import Derived.ProofKit
import Derived.LaidMore
import Derived.OpenShut
import Derived.Stop.Joined
import Derived.Stop.LaidErr
import Derived.Lib.LaidTab
import Derived.Laws.Cover2
import Derived.Carry
namespace Go.Proofs.YtldhbelinopniaaDoor
open Go.ChangeShapes Go.WideShapes Go.ChangeAt Go.RowKit Tocsin

theorem own : ownKnob Tryd.prog.godebug = none := by kernel_rfl
theorem laidOut : laidOutB Tryd.prog = true := by kernel_rfl
theorem g64 : Tryd.prog.globalNamed "math/bits.deBruijn64tab" = some 5 := by kernel_rfl
theorem g64Type : (Tryd.prog.globals[5]?).map (·.type) = some 113 := by kernel_rfl
theorem cells64 : Tryd.prog.cellsOf 113 = 64 := by kernel_rfl
theorem cells8 : Tryd.prog.cellsOf 5 = 1 := by kernel_rfl
theorem gSyn : Tryd.prog.globalNamed "strconv.ErrSyntax" = some 2 := by kernel_rfl
theorem gSynType : (Tryd.prog.globals[2]?).map (·.type) = some 59 := by kernel_rfl
theorem gRng : Tryd.prog.globalNamed "strconv.ErrRange" = some 3 := by kernel_rfl
theorem gRngType : (Tryd.prog.globals[3]?).map (·.type) = some 59 := by kernel_rfl
theorem cellsE : Tryd.prog.cellsOf 111 = 1 := by kernel_rfl
theorem cellsS : Tryd.prog.cellsOf 9 = 1 := by kernel_rfl
theorem star : "*" ++ "errors.errorString" = "*errors.errorString" := by decide
theorem rowE (u : TypeId) (h : Tryd.prog.typeName? 3 u = some "*errors.errorString") : u = 109 :=
  typeName_ptr_named (nm := "errors.errorString") (by rw [star]; kernel_rfl) (by kernel_rfl) (by decide) u (by rw [star]; exact h)

abbrev laids : List (String × DataW Unit) := Rows.numKindsRow.laid

theorem lt_of_cell {W : World} {b i : Nat} {v : Value} (h : W.cell? ⟨b, i, none⟩ = some v) : b < W.heap.size := by
  rcases Nat.lt_or_ge b W.heap.size with h' | h'
  · exact h'
  · simp [World.cell?, Array.getElem?_eq_none h'] at h

/-- What the row's condition gives the walks. -/
theorem of_laid {W : World} (h : laidMetH Tryd.prog laids W) : Laid W := by
  rw [MakeChecks.laidMetH_plain _ _ _ (by kernel_rfl)] at h
  have h2 := laidMet.tail h
  have h4 := laidMet.tail (laidMet.tail h2)
  have h5 := laidMet.tail h4
  have tab := (Lib.tabIs_of_head (zs := [0, 1, 56, 2, 57, 49, 28, 3, 61, 58, 42, 50, 38, 29, 17, 4, 62, 47, 59, 36, 45, 43, 51, 22, 53, 39, 33, 30, 24, 18, 12, 5, 63, 55, 48, 27, 60, 41, 37, 16, 46, 35, 44, 21, 52, 32, 23, 11, 54, 26, 40, 15, 34, 20, 31, 10, 25, 14, 19, 9, 13, 8, 7, 6]) (k := .u8) g64 g64Type Tryd.underlying113 Tryd.underlying5 cells8 cells64 h2).cell g64 15 (by decide)
  obtain ⟨a1, s1, v1, c1, -, -⟩ := laid_sentinel h4 gRng gRngType Tryd.underlying59 rowE Tryd.underlying109 Tryd.underlying111 rfl rfl Tryd.underlying9 cellsE cellsS
  obtain ⟨a2, s2, v2, c2, -, -⟩ := laid_sentinel h5 gSyn gSynType Tryd.underlying59 rowE Tryd.underlying109 Tryd.underlying111 rfl rfl Tryd.underlying9 cellsE cellsS
  have e1 : W.cell? ⟨3, 0, none⟩ = some (.iface 109 (.pointer (some a1))) := by simpa using World.var?_cell gRng v1 0
  have e2 : W.cell? ⟨2, 0, none⟩ = some (.iface 109 (.pointer (some a2))) := by simpa using World.var?_cell gSyn v2 0
  exact ⟨tab, ⟨_, e2, .inr ⟨_, _, rfl⟩⟩, ⟨_, e1, .inr ⟨_, _, rfl⟩⟩, lt_of_cell tab, lt_of_cell e2, lt_of_cell e1⟩

/-- The door's own heap meets the condition. -/
theorem door_met (os : Os) (args : Array Value) : laidMetH Tryd.prog laids ((World.doorLaid Tryd.prog 400 os).forCall (fun _ _ => 0) ⟨#[], args, []⟩).memory :=
  laidMetH_of_parts3 (fuel := 8) (laidMet_of_run' 8 (by kernel_rfl) (by kernel_rfl)) (by kernel_rfl) (by kernel_rfl)

/-- The arguments read again in a world that came of the old one. -/
theorem args_later {H : Type} {enc : TypeId × Value → H} {W W' : World} (hb : Below W.heap.size W W') : ∀ (ts : List TypeId) (vs : List Value) (ds : List (DataW H)) (ps : List MemPlace),
    (∀ t ∈ ts, Tryd.prog.readableRec t = true ∧ t < Tryd.prog.types.size) → (∀ x ∈ ps, x.block < W.heap.size) →
    DataW.TrodAll enc Tryd.prog W 0 (fun _ => true) true ts vs ds ps → DataW.TrodAll enc Tryd.prog W' 0 (fun b => decide (b < W.heap.size)) true ts vs ds ps
  | [], [], [], _, _, _, h => h
  | [], _ :: _, _, _, _, _, h => h.elim
  | [], [], _ :: _, _, _, _, h => h.elim
  | t :: ts, vs, ds, ps, hr, hlt, h => by
    cases vs with
    | nil => cases ds <;> simp [DataW.TrodAll] at h
    | cons v vs =>
      cases ds with
      | nil => simp [DataW.TrodAll] at h
      | cons d ds =>
        obtain ⟨p, q, h1, h2, rfl⟩ := h
        exact ⟨p, q, Below.trod laidOut (hr t (by simp)).1 (hr t (by simp)).2 h1 hb (fun x hx => hlt x (by simp [hx])),
          args_later hb ts vs ds q (fun t ht => hr t (by simp [ht])) (fun x hx => hlt x (by simp [hx])) h2, rfl⟩

/-- THE SHUT: true, and the arguments as they were. -/
theorem shut_true {H : Type} {enc : TypeId × Value → H} {f : Func} {s : ChangeSpec} {W W' : World} {args : Array Value} {ds : List (DataW H)} {before : List MemPlace}
    (hs : s.vars = []) (hf : f.resultTypes = #[4]) (hr : ∀ t ∈ f.params.toList, Tryd.prog.readableRec t = true ∧ t < Tryd.prog.types.size)
    (hW : DataW.Whole enc Tryd.prog f.params.toList s.vars false W args.toList ds [] before) (hb : Below W.heap.size W W')
    (hfn : s.fn H (ds ++ []) = { results := [.lit (.bool true)], args := ds }) :
    s.post enc Tryd.prog f false true false false W args (.bool true) W' := by
  have hW' := hW
  obtain ⟨p, q, hA, hV, rfl, -, -⟩ := hW
  refine ⟨ds, [], p ++ q, [], p, [], hW', ?_, ?_, ?_, hb.frame _, fun h => by cases h⟩
  · rw [hfn, hf]
    exact trodAll_mk1 (shut_bool Tryd.underlying4 _)
  · rw [hfn]
    exact args_later hb _ _ _ _ hr (fun x hx => hW'.lt x (List.mem_append_left _ hx)) hA
  · rw [hfn, hs]
    exact rfl
end Go.Proofs.YtldhbelinopniaaDoor
