/- The sorted list of canonical words; what a row of the call's own reads as behind the library's sort, at any element of one cell. -/
import Derived.Test.YtldhbelinopniaaDoorNa
import Derived.Test.YtldhbelinopniaaDoorShelf
import Derived.Sort.OwnSorted
namespace Tocsin
open Go Go.Shelf Go.Sort Go.Proofs Go.Lib

/-- A canonical word: no NaN but the one. -/
structure CW where
  val : Nat
  lt : val < 18446744073709551616
  can : one val = val
theorem CW.ext' {x y : CW} (h : x.val = y.val) : x = y := by cases x; cases y; cases h; rfl
instance : Inhabited CW := ⟨⟨0, by decide, by decide⟩⟩
def toCW (x : Nat) : CW := if h : x < 18446744073709551616 then ⟨one x, one_lt x h, one_one x⟩ else default
theorem toCW_val {x : Nat} (h : x < 18446744073709551616) : (toCW x).val = one x := by unfold toCW; rw [dif_pos h]
def encW (x : CW) : Value := .float .f64 x.val
def cmpW (x y : CW) : Int := cmp x.val y.val
theorem ltW (x y : CW) : ltOf cmpW x y = decide (rank x.val < rank y.val) := by
  unfold ltOf cmpW cmp
  by_cases h : rank x.val < rank y.val
  · simp [h]
  · rw [if_neg h]; split <;> simp [h]
theorem swoW : SWO (ltOf cmpW) where
  irrefl x := by rw [ltW]; simp
  trans x y z h1 h2 := by rw [ltW] at *; simp at *; omega
  ntrans x y z h1 h2 := by rw [ltW] at *; simp at *; omega
theorem totW (x y : CW) (h1 : ltOf cmpW x y = false) (h2 : ltOf cmpW y x = false) : x = y := by
  rw [ltW] at *; simp at *
  apply CW.ext'
  rw [← x.can, ← y.can]
  exact rank_inj x.lt y.lt (by omega)
/-- In order. -/
def leW (x y : CW) : Bool := !(ltOf cmpW) y x
theorem leW_iff (x y : CW) : leW x y = true ↔ rank x.val ≤ rank y.val := by unfold leW; rw [ltW]; simp
/-- The numbers of l in order, each NaN as the one. -/
def srtW (l : List Nat) : List CW := (l.map toCW).mergeSort leW
theorem srtW_length (l : List Nat) : (srtW l).length = l.length := by unfold srtW; simp

theorem oneCell_encW : OneCell encW := fun _ => rfl

section
variable {α : Type} [Inhabited α] {enc : α → Value}
theorem holds_of_row {w : World} {g : Nat} {cur : Array Value} {e : TypeId} {ss : List α} (hb : w.heap[g]? = some (.cells cur e (0, 0))) (ht : cur.toList.take ss.length = ss.map enc) : Holds enc w g 0 ss.toArray := by
  intro j hj
  have hj' : j < ss.length := by simpa using hj
  refine ⟨?_, by simp [World.frozen?, hb]⟩
  have h1 : (cur.toList.take ss.length)[j]? = (ss.map enc)[j]? := by rw [ht]
  rw [List.getElem?_take_of_lt hj'] at h1
  simp only [World.cell?, hb, Nat.zero_add]
  simp only [Option.isSome_none, Bool.false_eq_true, if_false]
  rw [← Array.getElem?_toList, h1]
  simp [hj']

theorem heap_put {w : World} {g n : Nat} {os : Array Obj} {cur : Array Value} {e : TypeId} {fr : Nat × Nat} (d : Array α) (hb : w.heap[g]? = some (.cells cur e fr)) :
    (grow (putRow enc (Sort.ahead w n) g 0 d) os).heap[g]? = some (.cells (putCells enc 0 d cur) e fr) := by
  have hg : g < w.heap.size := (Array.getElem?_eq_some_iff.1 hb).1
  rw [heap_grow_old _ _ (by simpa using hg)]
  simp [putRow, mapBlock, Sort.ahead, Array.getElem?_modify, hb, onCells]

theorem grownBy_put {w : World} {g n : Nat} {os : Array Obj} (d : Array α) : w.grownBy (grow (putRow enc (Sort.ahead w n) g 0 d) os) (some g) := by
  refine ⟨rfl, rfl, rfl, by simp, fun k hk hne => ?_⟩
  rw [heap_grow_old _ _ (by simpa using hk)]
  have : g ≠ k := fun e => hne (by rw [e])
  simp [putRow, mapBlock, Sort.ahead, Array.getElem?_modify, this]

theorem take_put (cur : Array Value) (ts : List α) (h : ts.length ≤ cur.size) : (putCells enc 0 ts.toArray cur).toList.take ts.length = ts.map enc := by
  apply List.ext_getElem?
  intro j
  by_cases hj : j < ts.length
  · rw [List.getElem?_take_of_lt hj, Array.getElem?_toList]
    simp [putCells, hj, show j < cur.size by omega]
  · rw [List.getElem?_take_eq_none (by omega), List.getElem?_eq_none (by simp; omega)]

/-- Behind the sort the same slice owns the list that was laid. -/
theorem ownsRow_put {w : World} {base g cap n m : Nat} {e : TypeId} {os : Array Obj} {cur : Array Value} {ts : List α} (hl : ts.length = m) (hbase : base ≤ g) (hb : w.heap[g]? = some (.cells cur e (0, 0)))
    (h1 : m ≤ cap) (h2 : cap ≤ maxLen) (h3 : cur.size = cap * 1) :
    (grow (putRow enc (Sort.ahead w n) g 0 ts.toArray) os).ownsRow base e 1 (.slice (some ⟨g, 0, none⟩) m cap) m (ts.map enc) :=
  ⟨by simp [hl], .inr ⟨g, cap, _, rfl, hbase, heap_put _ hb, h1, h2, by simp [putCells, h3], by rw [Nat.mul_one, ← hl]; exact take_put cur ts (by omega)⟩⟩
end

theorem leW_trans (a b c : CW) (h1 : leW a b = true) (h2 : leW b c = true) : leW a c = true := by rw [leW_iff] at *; omega
theorem leW_total (a b : CW) : (leW a b || leW b a) = true := by
  rw [Bool.or_eq_true, leW_iff, leW_iff]; omega
theorem leW_anti (a b : CW) (h1 : leW a b = true) (h2 : leW b a = true) : a = b := by
  rw [leW_iff] at *
  apply CW.ext'
  rw [← a.can, ← b.can]
  exact rank_inj a.lt b.lt (by omega)
theorem srtW_perm (l : List Nat) : (srtW l).Perm (l.map toCW) := List.mergeSort_perm _ _
theorem srtW_sorted (l : List Nat) : (srtW l).Pairwise (fun a b => leW a b = true) := List.pairwise_mergeSort leW_trans leW_total _
/-- There is one list in order of what l has. -/
theorem srtW_eq {l : List Nat} {r : List CW} (hp : r.Perm (l.map toCW)) (hs : r.Pairwise (fun a b => leW a b = true)) : srtW l = r :=
  List.Perm.eq_of_pairwise (fun a b _ _ h1 h2 => leW_anti a b h1 h2) (srtW_sorted l) hs ((srtW_perm l).trans hp.symm)

end Tocsin
