/- The document's answer on sorting, plain and walked. -/
import Derived.Test.YtldhbelinopniaaDoorNm
import Derived.Test.YtldhbelinopniaaDoorNr
import Derived.Test.YtldhbelinopniaaDoorNx
import Derived.Deep.QuietTactic
import Derived.BigQuiet
import Derived.Deep.RegionHeld3
import Derived.BigGuard
import Derived.Laws.BitsLemmas
namespace Tocsin
open Go Go.RowKit

def encB (x : CW) : Value := .int .u64 (x.val : Nat)
theorem merge_srt (l1 l2 : List Nat) : srtW (l1 ++ l2) = (srtW l1).merge (srtW l2) leW := by
  apply srtW_eq
  · rw [List.map_append]
    exact (List.merge_perm_append leW).trans ((srtW_perm l1).append (srtW_perm l2))
  · exact List.pairwise_merge leW_trans leW_total _ _ (srtW_sorted l1) (srtW_sorted l2)
/-- What is still to be merged. -/
def restM (A B : List CW) (i j : Nat) : List CW := (A.drop i).merge (B.drop j) leW
theorem restM_left {A B : List CW} {i j : Nat} (hi : i < A.length) (hj : B.length ≤ j) : restM A B i j = A[i] :: restM A B (i + 1) j := by
  unfold restM
  rw [List.drop_eq_nil_of_le hj, List.merge_right, List.merge_right, List.drop_eq_getElem_cons hi]
theorem restM_right {A B : List CW} {i j : Nat} (hi : A.length ≤ i) (hj : j < B.length) : restM A B i j = B[j] :: restM A B i (j + 1) := by
  unfold restM
  rw [List.drop_eq_nil_of_le hi, List.nil_merge, List.nil_merge, List.drop_eq_getElem_cons hj]
theorem restM_le {A B : List CW} {i j : Nat} (hi : i < A.length) (hj : j < B.length) (h : rank A[i].val ≤ rank B[j].val) : restM A B i j = A[i] :: restM A B (i + 1) j := by
  unfold restM
  rw [List.drop_eq_getElem_cons hi, List.drop_eq_getElem_cons hj, List.cons_merge_cons, if_pos ((leW_iff _ _).2 h)]
theorem restM_gt {A B : List CW} {i j : Nat} (hi : i < A.length) (hj : j < B.length) (h : ¬ rank A[i].val ≤ rank B[j].val) : restM A B i j = B[j] :: restM A B i (j + 1) := by
  unfold restM
  rw [List.drop_eq_getElem_cons hi, List.drop_eq_getElem_cons hj, List.cons_merge_cons, if_neg (fun e => h ((leW_iff _ _).1 e))]
theorem restM_end {A B : List CW} {i j : Nat} (hi : A.length ≤ i) (hj : B.length ≤ j) : restM A B i j = [] := by
  unfold restM
  rw [List.drop_eq_nil_of_le hi, List.drop_eq_nil_of_le hj, List.nil_merge]
end Tocsin
namespace Go.Proofs.YtldhbelinopniaaDoor
open Go.RowKit Go.Shelf Go.Sort Go.Proofs Go.Lib Tocsin

theorem wordInfo : (Tryd.prog.info? 25).map (fun i => (i.zero, i.size, i.bytes)) = some (some (.int .u64 0), 1, 8) := by kernel_rfl

theorem ownsRow_shape {w : World} {base n : Nat} {e : TypeId} {v : Value} {xs : List Value} (h : w.ownsRow base e 1 v n xs) (hn : 0 < n) : ∃ g c, v = .slice (some ⟨g, 0, none⟩) n c := by
  rcases h.2 with ⟨-, h0⟩ | ⟨g, c, cur, hv, -⟩
  · omega
  · exact ⟨g, c, hv⟩

set_option maxHeartbeats 4000000 in
set_option maxRecDepth 100000 in
theorem refSort_step (n : Nat) (ih : ∀ (m : Nat), m < n → ∀ (b off cap : Nat) (zs : List Nat) (w : World), zs.length = m → m ≤ cap → 0 < m → b < w.heap.size → (∀ x ∈ zs, x < 18446744073709551616) →
      (∀ j, j < m → w.cell? ⟨b, off + j, none⟩ = some (.float .f64 (zs.getD j 0))) →
      Calls Tryd.prog 20 #[.slice (some ⟨b, off, none⟩) m cap] w fun e w' => ∃ v, e = .returned v ∧ w'.ownsRow w.heap.size 25 1 v m ((srtW zs).map encB) ∧ Below w.heap.size w w')
    (hn : 2 ≤ n) (b off cap : Nat) (zs : List Nat) (w : World) (hlen : zs.length = n) (hcap : n ≤ cap) (hb : b < w.heap.size) (hz : ∀ x ∈ zs, x < 18446744073709551616)
    (hc : ∀ j, j < n → w.cell? ⟨b, off + j, none⟩ = some (.float .f64 (zs.getD j 0))) (hreach : n * 8 ≤ 140737488351232) :
    Calls Tryd.prog 20 #[.slice (some ⟨b, off, none⟩) n cap] w fun e w' => ∃ v, e = .returned v ∧ w'.ownsRow w.heap.size 25 1 v n ((srtW zs).map encB) ∧ Below w.heap.size w w' := by
  obtain ⟨i0, hi, hz0, hz1, hz2⟩ := info_parts wordInfo
  obtain ⟨md, hh⟩ : ∃ md, md = n / 2 := ⟨_, rfl⟩
  -- the two halves, in whatever later world
  have cA : ∀ W, Below w.heap.size w W → Calls Tryd.prog 20 #[.slice (some ⟨b, off, none⟩) md cap] W fun e w' => ∃ v, e = .returned v ∧ w'.ownsRow W.heap.size 25 1 v md ((srtW (zs.take md)).map encB) ∧ Below W.heap.size W w' := fun W hW =>
    ih md (by omega) b off cap (zs.take md) W (by rw [List.length_take]; omega) (by omega) (by omega) (Nat.lt_of_lt_of_le hb hW.size) (fun x hx => hz x (List.mem_of_mem_take hx)) (fun j hj => by
      rw [hW.cell (p := ⟨b, off + j, none⟩) hb, hc j (by omega)]
      simp [List.getD, hj])
  have cB : ∀ W, Below w.heap.size w W → Calls Tryd.prog 20 #[.slice (some ⟨b, off + md, none⟩) (n - md) (cap - md)] W fun e w' => ∃ v, e = .returned v ∧ w'.ownsRow W.heap.size 25 1 v (n - md) ((srtW (zs.drop md)).map encB) ∧ Below W.heap.size W w' := fun W hW =>
    ih (n - md) (by omega) b (off + md) (cap - md) (zs.drop md) W (by rw [List.length_drop]; omega) (by omega) (by omega) (Nat.lt_of_lt_of_le hb hW.size) (fun x hx => hz x (List.mem_of_mem_drop hx)) (fun j hj => by
      rw [Nat.add_assoc, hW.cell (p := ⟨b, off + (md + j), none⟩) hb, hc (md + j) (by omega)]
      simp [List.getD, List.getElem?_drop])
  have hM : srtW zs = restM (srtW (zs.take md)) (srtW (zs.drop md)) 0 0 := by
    show _ = ((srtW (zs.take md)).drop 0).merge ((srtW (zs.drop md)).drop 0) leW
    rw [List.drop_zero, List.drop_zero, ← merge_srt, List.take_append_drop]
  rw [hM]
  have hLA : (srtW (zs.take md)).length = md := by rw [srtW_length, List.length_take]; omega
  have hLB : (srtW (zs.drop md)).length = n - md := by rw [srtW_length, List.length_drop]; omega
  generalize srtW (zs.take md) = A at *
  generalize srtW (zs.drop md) = B at *
  have hq : (n : Int) / 2 = (md : Int) := by omega
  have hq' : IntKind.i64.wrap (md : Int) = (md : Int) := by rw [IntKind.wrap_i64]; omega
  have q0 : (0 : Int) ≤ (md : Int) := by omega
  have q1 : (md : Int) ≤ (n : Int) := by omega
  have q2 : (md : Int) ≤ (cap : Int) := by omega
  have q3 : (n : Int) ≤ (cap : Int) := by omega
  have B0 : Below w.heap.size w w := Below.refl _ _
  have HA := Lib.hid hLA
  have HB := Lib.hid hLB
  have hH := Lib.hid hh
  clear hM hLA hLB hc ih hlen hz hh
  go_enter Tryd.func20, Tryd.ntmps20
  go_wp2_with fail
  go_region_held3 (fun w' => Below w.heap.size w w') (first | assumption | exact Below.drew (by assumption) | exact Below.trans (by assumption) (Below.mono (by assumption) (Below.size (by assumption))))
    (first
      | (go_at_call_of 20 (Value.slice (some (Addr.mk b off none)) md cap); refine (cA _ (by assumption)).mono ?_; rintro e wA ⟨vA, rfl, ownA, bA⟩)
      | (go_at_call_of 20 (Value.slice (some (Addr.mk b (off + md) none)) (n - md) (cap - md)); refine (cB _ (by assumption)).mono ?_; rintro e wB ⟨vB, rfl, ownB, bB⟩))
  obtain ⟨gA, kA, rfl⟩ : ∃ g c, vA = .slice (some ⟨g, 0, none⟩) md c := ownsRow_shape ownA (by omega)
  obtain ⟨gB, kB, rfl⟩ : ∃ g c, vB = .slice (some ⟨g, 0, none⟩) (n - md) c := ownsRow_shape ownB (by omega)
  have hgA := ownsRow_lt ownA
  have hgB := ownsRow_lt ownB
  have ownA' := ownsRow_later ownA bB hgA
  have hgA' : gA < wB.heap.size := Nat.lt_of_lt_of_le hgA bB.size
  have rdA := Lib.hid (show ∀ wr, Below wB.heap.size wB wr → ∀ i (h : i < A.length), wr.cell? ⟨gA, i, none⟩ = some (.int .u64 (A[i].val : Nat)) from fun wr hr i h => by
    have e := HA.out
    rw [hr.cell (p := ⟨gA, i, none⟩) hgA', ownA'.cellAt i (by omega), List.getElem?_map, List.getElem?_eq_getElem h]; rfl)
  have rdB := Lib.hid (show ∀ wr, Below wB.heap.size wB wr → ∀ i (h : i < B.length), wr.cell? ⟨gB, i, none⟩ = some (.int .u64 (B[i].val : Nat)) from fun wr hr i h => by
    have e := HB.out
    rw [hr.cell (p := ⟨gB, i, none⟩) hgB, ownB.cellAt i (by omega), List.getElem?_map, List.getElem?_eq_getElem h]; rfl)
  have hEnd : Below w.heap.size w wB := by assumption
  have hWB := hEnd.size
  have hmn : md ≤ n := by have := hH.out; omega
  clear cA cB hq hq' q0 q1 q2 q3 ownA ownB ownA' bA bB hgA hgB hgA' hb hH B0 h
  obtain ⟨nb, hnb⟩ : ∃ nb, nb = n - md := ⟨_, rfl⟩
  have hnn : n = md + nb := by omega
  rw [← hnb] at HB ⊢
  clear hnb
  subst hnn
  go_wp2_with fail
  go_loopw [5, 6, 7] (fun vr vi vj wr => ∃ (i j : Nat) (R : List CW), i ≤ md ∧ j ≤ nb ∧ vi = .int .i64 i ∧ vj = .int .i64 j ∧ wr.ownsRow wB.heap.size 25 1 vr (i + j) (R.map encB) ∧ Below wB.heap.size wB wr ∧ Hid (restM A B 0 0 = R ++ restM A B i j))
    (fun _ vi vj _ => (md - (intOf vi).toNat) + (nb - (intOf vj).toNat))
  case atStart => exact ⟨0, 0, [], Nat.zero_le _, Nat.zero_le _, rfl, rfl, ⟨rfl, .inl ⟨rfl, rfl⟩⟩, Below.refl _ _, rfl⟩
  case round =>
    obtain ⟨i, j, R, hi1, hj1, rfl, rfl, hown, hb, hR⟩ := hrel
    by_cases hi2 : i < md
    · have hiA : i < A.length := by rw [HA.out]; exact hi2
      have hxA := rdA.out wr hb i hiA
      have hxlt := (A[i]).lt
      obtain ⟨x, hx⟩ : ∃ x : Nat, x = (A[i]).val := ⟨_, rfl⟩
      have hXE : Hid ((Value.int .u64 ((x : Nat) : Int)) = encB A[i]) := by show _ = _; rw [hx]; rfl
      rw [← hx] at hxA hxlt
      have hrx := fun W => refRank_any x W hxlt
      by_cases hj2 : j < nb
      · have hjB : j < B.length := by rw [HB.out]; exact hj2
        have hyB := rdB.out wr hb j hjB
        have hylt := (B[j]).lt
        obtain ⟨y, hy⟩ : ∃ y : Nat, y = (B[j]).val := ⟨_, rfl⟩
        have hYE : Hid ((Value.int .u64 ((y : Nat) : Int)) = encB B[j]) := by show _ = _; rw [hy]; rfl
        rw [← hy] at hyB hylt
        have hry := fun W => refRank_any y W hylt
        by_cases hle : rank x ≤ rank y
        · have hnext : Hid (restM A B 0 0 = (R ++ [A[i]]) ++ restM A B (i + 1) j) := by
            show _ = _
            rw [hR.out, restM_le hiA hjB (by rw [← hx, ← hy]; exact hle), List.append_assoc]; rfl
          have hjn : ((j : Int) == (nb : Int)) = false := by rw [beq_eq_false_iff_ne]; omega
          clear hR rdA rdB hxlt hylt hx hy hYE
          generalize rank x = rx at *
          generalize rank y = ry at *
          go_wp2_with fail
          go_quiet (first | (go_at_call_of 39 (Value.float .f64 x); exact (hrx _).mono fun _ _ ⟨he, hw⟩ => ⟨he, _, hw.symm⟩) | (go_at_call_of 39 (Value.float .f64 y); exact (hry _).mono fun _ _ ⟨he, hw⟩ => ⟨he, _, hw.symm⟩))
          have hown' : (wr.drewN nq).ownsRow wB.heap.size 25 1 u5 (i + j) (R.map encB) := by simpa [World.ownsRow] using hown
          have hb' : Below wB.heap.size wB (wr.drewN nq) := below_drewN hb nq
          have hs' : wB.heap.size ≤ (wr.drewN nq).heap.size := hb'.size
          clear hown hb
          have hcell2 : (wr.drewN nq).cell? ⟨gA, i, none⟩ = some (.int .u64 (x : Nat)) := by simpa using hxA
          generalize wr.drewN nq = w2 at *
          go_wp2_with (at_builtin; refine wpList_append_own _ rfl _ _ 31 rfl wB.heap.size 25 i0 (.int .u64 0) 1 8 Tryd.underlying31 hi hz0 hz1 hz2 rfl (by decide) _ (i + j) _ (by rfl) (hown'.alloc _) ⟨w2.heap.size, 0, none⟩ 1 1 [.int .u64 (x : Nat)] (by rfl) rfl (cell_one_new _ _ _) (by intro u hu; simp at hu; subst hu; rfl) (by unfold maxLen; omega) (by omega) (by simp; omega) ?_; intro v' w1 hown1 hgrow1 _hn)
          have hown2 : w1.ownsRow wB.heap.size 25 1 v' ((i + 1) + j) ((R ++ [A[i]]).map encB) := by
            rw [List.map_append, show (i + 1) + j = i + j + 1 by omega]; rw [hXE.out] at hown1; exact hown1
          have hg2 : Below wB.heap.size wB w1 := (hb'.alloc hb'.size _).grown hgrow1 (by simp; omega) (fun k hk => (hown'.lt k hk).1)
          clear hown1 hgrow1 hown' hb' hcell2 _hn
          refine ⟨⟨_, _, _, _, _, _, _, _, _, _, _, _, _, _, _, _, _, _, _, _, _, _, _, _, _, _, _, _, _, _, _, _, _, _, _, _, _, _, _, _, _, _, _, _, _, _, _, _, _, _, _, _, _, _, _, _, ?rel, rfl⟩, ?measure⟩
          case rel => exact ⟨(i + 1), j, R ++ [A[i]], by omega, by omega, by go_num, by go_num, hown2, hg2, hnext⟩
          case measure => simp [intOf]; omega

        · have hnext : Hid (restM A B 0 0 = (R ++ [B[j]]) ++ restM A B i (j + 1)) := by
            show _ = _
            rw [hR.out, restM_gt hiA hjB (by rw [← hx, ← hy]; exact hle), List.append_assoc]; rfl
          have hjn : ((j : Int) == (nb : Int)) = false := by rw [beq_eq_false_iff_ne]; omega
          clear hR rdA rdB hxlt hylt hx hy hXE
          have hXE := hYE
          generalize rank x = rx at *
          generalize rank y = ry at *
          go_wp2_with fail
          go_quiet (first | (go_at_call_of 39 (Value.float .f64 x); exact (hrx _).mono fun _ _ ⟨he, hw⟩ => ⟨he, _, hw.symm⟩) | (go_at_call_of 39 (Value.float .f64 y); exact (hry _).mono fun _ _ ⟨he, hw⟩ => ⟨he, _, hw.symm⟩))
          have hown' : (wr.drewN nq).ownsRow wB.heap.size 25 1 u5 (i + j) (R.map encB) := by simpa [World.ownsRow] using hown
          have hb' : Below wB.heap.size wB (wr.drewN nq) := below_drewN hb nq
          have hs' : wB.heap.size ≤ (wr.drewN nq).heap.size := hb'.size
          clear hown hb
          have hcell2 : (wr.drewN nq).cell? ⟨gB, j, none⟩ = some (.int .u64 (y : Nat)) := by simpa using hyB
          generalize wr.drewN nq = w2 at *
          go_wp2_with (at_builtin; refine wpList_append_own _ rfl _ _ 31 rfl wB.heap.size 25 i0 (.int .u64 0) 1 8 Tryd.underlying31 hi hz0 hz1 hz2 rfl (by decide) _ (i + j) _ (by rfl) (hown'.alloc _) ⟨w2.heap.size, 0, none⟩ 1 1 [.int .u64 (y : Nat)] (by rfl) rfl (cell_one_new _ _ _) (by intro u hu; simp at hu; subst hu; rfl) (by unfold maxLen; omega) (by omega) (by simp; omega) ?_; intro v' w1 hown1 hgrow1 _hn)
          have hown2 : w1.ownsRow wB.heap.size 25 1 v' (i + (j + 1)) ((R ++ [B[j]]).map encB) := by
            rw [List.map_append, show i + (j + 1) = i + j + 1 by omega]; rw [hXE.out] at hown1; exact hown1
          have hg2 : Below wB.heap.size wB w1 := (hb'.alloc hb'.size _).grown hgrow1 (by simp; omega) (fun k hk => (hown'.lt k hk).1)
          clear hown1 hgrow1 hown' hb' hcell2 _hn
          refine ⟨⟨_, _, _, _, _, _, _, _, _, _, _, _, _, _, _, _, _, _, _, _, _, _, _, _, _, _, _, _, _, _, _, _, _, _, _, _, _, _, _, _, _, _, _, _, _, _, _, _, _, _, _, _, _, _, _, _, ?rel, rfl⟩, ?measure⟩
          case rel => exact ⟨i, (j + 1), R ++ [B[j]], by omega, by omega, by go_num, by go_num, hown2, hg2, hnext⟩
          case measure => simp [intOf]; omega

      · have hjn : j = nb := by omega
        have hnext : Hid (restM A B 0 0 = (R ++ [A[i]]) ++ restM A B (i + 1) j) := by
          show _ = _
          rw [hR.out, restM_left hiA (by rw [HB.out]; omega), List.append_assoc]; rfl
        clear hR rdA rdB hxlt hx hrx
        subst hjn
        go_wp2_with fail
        go_quiet (fail)
        have hown' : (wr.drewN nq).ownsRow wB.heap.size 25 1 u5 (i + j) (R.map encB) := by simpa [World.ownsRow] using hown
        have hb' : Below wB.heap.size wB (wr.drewN nq) := below_drewN hb nq
        have hs' : wB.heap.size ≤ (wr.drewN nq).heap.size := hb'.size
        clear hown hb
        have hcell2 : (wr.drewN nq).cell? ⟨gA, i, none⟩ = some (.int .u64 (x : Nat)) := by simpa using hxA
        generalize wr.drewN nq = w2 at *
        go_wp2_with (at_builtin; refine wpList_append_own _ rfl _ _ 31 rfl wB.heap.size 25 i0 (.int .u64 0) 1 8 Tryd.underlying31 hi hz0 hz1 hz2 rfl (by decide) _ (i + j) _ (by rfl) (hown'.alloc _) ⟨w2.heap.size, 0, none⟩ 1 1 [.int .u64 (x : Nat)] (by rfl) rfl (cell_one_new _ _ _) (by intro u hu; simp at hu; subst hu; rfl) (by unfold maxLen; omega) (by omega) (by simp; omega) ?_; intro v' w1 hown1 hgrow1 _hn)
        have hown2 : w1.ownsRow wB.heap.size 25 1 v' ((i + 1) + j) ((R ++ [A[i]]).map encB) := by
          rw [List.map_append, show (i + 1) + j = i + j + 1 by omega]; rw [hXE.out] at hown1; exact hown1
        have hg2 : Below wB.heap.size wB w1 := (hb'.alloc hb'.size _).grown hgrow1 (by simp; omega) (fun k hk => (hown'.lt k hk).1)
        clear hown1 hgrow1 hown' hb' hcell2 _hn
        refine ⟨⟨_, _, _, _, _, _, _, _, _, _, _, _, _, _, _, _, _, _, _, _, _, _, _, _, _, _, _, _, _, _, _, _, _, _, _, _, _, _, _, _, _, _, _, _, _, _, _, _, _, _, _, _, _, _, _, _, ?rel, rfl⟩, ?measure⟩
        case rel => exact ⟨(i + 1), j, R ++ [A[i]], by omega, by omega, by go_num, by go_num, hown2, hg2, hnext⟩
        case measure => simp [intOf]; omega
    · have hin : i = md := by omega
      by_cases hj2 : j < nb
      · have hjB : j < B.length := by rw [HB.out]; exact hj2
        have hyB := rdB.out wr hb j hjB
        obtain ⟨y, hy⟩ : ∃ y : Nat, y = (B[j]).val := ⟨_, rfl⟩
        have hXE : Hid ((Value.int .u64 ((y : Nat) : Int)) = encB B[j]) := by show _ = _; rw [hy]; rfl
        rw [← hy] at hyB
        have hnext : Hid (restM A B 0 0 = (R ++ [B[j]]) ++ restM A B i (j + 1)) := by
          show _ = _
          rw [hR.out, restM_right (by rw [HA.out]; omega) hjB, List.append_assoc]; rfl
        have hjn : ((j : Int) == (nb : Int)) = false := by rw [beq_eq_false_iff_ne]; omega
        clear hR rdA rdB hy
        subst hin
        go_wp2_with fail
        go_quiet (fail)
        have hown' : (wr.drewN nq).ownsRow wB.heap.size 25 1 u5 (i + j) (R.map encB) := by simpa [World.ownsRow] using hown
        have hb' : Below wB.heap.size wB (wr.drewN nq) := below_drewN hb nq
        have hs' : wB.heap.size ≤ (wr.drewN nq).heap.size := hb'.size
        clear hown hb
        have hcell2 : (wr.drewN nq).cell? ⟨gB, j, none⟩ = some (.int .u64 (y : Nat)) := by simpa using hyB
        generalize wr.drewN nq = w2 at *
        go_wp2_with (at_builtin; refine wpList_append_own _ rfl _ _ 31 rfl wB.heap.size 25 i0 (.int .u64 0) 1 8 Tryd.underlying31 hi hz0 hz1 hz2 rfl (by decide) _ (i + j) _ (by rfl) (hown'.alloc _) ⟨w2.heap.size, 0, none⟩ 1 1 [.int .u64 (y : Nat)] (by rfl) rfl (cell_one_new _ _ _) (by intro u hu; simp at hu; subst hu; rfl) (by unfold maxLen; omega) (by omega) (by simp; omega) ?_; intro v' w1 hown1 hgrow1 _hn)
        have hown2 : w1.ownsRow wB.heap.size 25 1 v' (i + (j + 1)) ((R ++ [B[j]]).map encB) := by
          rw [List.map_append, show i + (j + 1) = i + j + 1 by omega]; rw [hXE.out] at hown1; exact hown1
        have hg2 : Below wB.heap.size wB w1 := (hb'.alloc hb'.size _).grown hgrow1 (by simp; omega) (fun k hk => (hown'.lt k hk).1)
        clear hown1 hgrow1 hown' hb' hcell2 _hn
        refine ⟨⟨_, _, _, _, _, _, _, _, _, _, _, _, _, _, _, _, _, _, _, _, _, _, _, _, _, _, _, _, _, _, _, _, _, _, _, _, _, _, _, _, _, _, _, _, _, _, _, _, _, _, _, _, _, _, _, _, ?rel, rfl⟩, ?measure⟩
        case rel => exact ⟨i, (j + 1), R ++ [B[j]], by omega, by omega, by go_num, by go_num, hown2, hg2, hnext⟩
        case measure => simp [intOf]; omega
      · have hjn : j = nb := by omega
        have hR2 : Hid (restM A B 0 0 = R) := by
          show _ = _
          rw [hR.out, restM_end (by rw [HA.out]; omega) (by rw [HB.out]; omega), List.append_nil]
        subst hin
        subst hjn
        have HO := Lib.hid hown
        have HBe := Lib.hid (hEnd.trans (hb.mono hWB))
        clear hR rdA rdB hown hb
        go_wp2_with fail
        go_ret
        refine ⟨_, rfl, ?_, HBe.out⟩
        rw [hR2.out]
        have := HO.out
        refine ⟨this.1, ?_⟩
        rcases this.2 with h0 | ⟨g, c, cur, h1, h2, h3⟩
        · exact .inl h0
        · exact .inr ⟨g, c, cur, h1, Nat.le_trans hWB h2, h3⟩
end Go.Proofs.YtldhbelinopniaaDoor
