/- The walk of the law that whatever order numbers come in, they are put in one: it comes to true. -/
import Derived.Test.YtldhbelinopniaaDoorOa
import Derived.Deep.AppendLies
namespace Go
/-- At a step of a region that draws its order: an append of none too. -/
theorem step_append_own {P : Program} (w : World) {ops : Array Oper} {o : Oper} {a : Act} {K : Act → World → Prop} {Q : Exit → Act → World → Prop} {E : Prop} (hgd : o.guard = none) (s x : Operand) (t : TypeId)
    (ho : o.op = .call { callee := .builtin .append, args := #[s, x], argTypes := #[t, t] })
    (base : Nat) (e : TypeId) (i : TypeInfo) (z : Value) (size bytes : Nat) (ht : P.underlying t = some (.slice e)) (hi : P.info? e = some i) (hz : i.zero = some z)
    (hsize : i.size = size) (hby : i.bytes = bytes) (hzs : z.cells.size = size) (hsz : 0 < size)
    (v : Value) (n : Nat) (xs : List Value) (hs : a.eval s = v) (hown : w.ownsRow base e size v n xs)
    (ad : Addr) (m c : Nat) (news : List Value) (hx : a.eval x = .slice (some ad) m c) (hl : news.length = m * size) (hnews : ∀ j u, news[j]? = some u → w.cell? (ad.add j) = some u) (h1 : ∀ u ∈ news, u.oneCell' = true)
    (h63 : n + m ≤ maxLen) (hbytes : (n + m) * bytes ≤ 140737488355328) (hbase : base ≤ w.heap.size)
    (h : ∀ v' w', w'.ownsRow base e size v' (n + m) (xs ++ news) → w.grownBy w' v.ownBlock → K (a.put o.dst v') w') :
    if Region.wanted o (yielded ops a.tmps) = true then Oper.wp P o a w K Q else E := by
  have hw : Region.wanted o (yielded ops a.tmps) = true := by simp [Region.wanted, hgd]
  rw [if_pos hw]
  exact wp_append_own w s x t ho base e i z size bytes ht hi hz hsize hby hzs hsz v n xs hs hown ad m c news hx hl hnews h1 h63 hbytes hbase (fun v' w' h1 h2 _ => h v' w' h1 h2)
end Go
namespace Tocsin
theorem srtW_rotate (zs : List Nat) (k : Nat) : srtW (zs.drop k ++ zs.take k) = srtW zs := by
  apply srtW_eq
  · refine (srtW_perm zs).trans ?_
    refine List.Perm.map _ ?_
    have h : (zs.take k ++ zs.drop k).Perm (zs.drop k ++ zs.take k) := List.perm_append_comm
    rwa [List.take_append_drop] at h
  · exact srtW_sorted zs
end Tocsin
namespace Go.Proofs.YtldhbelinopniaaDoor
open Go.RowKit Go.Shelf Go.Sort Go.Proofs Go.Lib Tocsin

set_option maxHeartbeats 4000000 in
set_option maxRecDepth 100000 in
theorem numSorts_pos (b off cap : Nat) (zs : List Nat) (t : Int) (w : World) (h : Floats w w.heap.size (some ⟨b, off, none⟩) zs) (hcap : zs.length ≤ cap) (hpos : 0 < zs.length) (hreach : zs.length * 8 ≤ 140737488351232) (L : Laid w) :
    Calls Tryd.prog 4 #[.slice (some ⟨b, off, none⟩) zs.length cap, .int .i64 t] w fun e w' => e = .returned (.bool true) ∧ Below w.heap.size w w' := by
  have c0 := fixed_any w L
  obtain ⟨i0, hi, hz0, hz1, hz2⟩ := info_parts floatInfo
  have F0 : From w w := Below.refl _ _
  have hF := Lib.hid h
  obtain ⟨len, hlen⟩ : ∃ n, n = zs.length := ⟨_, rfl⟩
  have Hl := Lib.hid hlen
  rw [← hlen] at hreach hcap hpos ⊢
  obtain ⟨at', hat⟩ : ∃ k : Nat, (k : Int) = IntKind.u64.wrap t % (len : Int) := ⟨(IntKind.u64.wrap t % (len : Int)).toNat, Int.toNat_of_nonneg (Int.emod_nonneg _ (by omega))⟩
  have hlt : at' < len := by
    have : (at' : Int) < len := by rw [hat]; exact Int.emod_lt_of_pos _ (by omega)
    omega
  have c1 : ∀ W, From w W → Calls Tryd.prog 20 #[.slice (some ⟨b, off, none⟩) len cap] W fun e w' => ∃ v, e = .returned v ∧ w'.ownsRow W.heap.size 25 1 v len ((srtW zs).map encB) ∧ Below W.heap.size W w' := fun W hW => by
    have := refSort_any (some ⟨b, off, none⟩) cap zs W (hF.out.later hW) (by rw [← Hl.out]; exact hcap) (by rw [← Hl.out]; exact hreach)
    rwa [← Hl.out] at this
  have c2 : ∀ W, From w W → Calls Tryd.prog 21 #[.slice (some ⟨b, off, none⟩) len cap] W fun e w' => e = .returned (.slice (some ⟨W.heap.size, 0, none⟩) len len) ∧
      w'.ownsRow W.heap.size 22 1 (.slice (some ⟨W.heap.size, 0, none⟩) len len) len ((srtW zs).map encW) ∧ Below W.heap.size W w' := fun W hW => by
    have := sort_any (some ⟨b, off, none⟩) cap zs W (hF.out.later hW) (by rw [← Hl.out]; exact hreach)
    rwa [← Hl.out] at this
  have c4 : ∀ W, From w W → Calls Tryd.prog 22 #[.slice (some ⟨b, off, none⟩) len cap] W fun e w' => e = .returned (.float .f64 (leastW zs)) ∧ Below W.heap.size W w' := fun W hW => by
    have := least_any (some ⟨b, off, none⟩) cap zs W (hF.out.later hW) (by rw [← Hl.out]; exact hreach)
    rwa [← Hl.out] at this
  have c5 : ∀ W, From w W → Calls Tryd.prog 23 #[.slice (some ⟨b, off, none⟩) len cap] W fun e w' => e = .returned (.int .u64 (leastW zs : Nat)) ∧ Below W.heap.size W w' := fun W hW => by
    have := refLeast_any (some ⟨b, off, none⟩) cap zs W (hF.out.later hW) (by rw [← Hl.out]; exact hcap) (by rw [← Hl.out]; exact hreach)
    rwa [← Hl.out] at this
  have c6 : ∀ W, From w W → Calls Tryd.prog 24 #[.slice (some ⟨b, off, none⟩) len cap] W fun e w' => e = .returned (.float .f64 (greatestW zs)) ∧ Below W.heap.size W w' := fun W hW => by
    have := greatest_any (some ⟨b, off, none⟩) cap zs W (hF.out.later hW) (by rw [← Hl.out]; exact hreach)
    rwa [← Hl.out] at this
  have c7 : ∀ W, From w W → Calls Tryd.prog 25 #[.slice (some ⟨b, off, none⟩) len cap] W fun e w' => e = .returned (.int .u64 (greatestW zs : Nat)) ∧ Below W.heap.size W w' := fun W hW => by
    have := refGreatest_any (some ⟨b, off, none⟩) cap zs W (hF.out.later hW) (by rw [← Hl.out]; exact hcap) (by rw [← Hl.out]; exact hreach)
    rwa [← Hl.out] at this
  have c8 : ∀ W (g c : Nat), Floats W W.heap.size (some ⟨g, 0, none⟩) (zs.drop at' ++ zs.take at') → Calls Tryd.prog 21 #[.slice (some ⟨g, 0, none⟩) len c] W fun e w' => e = .returned (.slice (some ⟨W.heap.size, 0, none⟩) len len) ∧
      w'.ownsRow W.heap.size 22 1 (.slice (some ⟨W.heap.size, 0, none⟩) len len) len ((srtW zs).map encW) ∧ Below W.heap.size W w' := fun W g c hR => by
    have e : (zs.drop at' ++ zs.take at').length = len := by rw [List.length_append, List.length_drop, List.length_take, ← Hl.out]; omega
    have := sort_any (some ⟨g, 0, none⟩) c _ W hR (by rw [e]; exact hreach)
    rwa [e, srtW_rotate] at this
  have b1 := fun W => bits_any (leastW zs) W
  have b2 := fun W => bits_any (greatestW zs) W
  have hLz : Hid ((srtW zs).length = len) := by show _ = _; rw [srtW_length, ← Hl.out]
  have hrd := Lib.hid (show ∀ W, From w W → ∀ j, j < len → W.cell? ⟨b, off + j, none⟩ = some (.float .f64 (zs.getD j 0)) from fun W hW j hj => by
    rcases h.2 with h0 | ⟨b', off', he, hb, hc⟩
    · rw [h0] at hlen; simp at hlen; omega
    · cases he
      rw [Below.cell hW (p := ⟨b, off + j, none⟩) hb]
      exact hc j (by rw [← hlen]; exact hj))
  have hAt := Lib.hid hat
  generalize leastW zs = xl at *
  generalize greatestW zs = xg at *
  clear L h hlen
  go_enter Tryd.func4, Tryd.ntmps4
  go_wp2_with fail
  refine c0.mono ?_; rintro e w1 ⟨rfl, hb⟩
  have F1 : From w w1 := F0.go hb
  clear F0 hb c0
  go_wp2_with fail
  refine (c1 _ F1).mono ?_; rintro e w2 ⟨v, rfl, hown, hb⟩
  have F2 : From w w2 := F1.go hb
  obtain ⟨g5, k5, rfl⟩ : ∃ g c, v = .slice (some ⟨g, 0, none⟩) len c := ownsRow_shape hown hpos
  have hown' := Lib.hid hown
  clear F1 hb c1 hown
  have q0 : (0 : Int) < (len : Int) := by omega
  have q0' : ¬ (len : Int) = 0 := by omega
  have hq : (IntKind.u64.wrap t).tmod (len : Int) = (at' : Int) := by
    rw [Int.tmod_eq_emod_of_nonneg (by rw [IntKind.wrap_u64]; omega)]
    exact hAt.out.symm
  have q1 : (at' : Int) ≤ (len : Int) := by omega
  have q2 : (at' : Int) ≤ (cap : Int) := by omega
  have q3 : (len : Int) ≤ (cap : Int) := by omega
  have q4 : (0 : Int) ≤ (at' : Int) := by omega
  have q5 : ¬ cap = at' := by omega
  have nA : ∀ W, Below w.heap.size w W → ∀ j u, ((zs.drop at').map (Value.float .f64))[j]? = some u → W.cell? ((⟨b, off + at', none⟩ : Addr).add j) = some u := fun W hW j u hu => by
    rw [List.getElem?_map, List.getElem?_drop] at hu
    obtain ⟨x, hx, rfl⟩ := Option.map_eq_some_iff.1 hu
    have hj : at' + j < zs.length := (List.getElem?_eq_some_iff.1 hx).1
    rw [Addr.add_lit, Nat.add_assoc, hrd.out W hW (at' + j) (by rw [Hl.out]; exact hj)]
    simp [List.getD, hx]
  have nB : ∀ W, Below w.heap.size w W → ∀ j u, ((zs.take at').map (Value.float .f64))[j]? = some u → W.cell? ((⟨b, off, none⟩ : Addr).add j) = some u := fun W hW j u hu => by
    rw [List.getElem?_map] at hu
    obtain ⟨x, hx, rfl⟩ := Option.map_eq_some_iff.1 hu
    have hj : j < (zs.take at').length := (List.getElem?_eq_some_iff.1 hx).1
    rw [List.length_take] at hj
    rw [List.getElem?_take_of_lt (by omega)] at hx
    rw [Addr.add_lit, hrd.out W hW j (by rw [Hl.out]; omega)]
    simp [List.getD, hx]
  have NA := Lib.hid nA
  have NB := Lib.hid nB
  have lA : Hid (((zs.drop at').map (Value.float .f64)).length = (len - at') * 1) := by show _ = _; rw [List.length_map, List.length_drop, ← Hl.out]; omega
  have lB : Hid (((zs.take at').map (Value.float .f64)).length = at' * 1) := by show _ = _; rw [List.length_map, List.length_take, ← Hl.out]; omega
  have oA : Hid (∀ u ∈ (zs.drop at').map (Value.float .f64), u.oneCell' = true) := by intro u hu; obtain ⟨x, -, rfl⟩ := List.mem_map.1 hu; rfl
  have oB : Hid (∀ u ∈ (zs.take at').map (Value.float .f64), u.oneCell' = true) := by intro u hu; obtain ⟨x, -, rfl⟩ := List.mem_map.1 hu; rfl
  have hAB : Hid ((zs.drop at').map (Value.float .f64) ++ (zs.take at').map (Value.float .f64) = (zs.drop at' ++ zs.take at').map (Value.float .f64)) := List.map_append.symm
  have hzR : Hid (∀ x ∈ zs.drop at' ++ zs.take at', x < 18446744073709551616) := fun x hx => by
    rcases List.mem_append.1 hx with h | h
    · exact hF.out.1 x (List.mem_of_mem_drop h)
    · exact hF.out.1 x (List.mem_of_mem_take h)
  have lR : Hid ((zs.drop at' ++ zs.take at').length = len) := by show _ = _; rw [List.length_append, List.length_drop, List.length_take, ← Hl.out]; omega
  have hrs := Lib.hid hreach
  generalize zs.drop at' ++ zs.take at' = zr at *
  generalize (zs.drop at').map (Value.float .f64) = dA at *
  generalize (zs.take at').map (Value.float .f64) = dB at *
  clear nA nB hat
  go_wp2_with fail
  have K1' : Hid (∀ (W W' : World) (v : Value) (n : Nat) (xs : List Value), Below w2.heap.size w2 W → W.ownsRow w2.heap.size 22 1 v n xs → W.grownBy W' v.ownBlock → Below w2.heap.size w2 W') := fun W W' v n xs hW ho hg =>
    Below.grown hW hg (Below.size hW) (fun k hk => (ho.lt k hk).1)
  have hFW : Hid (∀ W, Below w2.heap.size w2 W → Below w.heap.size w W) := fun W hW => Below.trans F2 (hW.mono (Below.size F2))
  have A1 : Hid (∀ (W : World) (ops : Array Oper) (o : Oper) (a : Act) (K : Act → World → Prop) (Q : Exit → Act → World → Prop) (E : Prop) (_ : Below w2.heap.size w2 W) (_ : o.guard = none) (s x : Operand)
      (_ : o.op = .call { callee := .builtin .append, args := #[s, x], argTypes := #[30, 30] }) (_ : a.eval s = .slice none 0 0) (_ : a.eval x = .slice (some ⟨b, off + at', none⟩) (len - at') (cap - at'))
      (_ : ∀ g c w', w'.ownsRow w2.heap.size 22 1 (.slice (some ⟨g, 0, none⟩) (0 + (len - at')) c) (0 + (len - at')) ([] ++ dA) → Below w2.heap.size w2 w' → K (a.put o.dst (.slice (some ⟨g, 0, none⟩) (0 + (len - at')) c)) w'),
      if Region.wanted o (yielded ops a.tmps) = true then Oper.wp Tryd.prog o a W K Q else E) := fun W ops o a K Q E hW hgd s x ho hs hx hK =>
    step_append_lies W hgd s x 30 ho w2.heap.size 22 i0 (.float .f64 0) 1 8 Tryd.underlying30 hi hz0 hz1 hz2 rfl (by decide) (.slice none 0 0) 0 [] hs (World.ownsRow_nil _ _ _ _) ⟨b, off + at', none⟩ (len - at') (cap - at') dA hx lA.out (NA.out W (hFW.out W hW)) oA.out
      (by omega) (by unfold maxLen; omega) (by omega) (Below.size hW) _ rfl (fun g c w' h1 h2 _ _ => hK g c w' h1 (K1'.out _ _ _ _ _ hW (World.ownsRow_nil _ _ _ _) h2))
  have A2 : Hid (∀ (W : World) (g c : Nat) (ops : Array Oper) (o : Oper) (a : Act) (K : Act → World → Prop) (Q : Exit → Act → World → Prop) (E : Prop) (_ : Below w2.heap.size w2 W) (_ : W.ownsRow w2.heap.size 22 1 (.slice (some ⟨g, 0, none⟩) (0 + (len - at')) c) (0 + (len - at')) ([] ++ dA)) (_ : o.guard = none) (s x : Operand)
      (_ : o.op = .call { callee := .builtin .append, args := #[s, x], argTypes := #[30, 30] }) (_ : a.eval s = .slice (some ⟨g, 0, none⟩) (0 + (len - at')) c) (_ : a.eval x = .slice (some ⟨b, off, none⟩) at' cap)
      (_ : ∀ v w', Hid (w'.ownsRow w2.heap.size 22 1 v (0 + (len - at') + at') ([] ++ dA ++ dB)) → Below w2.heap.size w2 w' → K (a.put o.dst v) w'),
      if Region.wanted o (yielded ops a.tmps) = true then Oper.wp Tryd.prog o a W K Q else E) := fun W g c ops o a K Q E hW hO hgd s x ho hs hx hK =>
    step_append_own W hgd s x 30 ho w2.heap.size 22 i0 (.float .f64 0) 1 8 Tryd.underlying30 hi hz0 hz1 hz2 rfl (by decide) (.slice (some ⟨g, 0, none⟩) (0 + (len - at')) c) _ _ hs hO ⟨b, off, none⟩ at' cap dB hx lB.out (NB.out W (hFW.out W hW)) oB.out
      (by unfold maxLen; omega) (by omega) (Below.size hW) (fun v w' h1 h2 => hK v w' h1 (K1'.out _ _ _ _ _ hW hO h2))
  have S2 : Below w2.heap.size w2 w2 := Below.refl _ _
  go_region_held3 (fun w' => Below w2.heap.size w2 w') (first | assumption | exact Below.drew (by assumption))
    (first | (refine A1.out _ _ _ _ _ _ _ (by first | assumption | exact Below.drew (by assumption)) (by rfl) _ _ (by rfl) (by rfl) (by rfl) ?_; intro g3 c3 w3 own3 below3) | (refine A2.out _ g3 c3 _ _ _ _ _ _ (by assumption) own3 (by rfl) _ _ (by rfl) (by rfl) (by rfl) ?_; intro v4 w4 own4 below4))
  obtain ⟨g4, cc4, rfl⟩ := ownsRow_shape own4.out (by omega)
  have hnn : 0 + (len - at') + at' = len := by omega
  rw [hnn]
  have own4' := own4.out
  rw [List.nil_append, hAB.out, hnn] at own4'
  have F4 : From w w4 := hFW.out _ below4
  have B4 := Lib.hid below4
  have hF4 := Lib.hid (show Floats w4 w4.heap.size (some ⟨g4, 0, none⟩) zr from ⟨hzR.out, .inr ⟨g4, 0, rfl, ownsRow_lt own4', fun j hj => by
    rw [Nat.zero_add, own4'.cellAt j (by rw [lR.out] at hj; omega), List.getElem?_map]
    simp [List.getD, hj]⟩⟩)
  have Hnn := Lib.hid hnn
  clear A1 A2 K1' own3 below3 own4 own4' below4 S2 hnn q1 q2 q4 q5 hq oA oB lA lB NA NB hAB
  go_wp2_with fail
  refine (c2 _ F4).mono ?_; rintro e w5 ⟨rfl, own5, hb⟩
  have F5 : From w w5 := F4.go hb
  have B5 := Lib.hid (Below.trans B4.out (hb.mono (Below.size B4.out)))
  have hF5 := Lib.hid (hF4.out.later hb)
  have own5' := Lib.hid own5
  clear F4 hb own5 hF4 B4
  go_wp2_with fail
  refine (c8 _ g4 cc4 hF5.out).mono ?_; rintro e w6 ⟨rfl, own6, hb⟩
  have F6 : From w w6 := F5.go hb
  have B6 := Lib.hid (Below.trans B5.out (hb.mono (Below.size B5.out)))
  have rdW := Lib.hid (show ∀ W, Below w6.heap.size w6 W → ∀ j (h : j < (srtW zs).length), W.cell? ⟨g5, j, none⟩ = some (.int .u64 ((srtW zs)[j].val : Nat)) from fun W hW j hj => by
    have e := hLz.out
    have o1 := ownsRow_later hown'.out B6.out (ownsRow_lt hown'.out)
    rw [hW.cell (p := ⟨g5, j, none⟩) (ownsRow_lt o1), o1.cellAt j (by omega), List.getElem?_map, List.getElem?_eq_getElem hj]; rfl)
  have rd1 := Lib.hid (show ∀ W, Below w6.heap.size w6 W → ∀ j (h : j < (srtW zs).length), W.cell? ⟨w4.heap.size, j, none⟩ = some (.float .f64 (srtW zs)[j].val) from fun W hW j hj => by
    have e := hLz.out
    have o1 := ownsRow_later own5'.out hb (ownsRow_lt own5'.out)
    rw [hW.cell (p := ⟨w4.heap.size, j, none⟩) (ownsRow_lt o1), o1.cellAt j (by omega), List.getElem?_map, List.getElem?_eq_getElem hj]; rfl)
  have rd2 := Lib.hid (show ∀ W, Below w6.heap.size w6 W → ∀ j (h : j < (srtW zs).length), W.cell? ⟨w5.heap.size, j, none⟩ = some (.float .f64 (srtW zs)[j].val) from fun W hW j hj => by
    have e := hLz.out
    rw [hW.cell (p := ⟨w5.heap.size, j, none⟩) (ownsRow_lt own6), own6.cellAt j (by omega), List.getElem?_map, List.getElem?_eq_getElem hj]; rfl)
  clear F5 hb hF5 B5 own5' own6 c2 c8 hown'
  go_wp2_with fail
  generalize hw7 : World.alloc w6 _ = w7
  have k0 : w7.cell? ⟨w6.heap.size, 0, none⟩ = some (.slice (some ⟨w4.heap.size, 0, none⟩) len len) := by rw [← hw7]; simp
  have k1 : w7.cell? ⟨w6.heap.size, 1, none⟩ = some (.slice (some ⟨w5.heap.size, 0, none⟩) len len) := by rw [← hw7]; simp
  have B7 := Lib.hid (show Below w6.heap.size w6 w7 from by rw [← hw7]; exact (Below.refl _ _).alloc (Nat.le_refl _) _)
  have F7 : Hid (From w w7) := F6.go B7.out
  clear hw7 F6
  generalize srtW zs = l at *
  go_loopw [40] (fun vk wr => ∃ (k q : Nat), k ≤ 2 ∧ vk = .int .i64 k ∧ wr = w7.drewN q) (fun vk _ => 2 - (intOf vk).toNat)
  case atStart => exact ⟨0, 0, by decide, rfl, rfl⟩
  case round =>
    obtain ⟨k, q, hk, rfl, hq⟩ := hrel
    obtain ⟨wa, hwa⟩ : ∃ wa, wa = wr := ⟨_, rfl⟩
    subst hwa
    have hQ := Lib.hid hq
    by_cases hk2 : k < 2
    · have hka : ∃ ga, wa.cell? ⟨w6.heap.size, k, none⟩ = some (.slice (some ⟨ga, 0, none⟩) len len) ∧ Hid (∀ W, Below w6.heap.size w6 W → ∀ j (h : j < l.length), W.cell? ⟨ga, j, none⟩ = some (.float .f64 l[j].val)) := by
        rcases (show k = 0 ∨ k = 1 by omega) with rfl | rfl
        · exact ⟨_, by rw [hq]; simpa using k0, rd1.out⟩
        · exact ⟨_, by rw [hq]; simpa using k1, rd2.out⟩
      obtain ⟨ga, hka, hrdg⟩ := hka
      clear rd1 rd2 k0 k1 hq
      go_wp2_with fail
      go_loopw [51] (fun vi wr => ∃ (i m : Nat), i ≤ len ∧ vi = .int .i64 i ∧ wr = wa.drewN m) (fun vi _ => len - (intOf vi).toNat)
      case atStart => exact ⟨0, 0, Nat.zero_le _, rfl, rfl⟩
      case round =>
        obtain ⟨i, m, hi2, rfl, hm⟩ := hrel
        obtain ⟨wb, hwb⟩ : ∃ wb, wb = wr := ⟨_, rfl⟩
        subst hwb
        have hM := Lib.hid hm
        by_cases hlt2 : i < len
        · have hBb : Below w6.heap.size w6 wb := by rw [hm, hQ.out]; exact below_drewN (below_drewN B7.out _) _
          have hil : i < l.length := by rw [hLz.out]; exact hlt2
          have x1 := hrdg.out wb hBb i hil
          have x2 := rdW.out wb hBb i hil
          have hbt := fun W => bits_any l[i].val W
          clear hBb hm hrdg rdW
          generalize l[i].val = z at *
          clear hil
          go_wp2_with fail
          go_quiet ((go_at_call 15; exact (hbt _).mono fun _ _ ⟨he, hw⟩ => ⟨he, _, hw.symm⟩))
          go_wp2_with fail
          refine ⟨⟨i + 1, m + nq, by omega, by go_num, by rw [hM.out]; simp⟩, by simp [intOf]; omega⟩
        · have hil : i = len := by omega
          subst hil
          clear hm hrdg rdW
          go_wp2_with fail
          refine ⟨⟨k + 1, q + m, by omega, by go_num, by rw [hM.out, hQ.out]; simp⟩, by simp [intOf]; omega⟩
    · have hk3 : k = 2 := by omega
      subst hk3
      have F8 : From w wa := by rw [hq]; exact F7.out.drewN q
      clear rd1 rd2 rdW k0 k1 hq hk2
      go_wp2_with fail
      refine (c4 _ F8).mono ?_; rintro e w9 ⟨rfl, hb⟩
      have F9 : From w w9 := F8.go hb
      clear F8 hb c4
      go_wp2_with fail
      refine (b1 _).mono ?_; rintro e w' ⟨rfl, rfl⟩
      go_wp2_with fail
      refine (c5 _ F9).mono ?_; rintro e w10 ⟨rfl, hb⟩
      have F10 : From w w10 := F9.go hb
      clear F9 hb c5
      go_wp2_with fail
      refine (c6 _ F10).mono ?_; rintro e w11 ⟨rfl, hb⟩
      have F11 : From w w11 := F10.go hb
      clear F10 hb c6
      go_wp2_with fail
      refine (b2 _).mono ?_; rintro e w' ⟨rfl, rfl⟩
      go_wp2_with fail
      refine (c7 _ F11).mono ?_; rintro e w12 ⟨rfl, hb⟩
      have F12 : From w w12 := F11.go hb
      clear F11 hb c7
      go_wp2_with fail
      go_ret
      exact ⟨rfl, F12⟩

set_option maxHeartbeats 4000000 in
set_option maxRecDepth 100000 in
theorem numSorts_zero (a : Option Addr) (cap : Nat) (t : Int) (w : World) (L : Laid w) :
    Calls Tryd.prog 4 #[.slice a 0 cap, .int .i64 t] w fun e w' => e = .returned (.bool true) ∧ Below w.heap.size w w' := by
  have c0 := fixed_any w L
  have F0 : From w w := Below.refl _ _
  have hF : ∀ (a : Option Addr) W, Floats W W.heap.size a [] := fun a W => ⟨by simp, .inl rfl⟩
  have c1 := fun W => refSort_zero a cap W
  have c2 : ∀ (a : Option Addr) cap W, Calls Tryd.prog 21 #[.slice a 0 cap] W fun e w' => e = .returned (.slice (some ⟨W.heap.size, 0, none⟩) 0 0) ∧ Below W.heap.size W w' := fun a cap W =>
    (sort_none a cap W).mono fun e w' ⟨h1, _, h2⟩ => ⟨h1, h2⟩
  have c4 : ∀ W, Calls Tryd.prog 22 #[.slice a 0 cap] W fun e w' => e = .returned (.float .f64 (leastW [])) ∧ Below W.heap.size W w' := fun W => least_any a cap [] W (hF _ _) (by simp)
  have c5 : ∀ W, Calls Tryd.prog 23 #[.slice a 0 cap] W fun e w' => e = .returned (.int .u64 (leastW [] : Nat)) ∧ Below W.heap.size W w' := fun W => refLeast_any a cap [] W (hF _ _) (by simp) (by simp)
  have c6 : ∀ W, Calls Tryd.prog 24 #[.slice a 0 cap] W fun e w' => e = .returned (.float .f64 (greatestW [])) ∧ Below W.heap.size W w' := fun W => greatest_any a cap [] W (hF _ _) (by simp)
  have c7 : ∀ W, Calls Tryd.prog 25 #[.slice a 0 cap] W fun e w' => e = .returned (.int .u64 (greatestW [] : Nat)) ∧ Below W.heap.size W w' := fun W => refGreatest_any a cap [] W (hF _ _) (by simp) (by simp)
  have b1 := fun W => bits_any (leastW []) W
  have b2 := fun W => bits_any (greatestW []) W
  generalize leastW [] = xl at *
  generalize greatestW [] = xg at *
  clear L hF
  go_enter Tryd.func4, Tryd.ntmps4
  go_wp2_with fail
  refine c0.mono ?_; rintro e w1 ⟨rfl, hb⟩
  have F1 : From w w1 := F0.go hb
  clear F0 hb c0
  go_wp2_with fail
  refine (c1 _).mono ?_; rintro e w' ⟨rfl, rfl⟩
  go_wp2_with fail
  refine (c2 _ _ _).mono ?_; rintro e w5 ⟨rfl, hb⟩
  have F5 : From w w5 := F1.go hb
  clear F1 hb
  go_wp2_with fail
  refine (c2 _ _ _).mono ?_; rintro e w6 ⟨rfl, hb⟩
  have F6 : From w w6 := F5.go hb
  clear F5 hb
  go_wp2_with fail
  generalize hw7 : World.alloc w6 _ = w7
  have F7 : Hid (From w w7) := by show From _ _; rw [← hw7]; exact F6.alloc _
  have k0 : ∃ ga, w7.cell? ⟨w6.heap.size, 0, none⟩ = some (.slice (some ⟨ga, 0, none⟩) 0 0) := ⟨_, by rw [← hw7]; simp; rfl⟩
  have k1 : ∃ ga, w7.cell? ⟨w6.heap.size, 1, none⟩ = some (.slice (some ⟨ga, 0, none⟩) 0 0) := ⟨_, by rw [← hw7]; simp; rfl⟩
  clear hw7 F6
  go_loopw [40] (fun vk wr => ∃ (k q : Nat), k ≤ 2 ∧ vk = .int .i64 k ∧ wr = w7.drewN q) (fun vk _ => 2 - (intOf vk).toNat)
  case atStart => exact ⟨0, 0, by decide, rfl, rfl⟩
  case round =>
    obtain ⟨k, q, hk, rfl, hq⟩ := hrel
    obtain ⟨wa, hwa⟩ : ∃ wa, wa = wr := ⟨_, rfl⟩
    subst hwa
    have hQ := Lib.hid hq
    by_cases hk2 : k < 2
    · have hka : ∃ ga, wa.cell? ⟨w6.heap.size, k, none⟩ = some (.slice (some ⟨ga, 0, none⟩) 0 0) := by
        rcases (show k = 0 ∨ k = 1 by omega) with rfl | rfl
        · rw [hq]; simpa using k0
        · rw [hq]; simpa using k1
      obtain ⟨ga, hka⟩ := hka
      clear k0 k1 hq
      go_wp2_with fail
      refine wp_loop_rounds 1 ?_
      rw [rounds_succ]
      go_wp2_with fail
      refine ⟨⟨k + 1, q, by omega, by go_num, by rw [hQ.out]⟩, by simp [intOf]; omega⟩
    · have hk3 : k = 2 := by omega
      subst hk3
      have F8 : From w wa := by rw [hq]; exact F7.out.drewN q
      clear k0 k1 hq hk2
      go_wp2_with fail
      refine (c4 _).mono ?_; rintro e w9 ⟨rfl, hb⟩
      have F9 : From w w9 := F8.go hb
      clear F8 hb c4
      go_wp2_with fail
      refine (b1 _).mono ?_; rintro e w' ⟨rfl, rfl⟩
      go_wp2_with fail
      refine (c5 _).mono ?_; rintro e w10 ⟨rfl, hb⟩
      have F10 : From w w10 := F9.go hb
      clear F9 hb c5
      go_wp2_with fail
      refine (c6 _).mono ?_; rintro e w11 ⟨rfl, hb⟩
      have F11 : From w w11 := F10.go hb
      clear F10 hb c6
      go_wp2_with fail
      refine (b2 _).mono ?_; rintro e w' ⟨rfl, rfl⟩
      go_wp2_with fail
      refine (c7 _).mono ?_; rintro e w12 ⟨rfl, hb⟩
      have F12 : From w w12 := F11.go hb
      clear F11 hb c7
      go_wp2_with fail
      go_ret
      exact ⟨rfl, F12⟩

theorem numSorts_any (a : Option Addr) (cap : Nat) (zs : List Nat) (t : Int) (w : World) (h : Floats w w.heap.size a zs) (hreach : zs.length * 8 ≤ 140737488351232) (hcap : zs.length ≤ cap) (L : Laid w) :
    Calls Tryd.prog 4 #[.slice a zs.length cap, .int .i64 t] w fun e w' => e = .returned (.bool true) ∧ Below w.heap.size w w' := by
  by_cases h0 : zs = []
  · subst h0; exact numSorts_zero a cap t w L
  · rcases h.2 with h1 | ⟨b, off, rfl, -⟩
    · exact absurd h1 h0
    · exact numSorts_pos b off cap zs t w h hcap (List.length_pos_iff.2 h0) hreach L
end Go.Proofs.YtldhbelinopniaaDoor
