/- slices.Insert of one packet: no room, and something stands behind the place: a new row. -/
import Derived.Test.YtckanomabhbkaaaQN2
import Derived.Maps.RangeWalk
namespace Go.Proofs.Ytckanomabhbkaaa
open Go.RowKit Go.Shelf
set_option linter.unusedVariables false

theorem size30 : (Try.prog.info? 30).map (·.size) = some 6 := by
  rw [show (Try.prog.info? 30).map (·.size) = ((Try.prog.info? 30).map (fun i => (i.zero, i.size, i.bytes))).map (fun x => x.2.1) from by rw [Option.map_map]; rfl, info30]; rfl
/-- The cells of a new row: what stood ahead of place i, the element, what stood from i on. -/
theorem let_in_new (L : List Value) (n i : Nat) (F : List Value) (q : List Value) (hL : L.take (i * 6) = F.take (i * 6)) (hF : F.length = n * 6) (hi : i ≤ n) (hq : q.length = 6) (hfit : (n + 1) * 6 ≤ L.length) :
    (splice (splice L (i * 6) q) ((i + 1) * 6) (F.drop (i * 6))).take ((n + 1) * 6) = F.take (i * 6) ++ (q ++ F.drop (i * 6)) := by
  have h1 : (F.drop (i * 6)).length = n * 6 - i * 6 := by rw [List.length_drop, hF]
  have h2 : (splice L (i * 6) q).length = L.length := length_splice _ _ _ (by rw [hq]; omega)
  apply List.ext_getElem?
  intro j
  rw [List.getElem?_take]
  by_cases hj : j < (n + 1) * 6
  · rw [if_pos hj, splice_get _ _ _ (by rw [h2, h1]; omega), splice_get _ _ _ (by rw [hq]; omega), h1, hq]
    by_cases c1 : j < i * 6
    · rw [if_pos (by omega), if_pos c1, List.getElem?_append_left (by rw [List.length_take, hF]; omega), ← hL, List.getElem?_take, if_pos c1]
    · rw [List.getElem?_append_right (by rw [List.length_take, hF]; omega), List.length_take, hF, show min (i * 6) (n * 6) = i * 6 from by omega]
      by_cases c2 : j < i * 6 + 6
      · rw [if_pos (by omega), if_neg c1, if_pos c2, List.getElem?_append_left (by omega)]
      · rw [if_neg (by omega), if_pos (by omega), List.getElem?_append_right (by omega), hq]
        congr 1; omega
  · rw [if_neg hj]
    symm
    apply List.getElem?_eq_none
    rw [List.length_append, List.length_append, List.length_take, h1, hF, hq]; omega

set_option maxHeartbeats 1600000 in
theorem insert_grow (g c : Nat) (l : List Pk) (i : Nat) (p : Pk) (vb : Nat) (w : World) (base : Nat) (hO : Own Pk.cells 6 w base 30 (.slice (some ⟨g, 0, none⟩) l.length c) l) (hi : i < l.length) (hroom : c < l.length + 1)
    (hv : w.heap[vb]? = some (.cells #[.int .i64 p.id, .int .i64 p.dst, .int .i64 p.pr, .int .i64 p.born, .int .i64 p.life, .string p.data] 30 (0, 0))) (hbase : base ≤ w.heap.size) (hlen : (l.length + 1) * 56 ≤ 140737488355328) :
    Calls Try.prog 78 #[.slice (some ⟨g, 0, none⟩) l.length c, .int .i64 i, .slice (some ⟨vb, 0, none⟩) 1 1] w fun e w' => ∃ v1, e = .returned v1 ∧ Own Pk.cells 6 w' base 30 v1 (l.take i ++ p :: l.drop i) ∧ w.grownBy w' (some g) := by
  have HO := Lib.hid hO
  obtain ⟨A', c', e', hle, hcm⟩ := hO.form
  cases e'
  unfold maxLen at hcm
  have HV := Lib.hid hv
  have HL := Lib.hid hlen
  have b1 : ((i : Int) == (l.length : Int)) = false := by simp; omega
  obtain rfl : c = l.length := by omega
  obtain ⟨hOl, hcase⟩ := hO
  rcases hcase with ⟨h0, _⟩ | ⟨g', cap, cur, he, hb, hg, hn, hcap, hcs, htake⟩
  · cases h0
  cases he
  have hFlen := F_len l
  have hvlt : vb < w.heap.size := (Array.getElem?_eq_some_iff.1 hv).1
  have hglt : g < w.heap.size := (Array.getElem?_eq_some_iff.1 hg).1
  have hcells : ∀ (W : World), W.heap[g]? = w.heap[g]? → ∀ j v, (l.flatMap Pk.cells)[j]? = some v → W.cell? ⟨g, j, none⟩ = some v := fun W hW j v hj => by
    have hlt : j < l.length * 6 := by rw [← hFlen]; exact (List.getElem?_eq_some_iff.1 hj).1
    simp only [World.cell?, hW, hg]
    rw [← htake, List.getElem?_take, if_pos hlt] at hj
    simpa using hj
  have hadd : ∀ a j : Nat, (⟨g, a, none⟩ : Addr).add j = ⟨g, a + j, none⟩ := fun a j => by unfold Addr.add; split <;> simp_all
  obtain ⟨i0, hi0, hzz⟩ := Option.map_eq_some_iff.1 info30
  simp only [Prod.mk.injEq] at hzz
  obtain ⟨hz0, hz1, hz2⟩ := hzz
  have h1F : ∀ v ∈ l.flatMap Pk.cells, v.oneCell' = true := fun v hv => by
    obtain ⟨y, _, hy⟩ := List.mem_flatMap.1 hv
    exact Pk.cells_one y v hy
  have hFt : ((l.flatMap Pk.cells).take (i * 6)).length = i * 6 := by rw [List.length_take, hFlen]; omega
  obtain ⟨m, hm⟩ : ∃ m, m = l.length + 1 - i := ⟨_, rfl⟩
  obtain ⟨cp, hcp⟩ : ∃ cp, cp = grownCap w (l.length + 1) l.length 30 := ⟨_, rfl⟩
  have hcpge : l.length + 1 ≤ cp := by rw [hcp]; exact grownCap_ge _ _ _ _
  have hcpm : cp ≤ 9223372036854775807 := by have := grownCap_le_maxLen w (l.length + 1) l.length 30 (by unfold maxLen; omega); unfold maxLen at this; omega
  obtain ⟨L2, hL2⟩ : ∃ L2, L2 = ((l.flatMap Pk.cells).take (i * 6)).toArray ++ Builtin.zeroCells (Value.agg #[.int .i64 0, .int .i64 0, .int .i64 0, .int .i64 0, .int .i64 0, .string ⟨#[]⟩]).cells m ++ Builtin.zeroCells (Value.agg #[.int .i64 0, .int .i64 0, .int .i64 0, .int .i64 0, .int .i64 0, .string ⟨#[]⟩]).cells (cp - (l.length + 1)) := ⟨_, rfl⟩
  have hL2s : L2.size = cp * 6 := by
    rw [hL2, Array.size_append, Array.size_append, zeroCells_size, zeroCells_size, List.size_toArray, hFt]
    show i * 6 + m * 6 + (cp - (l.length + 1)) * 6 = cp * 6
    omega
  have hL2t : L2.toList.take (i * 6) = (l.flatMap Pk.cells).take (i * 6) := by
    rw [hL2, Array.toList_append, Array.toList_append, List.append_assoc, List.toList_toArray, List.take_append_of_le_length (by omega), List.take_of_length_le (l := (l.flatMap Pk.cells).take (i * 6)) (by omega)]
  have hrun : ∀ ty, (Builtin.append_ #[22, 3] ty #[.slice (some ⟨g, 0, none⟩) i l.length, .int .i64 m]).run Try.prog w = .ok (.slice (some ⟨w.heap.size, 0, none⟩) (l.length + 1) cp) (w.drew.alloc (.cells L2 30)) := fun ty => by
    have h := Lib.run_append_grow_zeros (P := Try.prog) w 22 3 ty 30 i0 _ .i64 .i64 Try.underlying22 Try.underlying3 hi0 hz0 (some ⟨g, 0, none⟩) i l.length ((l.flatMap Pk.cells).take (i * 6)) (by
      rw [hz1]
      refine run_firstCells_some w.drew 6 i _ _ _ _ (by rw [hFt]) (fun j v hj => ?_)
      rw [hadd, Nat.zero_add]
      rw [List.getElem?_take] at hj
      by_cases hji : j < i * 6
      · rw [if_pos hji] at hj
        exact hcells w.drew rfl j v hj
      · rw [if_neg hji] at hj; cases hj) m (by omega) (by rw [hz1]; omega) (by omega) (by omega) (by rw [hz2]; omega) (by rw [hz2, show i + m = l.length + 1 from by omega]; exact growslice_fits (by omega) hlen)
    rw [show i + m = l.length + 1 from by omega, ← hcp, ← hL2] at h
    exact h
  have hne : g ≠ w.heap.size := by omega
  obtain ⟨W2, hW2⟩ : ∃ W2 : World, W2 = w.drew.alloc (.cells L2 30) := ⟨_, rfl⟩
  have hg2 : W2.heap[w.heap.size]? = some (.cells L2 30 (0, 0)) := by rw [hW2]; exact heap_alloc_new w.drew _
  have hg2o : ∀ k, k < w.heap.size → W2.heap[k]? = w.heap[k]? := fun k hk => by rw [hW2]; exact Below.heap_alloc w.drew _ k hk
  have hcp1 : ∀ ty dc, (Builtin.copy_ #[22, 22] ty #[.slice (some ⟨w.heap.size, i * 6, none⟩) (l.length + 1 - i) dc, .slice (some ⟨vb, 0, none⟩) 1 1]).run Try.prog W2 = .ok (goInt (1 : Nat)) (W2.setRow w.heap.size (splice L2.toList (i * 6) p.cells).toArray) := fun ty dc =>
    run_copy_k W2 22 22 ty 30 6 w.heap.size (i * 6) (l.length + 1 - i) dc ⟨vb, 0, none⟩ 1 1 L2 30 p.cells 1 Try.underlying22 size30 hg2 (by simp only [Nat.min_def]; split <;> omega) rfl
      (fun j v hj => by
        obtain ⟨ad, e, hc⟩ := (RowAt.at_block (w := W2) (b := vb) ((hg2o vb hvlt).trans hv)).2 (by simp)
        cases e
        have := hc 0 p rfl j v hj
        rwa [Nat.zero_mul, Nat.zero_add] at this)
      (by rw [hL2s, Pk.cells_len]; omega) (Pk.cells_one p)
  obtain ⟨W3, hW3⟩ : ∃ W3 : World, W3 = W2.setRow w.heap.size (splice L2.toList (i * 6) p.cells).toArray := ⟨_, rfl⟩
  have hg3 : W3.heap[w.heap.size]? = some (.cells (splice L2.toList (i * 6) p.cells).toArray 30 (0, 0)) := by rw [hW3]; exact setRow_heap W2 _ _ _ 30 (0, 0) hg2
  have hg3o : W3.heap[g]? = w.heap[g]? := by rw [hW3, setRow_other W2 _ g _ hne]; exact hg2o g hglt
  have hl3 : (splice L2.toList (i * 6) p.cells).length = cp * 6 := by
    rw [length_splice _ _ _ (by rw [Pk.cells_len, Array.length_toList, hL2s]; omega), Array.length_toList, hL2s]
  have hcp2 : ∀ ty dc sc, (Builtin.copy_ #[22, 22] ty #[.slice (some ⟨w.heap.size, (i + 1) * 6, none⟩) (l.length - i) dc, .slice (some ⟨g, i * 6, none⟩) (l.length - i) sc]).run Try.prog W3.drew = .ok (goInt (l.length - i : Nat)) (W3.drew.setRow w.heap.size (splice (splice L2.toList (i * 6) p.cells) ((i + 1) * 6) ((l.flatMap Pk.cells).drop (i * 6))).toArray) := fun ty dc sc => by
    have h := run_copy_k (P := Try.prog) W3.drew 22 22 ty 30 6 w.heap.size ((i + 1) * 6) (l.length - i) dc ⟨g, i * 6, none⟩ (l.length - i) sc _ 30 ((l.flatMap Pk.cells).drop (i * 6)) (l.length - i) Try.underlying22 size30 hg3 (by simp) (by rw [List.length_drop, hFlen, Nat.sub_mul])
      (fun j v hj => by
        rw [hadd]
        exact hcells W3.drew hg3o _ v (by rwa [List.getElem?_drop] at hj))
      (by rw [List.length_drop, hFlen, List.size_toArray, hl3]; omega) (fun v hv => h1F v (List.mem_of_mem_drop hv))
    simpa using h
  have hgr : w.grownBy W3 (some g) := by
    rw [hW3, hW2]
    have g1 : w.grownBy (w.drew.alloc (.cells L2 30)) (some g) := (show w.grownBy w.drew (some g) from ⟨rfl, rfl, rfl, Nat.le_refl _, fun _ _ _ => rfl⟩).trans (World.grownBy_alloc _ _ _)
    exact ⟨g1.os, g1.tape, g1.output, by simp [World.setRow], fun k hk hne => (setRow_other _ _ k _ (by omega)).trans (g1.block k hk hne)⟩
  rw [← hW2] at hrun
  rw [← hW3] at hcp1
  have HG3 := Lib.hid hg3
  have HL3 := Lib.hid hl3
  have HL2T := Lib.hid hL2t
  have HFL := Lib.hid hFlen
  have HM := Lib.hid hm
  have hmz : (l.length : Int) + 1 - i = m := by omega
  have hb1 : (0 : Int) ≤ (i : Int) + 1 := by omega
  have htn : ((i : Int) + 1).toNat = i + 1 := by omega
  have hin : i ≤ l.length := by omega
  have hw1 : IntKind.i64.wrap ((i : Int) + 1) = (i : Int) + 1 := by rw [IntKind.wrap_i64]; omega
  have hb2 : ¬ (cp = i + 1) := by omega
  have hb4 : ¬ (cp = i) := by omega
  have hb5 : ¬ (l.length = i) := by omega
  clear hv hlen hg hcs htake hFlen hFt hcells hOl hW2 hW3 hg2 hg3 hL2 hL2s hL2t hl3 hg3o hg2o hcp hm hi0 hz0 hz1 hz2
  go_enter Try.func78, Try.ntmps78
  set_option maxRecDepth 100000 in
  go_wp2_with (first | (at_builtin; refine Lib.wpList_append_run _ rfl _ _ 22 3 rfl _ _ rfl rfl _ _ (hrun _) ?_) | (refine wpList_copy_is _ rfl _ _ 22 22 rfl _ _ rfl rfl (hcp1 _ _) ?_))
  go_frame
  obtain ⟨W4, hW4⟩ : ∃ W4 : World, W4 = W3.drew.setRow w.heap.size (splice (splice L2.toList (i * 6) p.cells) ((i + 1) * 6) ((l.flatMap Pk.cells).drop (i * 6))).toArray := ⟨_, rfl⟩
  rw [← hW4] at hcp2
  have HW4 := Lib.hid hW4
  clear hW4
  go_region_law (refine step_copy_is rfl _ _ 22 22 rfl _ _ (by simp [Act.eval, Act.put]) (by simp [Act.eval, Act.put]) (hcp2 _ _ _) ?_)
  set_option maxRecDepth 100000 in
  go_wp2
  go_ret
  refine ⟨.slice (some ⟨w.heap.size, 0, none⟩) (l.length + 1) cp, rfl, ?_, ?_⟩
  · have hll : (l.take i ++ p :: l.drop i).length = l.length + 1 := by rw [List.length_append, List.length_cons, List.length_take, List.length_drop]; omega
    refine ⟨by rw [F_len], .inr ⟨w.heap.size, cp, _, by rw [hll], hbase, by rw [HW4.out]; exact setRow_heap _ _ _ _ 30 (0, 0) (show W3.drew.heap[w.heap.size]? = _ from HG3.out), by rw [hll]; omega, by unfold maxLen; omega, by rw [List.size_toArray, length_splice _ _ _ (by rw [HL3.out, List.length_drop, HFL.out]; omega), HL3.out], ?_⟩⟩
    rw [hll, List.toList_toArray, List.flatMap_append, List.flatMap_cons, F_take, F_drop]
    refine let_in_new L2.toList l.length i _ p.cells HL2T.out HFL.out (by omega) rfl ?_
    have h3 := HL3.out
    by_cases hcase : i * 6 + 6 ≤ L2.toList.length
    · rw [length_splice _ _ _ (by rw [Pk.cells_len]; omega)] at h3; omega
    · exfalso
      simp only [splice, List.length_append, List.length_take, List.length_drop, Pk.cells_len] at h3
      omega
  · rw [HW4.out]
    have g2 : w.grownBy W3.drew (some g) := hgr.trans (show W3.grownBy W3.drew (some g) from ⟨rfl, rfl, rfl, Nat.le_refl _, fun _ _ _ => rfl⟩)
    exact ⟨g2.os, g2.tape, g2.output, by simpa [World.setRow] using g2.size, fun k hk hne => (setRow_other _ _ k _ (by omega)).trans (g2.block k hk hne)⟩
/-- slices.Insert of one packet at any place. -/
theorem insert_any (A : Option Addr) (c : Nat) (l : List Pk) (i : Nat) (p : Pk) (vb : Nat) (w : World) (base : Nat) (hO : Own Pk.cells 6 w base 30 (.slice A l.length c) l) (hi : i ≤ l.length)
    (hv : w.heap[vb]? = some (.cells #[.int .i64 p.id, .int .i64 p.dst, .int .i64 p.pr, .int .i64 p.born, .int .i64 p.life, .string p.data] 30 (0, 0))) (hne : ob A ≠ some vb) (hbase : base ≤ w.heap.size) (hlen : (l.length + 1) * 56 ≤ 140737488355328) :
    Calls Try.prog 78 #[.slice A l.length c, .int .i64 i, .slice (some ⟨vb, 0, none⟩) 1 1] w fun e w' => ∃ v1, e = .returned v1 ∧ Own Pk.cells 6 w' base 30 v1 (l.take i ++ p :: l.drop i) ∧ w.grownBy w' (ob A) := by
  by_cases h : i = l.length
  · subst h
    rw [List.take_of_length_le (Nat.le_refl _), List.drop_of_length_le (Nat.le_refl _)]
    exact insert_end A c l p vb w base hO hv hbase hlen
  · obtain ⟨g, cap, he, _, _⟩ := World.ownsRow.form hO (by omega)
    injection he with e1 e2 e3
    subst e1
    have hne' : vb ≠ g := fun e => hne (by rw [e]; rfl)
    by_cases hc : l.length + 1 ≤ c
    · exact insert_shift g c l i p vb w base hO (by omega) hc hv hne'
    · exact insert_grow g c l i p vb w base hO (by omega) (by omega) hv hbase hlen
end Go.Proofs.Ytckanomabhbkaaa
