/- slices.Insert of one packet, in place: there is room, and something stands behind the place. -/
import Derived.Test.YtckanomabhbkaaaQN
import Derived.Deep.RegionLaw
namespace Go.Proofs.Ytckanomabhbkaaa
open Go.RowKit Go.Shelf
set_option linter.unusedVariables false
set_option maxHeartbeats 1600000 in
theorem insert_shift (g c : Nat) (l : List Pk) (i : Nat) (p : Pk) (vb : Nat) (w : World) (base : Nat) (hO : Own Pk.cells 6 w base 30 (.slice (some ⟨g, 0, none⟩) l.length c) l) (hi : i < l.length) (hroom : l.length + 1 ≤ c)
    (hv : w.heap[vb]? = some (.cells #[.int .i64 p.id, .int .i64 p.dst, .int .i64 p.pr, .int .i64 p.born, .int .i64 p.life, .string p.data] 30 (0, 0))) (hne : vb ≠ g) :
    Calls Try.prog 78 #[.slice (some ⟨g, 0, none⟩) l.length c, .int .i64 i, .slice (some ⟨vb, 0, none⟩) 1 1] w fun e w' => ∃ v1, e = .returned v1 ∧ Own Pk.cells 6 w' base 30 v1 (l.take i ++ p :: l.drop i) ∧ w.grownBy w' (some g) := by
  have HO := Lib.hid hO
  obtain ⟨A', c', e', hle, hcm⟩ := hO.form
  cases e'
  unfold maxLen at hcm
  have HV := Lib.hid hv
  have b1 : ((i : Int) == (l.length : Int)) = false := by simp; omega
  obtain ⟨hOl, hcase⟩ := hO
  rcases hcase with ⟨h0, _⟩ | ⟨g', cap, cur, he, hb, hg, hn, hcap, hcs, htake⟩
  · cases h0
  cases he
  have hFlen := F_len l
  have HCL := Lib.hid (show cur.toList.length = c * 6 by rw [Array.length_toList]; exact hcs)
  have hsh : ∀ j, (w.drew.setRow g ((splice cur.toList ((i + 1) * 6) ((l.flatMap Pk.cells).drop (i * 6))).toArray)).heap[j]? = if j = g then some (.cells (splice cur.toList ((i + 1) * 6) ((l.flatMap Pk.cells).drop (i * 6))).toArray 30 (0, 0)) else w.heap[j]? := fun j => by
    by_cases hj : j = g
    · subst hj; rw [if_pos rfl]; exact setRow_heap w.drew j cur _ 30 (0, 0) hg
    · rw [if_neg hj]; exact setRow_other w.drew g j _ hj
  have hov : ∀ (W : World) lb cb, W.heap = w.heap → (callFunc 104 #[.slice (some ⟨vb, 0, none⟩) 1 1, .slice (some ⟨g, (i + 1) * 6, none⟩) lb cb]).run Try.prog W = .ok (.value (.bool false)) W := fun W lb cb hW => by
    have hvW : W.heap[vb]? = some (.cells #[.int .i64 p.id, .int .i64 p.dst, .int .i64 p.pr, .int .i64 p.born, .int .i64 p.life, .string p.data] 30 (0, 0)) := by rw [hW]; exact hv
    have hgW : W.heap[g]? = some (.cells cur 30 (0, 0)) := by rw [hW]; exact hg
    rw [run_callFunc_extern Try.func104 (by kernel_rfl) (by kernel_rfl) (by kernel_rfl) (e := Extern.SlicesOverlaps.overlaps #[22, 22] #[4]) (by kernel_rfl),
      Lib.run_overlaps_apart W 22 4 30 Try.underlying22 6 (fun w => by kernel_rfl) ⟨vb, 0, none⟩ ⟨g, (i + 1) * 6, none⟩ 1 1 lb cb hne 30 30 6 cur.size (by simp [World.shape?, hvW]) (by simp [World.shape?, hgW]) (by rw [hcs]; omega) (by simp [World.frozen?, hvW]) (by simp [World.frozen?, hvW])]
    rfl
  have hw1 : IntKind.i64.wrap ((i : Int) + 1) = (i : Int) + 1 := by rw [IntKind.wrap_i64]; omega
  have HG := Lib.hid hg
  have HCS := Lib.hid hcs
  have HT := Lib.hid htake
  have HF := Lib.hid hFlen
  have HSH := Lib.hid hsh
  clear hv hg hcs htake hFlen hsh hOl hcap
  go_enter Try.func78, Try.ntmps78
  set_option maxRecDepth 100000 in
  go_wp2_with fail
  have hb1 : (0 : Int) ≤ (i : Int) + 1 := by omega
  have htn : ((i : Int) + 1).toNat = i + 1 := by omega
  have hin : i ≤ l.length := by omega
  have hb2 : ¬ (c = i + 1) := by omega
  have hb3 : (i : Int) ≤ (l.length : Int) + 1 := by omega
  have hb4 : ¬ (c = i) := by omega
  have hcp1 : ∀ ty dc sc, (Builtin.copy_ #[22, 22] ty #[.slice (some ⟨g, (i + 1) * 6, none⟩) (l.length - i) dc, .slice (some ⟨g, i * 6, none⟩) (l.length + 1 - i) sc]).run Try.prog w.drew = .ok (goInt (l.length - i : Nat)) (w.drew.setRow g ((splice cur.toList ((i + 1) * 6) ((l.flatMap Pk.cells).drop (i * 6))).toArray)) := fun ty dc sc =>
    run_copy_k w.drew 22 22 ty 30 6 g ((i + 1) * 6) (l.length - i) dc ⟨g, i * 6, none⟩ (l.length + 1 - i) sc cur 30 _ (l.length - i) Try.underlying22 (by rw [show (Try.prog.info? 30).map (·.size) = ((Try.prog.info? 30).map (fun i => (i.zero, i.size, i.bytes))).map (fun x => x.2.1) from by rw [Option.map_map]; rfl, info30]; rfl) HG.out (by simp only [Nat.min_def]; split <;> omega) (by rw [List.length_drop, HF.out, Nat.sub_mul])
      (fun j v hj => by
        have hj2 : (l.flatMap Pk.cells)[i * 6 + j]? = some v := by rwa [List.getElem?_drop] at hj
        have hadd : (⟨g, i * 6, none⟩ : Addr).add j = ⟨g, i * 6 + j, none⟩ := by unfold Addr.add; split <;> simp_all
        rw [hadd]
        show w.cell? ⟨g, i * 6 + j, none⟩ = some v
        have hlt : i * 6 + j < l.length * 6 := by rw [← HF.out]; exact (List.getElem?_eq_some_iff.1 hj2).1
        simp only [World.cell?, HG.out]
        rw [← HT.out, List.getElem?_take, if_pos hlt] at hj2
        simpa using hj2)
      (by rw [List.length_drop, HF.out, HCS.out]; omega) (fun v hv => by
        obtain ⟨y, _, hy⟩ := List.mem_flatMap.1 (List.mem_of_mem_drop hv)
        exact Pk.cells_one y v hy)
  obtain ⟨W1, hW1⟩ : ∃ W1, W1 = w.drew.setRow g ((splice cur.toList ((i + 1) * 6) ((l.flatMap Pk.cells).drop (i * 6))).toArray) := ⟨_, rfl⟩
  have hg1 : W1.heap[g]? = some (.cells (splice cur.toList ((i + 1) * 6) ((l.flatMap Pk.cells).drop (i * 6))).toArray 30 (0, 0)) := by rw [hW1, HSH.out, if_pos rfl]
  have hv1 : W1.heap[vb]? = some (.cells #[.int .i64 p.id, .int .i64 p.dst, .int .i64 p.pr, .int .i64 p.born, .int .i64 p.life, .string p.data] 30 (0, 0)) := by rw [hW1, HSH.out, if_neg hne]; exact HV.out
  have hlen1 : (splice cur.toList ((i + 1) * 6) ((l.flatMap Pk.cells).drop (i * 6))).length = c * 6 := by
    rw [length_splice _ _ _ (by rw [List.length_drop, HF.out, HCL.out]; omega), HCL.out]
  have hcp2 : ∀ ty dc, (Builtin.copy_ #[22, 22] ty #[.slice (some ⟨g, i * 6, none⟩) (l.length + 1 - i) dc, .slice (some ⟨vb, 0, none⟩) 1 1]).run Try.prog W1 = .ok (goInt (1 : Nat)) (W1.setRow g (splice (splice cur.toList ((i + 1) * 6) ((l.flatMap Pk.cells).drop (i * 6))) (i * 6) p.cells).toArray) := fun ty dc => by
    have h := run_copy_k (P := Try.prog) W1 22 22 ty 30 6 g (i * 6) (l.length + 1 - i) dc ⟨vb, 0, none⟩ 1 1 _ 30 p.cells 1 Try.underlying22 (by rw [show (Try.prog.info? 30).map (·.size) = ((Try.prog.info? 30).map (fun i => (i.zero, i.size, i.bytes))).map (fun x => x.2.1) from by rw [Option.map_map]; rfl, info30]; rfl) hg1 (by simp only [Nat.min_def]; split <;> omega) rfl
      (fun j v hj => by
        have hr := (RowAt.at_block hv1).2 (by simp)
        obtain ⟨ad, e, hc⟩ := hr
        cases e
        have := hc 0 p rfl j v hj
        rwa [Nat.zero_mul, Nat.zero_add] at this)
      (by simp only [List.size_toArray, hlen1, Pk.cells_len]; omega) (Pk.cells_one p)
    simpa using h
  rw [← hW1] at hcp1
  have HW1 := Lib.hid hW1
  clear hW1
  go_region_law (refine step_copy_is rfl _ _ 22 22 rfl _ _ (by simp [Act.eval, Act.put]) (by simp [Act.eval, Act.put]) (hcp1 _ _ _) ?_)
  have HG1 := Lib.hid hg1
  have HL1 := Lib.hid hlen1
  clear hg1 hv1 hlen1
  set_option maxRecDepth 100000 in
  go_wp2_with (refine wpList_copy_is _ rfl _ _ 22 22 rfl _ _ rfl rfl (hcp2 _ _) ?_)
  go_ret
  refine ⟨.slice (some ⟨g, 0, none⟩) (l.length + 1) c, rfl, ?_, ?_⟩
  · refine ⟨by rw [F_len], .inr ⟨g, c, _, by rw [List.length_append, List.length_cons, List.length_take, List.length_drop, show min i l.length + (l.length - i + 1) = l.length + 1 from by omega], hb, setRow_heap _ g _ _ 30 (0, 0) HG1.out, by rw [List.length_append, List.length_cons, List.length_take, List.length_drop]; omega, by unfold maxLen; omega, by rw [List.size_toArray, length_splice _ _ _ (by rw [HL1.out, Pk.cells_len]; omega), HL1.out], ?_⟩⟩
    rw [List.length_append, List.length_cons, List.length_take, List.length_drop, show min i l.length + (l.length - i + 1) = l.length + 1 from by omega, List.toList_toArray, List.flatMap_append, List.flatMap_cons, F_take, F_drop]
    exact let_in cur.toList l.length i _ p.cells HT.out HF.out (by omega) rfl (by rw [HCL.out]; omega)
  · have g1 : w.grownBy W1 (some g) := by
      rw [HW1.out]
      exact (show w.grownBy w.drew (some g) from ⟨rfl, rfl, rfl, Nat.le_refl _, fun _ _ _ => rfl⟩).trans (setRow_grown _ _ _)
    exact g1.trans (setRow_grown _ _ _)
end Go.Proofs.Ytckanomabhbkaaa
