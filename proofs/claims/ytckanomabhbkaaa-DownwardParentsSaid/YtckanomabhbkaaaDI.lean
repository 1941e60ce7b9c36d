/- slices.Clone and slices.Insert of reports: written by wip/tools/reports.py out of the texts about packets. -/
import Derived.Test.YtckanomabhbkaaaDA
import Derived.Test.YtckanomabhbkaaaQMem
import Derived.WalkSpells
import Derived.Deep.RegionLaw
import Derived.Maps.RangeWalk
namespace Go.Proofs.Ytckanomabhbkaaa
open Go.RowKit Go.Shelf
set_option linter.unusedVariables false

theorem info70 : (Try.prog.info? 70).map (fun i => (i.zero, i.size, i.bytes)) = some (some (.agg #[(.int .i64 0), (.int .i64 0), (.int .i64 0)]), 3, 24) := by kernel_rfl

set_option maxHeartbeats 800000 in
theorem rclone_any (A : Option Addr) (c : Nat) (l : List Rp) (w : World) (hr : RowAt Rp.cells 3 w A l) (hl : l.length * 24 ≤ 140737488355328) (hA : A = none → c = 0) :
    Calls Try.prog 56 #[.slice A l.length c] w fun e w' => ∃ v, e = .returned v ∧ Own Rp.cells 3 w' w.heap.size 70 v l ∧ Below w.heap.size w w' := by
  have HR := Lib.hid hr
  have HL := Lib.hid hl
  clear hl
  cases A with
  | none =>
    obtain rfl : l = [] := by
      cases l with
      | nil => rfl
      | cons x l => obtain ⟨ad, e, _⟩ := hr.2 (by simp); cases e
    obtain rfl := hA rfl
    clear hr hA
    have hq := fun (w : World) (n c : Nat) => Lib.run_eql_slice_nil (P := Try.prog) w 68 70 none n c 0 0 Try.underlying68
    go_enter Try.func56, Try.ntmps56
    go_wp2
    go_ret
    exact ⟨_, rfl, Own.nil _ _ _, Below.refl _ _⟩
  | some ad =>
    clear hr hA
    have hq := fun (w : World) (n c : Nat) => Lib.run_eql_slice_nil (P := Try.prog) w 68 70 (some ad) n c 0 0 Try.underlying68
    go_enter Try.func56, Try.ntmps56
    go_wp2_with (at_builtin; refine Own.append Rp.cells_len Rp.cells_one rfl _ _ 68 70 _ 24 rfl Try.underlying68 info70 rfl (by decide) (by decide) _ [] rfl (base := w.heap.size) (Own.made0 w 70) ad l c rfl (HR.out.below ((Below.refl _ _).alloc (Nat.le_refl _) _)) (by simp) (by simpa using HL.out) ?_; intro v1 w1 hown hg hat)
    go_ret
    exact ⟨_, rfl, by simpa using hown, ((Below.refl _ _).alloc (Nat.le_refl _) _).grown hg (by simp) (by intro k e; cases e; exact Nat.le_refl _)⟩

theorem RowAt.at_block3 {w : World} {b : Nat} {p : Rp} {t : TypeId} (hv : w.heap[b]? = some (.cells #[.int .i64 p.node, .int .i64 p.parent, .int .i64 p.num] t (0, 0))) : RowAt Rp.cells 3 w (some ⟨b, 0, none⟩) [p] := by
  refine ⟨by simp, fun _ => ⟨_, rfl, fun i y hy j v hj => ?_⟩⟩
  match i, hy with
  | 0, hy =>
    simp at hy; subst hy
    rw [Nat.zero_mul, Nat.zero_add]
    have hadd : (⟨b, 0, none⟩ : Addr).add j = ⟨b, j, none⟩ := by unfold Addr.add; split <;> simp_all
    rw [hadd]
    simp only [World.cell?, hv]
    simpa [Rp.cells] using hj
  | i + 1, hy => simp at hy

theorem rF_len (l : List Rp) : (l.flatMap Rp.cells).length = l.length * 3 := flat_len Rp.cells_len l
theorem rF_take (l : List Rp) (i : Nat) : (l.take i).flatMap Rp.cells = (l.flatMap Rp.cells).take (i * 3) := by
  have hF := rF_len l
  by_cases hi : i ≤ l.length
  · have h := congrArg (List.flatMap Rp.cells) (List.take_append_drop i l)
    rw [List.flatMap_append] at h
    have h6 : ((l.take i).flatMap Rp.cells).length = i * 3 := by rw [rF_len, List.length_take]; omega
    conv => rhs; rw [← h]
    rw [List.take_append_of_le_length (by omega), List.take_of_length_le (l := (l.take i).flatMap Rp.cells) (by omega)]
  · rw [List.take_of_length_le (show l.length ≤ i by omega), List.take_of_length_le (l := l.flatMap Rp.cells) (by omega)]
theorem rF_drop (l : List Rp) (i : Nat) : (l.drop i).flatMap Rp.cells = (l.flatMap Rp.cells).drop (i * 3) := by
  have hF := rF_len l
  by_cases hi : i ≤ l.length
  · have h := congrArg (List.flatMap Rp.cells) (List.take_append_drop i l)
    rw [List.flatMap_append] at h
    have h6 : ((l.take i).flatMap Rp.cells).length = i * 3 := by rw [rF_len, List.length_take]; omega
    conv => rhs; rw [← h]
    rw [List.drop_append_of_le_length (by omega), List.drop_of_length_le (l := (l.take i).flatMap Rp.cells) (by omega), List.nil_append]
  · rw [List.drop_of_length_le (show l.length ≤ i by omega), List.drop_of_length_le (l := l.flatMap Rp.cells) (by omega)]; rfl
/-- The cells of a row after one element has been let in at place i: what stood from i on lies one further. -/
theorem rlet_in (L : List Value) (n i : Nat) (F : List Value) (q : List Value) (hL : L.take (n * 3) = F) (hF : F.length = n * 3) (hi : i ≤ n) (hq : q.length = 3) (hfit : (n + 1) * 3 ≤ L.length) :
    (splice (splice L ((i + 1) * 3) (F.drop (i * 3))) (i * 3) q).take ((n + 1) * 3) = F.take (i * 3) ++ (q ++ F.drop (i * 3)) := by
  have h1 : (F.drop (i * 3)).length = n * 3 - i * 3 := by rw [List.length_drop, hF]
  have h2 : (splice L ((i + 1) * 3) (F.drop (i * 3))).length = L.length := length_splice _ _ _ (by rw [h1]; omega)
  apply List.ext_getElem?
  intro j
  rw [List.getElem?_take]
  by_cases hj : j < (n + 1) * 3
  · rw [if_pos hj, splice_get _ _ _ (by rw [h2, hq]; omega), splice_get _ _ _ (by rw [h1]; omega), h1, hq]
    have hFL : ∀ k, k < n * 3 → L[k]? = F[k]? := fun k hk => by rw [← hL, List.getElem?_take, if_pos hk]
    by_cases c1 : j < i * 3
    · rw [if_pos c1, if_pos (by omega), List.getElem?_append_left (by rw [List.length_take, hF]; omega), List.getElem?_take, if_pos c1]
      exact hFL j (by omega)
    · rw [if_neg c1, List.getElem?_append_right (by rw [List.length_take, hF]; omega), List.length_take, hF, show min (i * 3) (n * 3) = i * 3 from by omega]
      by_cases c2 : j < i * 3 + 3
      · rw [if_pos c2, List.getElem?_append_left (by omega)]
      · rw [if_neg c2, if_neg (by omega), if_pos (by omega), List.getElem?_append_right (by omega), hq]
        congr 1; omega
  · rw [if_neg hj]
    symm
    apply List.getElem?_eq_none
    rw [List.length_append, List.length_append, List.length_take, h1, hF, hq]; omega
set_option maxHeartbeats 800000 in
theorem rinsert_end (A : Option Addr) (c : Nat) (l : List Rp) (p : Rp) (vb : Nat) (w : World) (base : Nat) (hO : Own Rp.cells 3 w base 70 (.slice A l.length c) l)
    (hv : w.heap[vb]? = some (.cells #[.int .i64 p.node, .int .i64 p.parent, .int .i64 p.num] 70 (0, 0))) (hbase : base ≤ w.heap.size) (hlen : (l.length + 1) * 24 ≤ 140737488355328) :
    Calls Try.prog 89 #[.slice A l.length c, .int .i64 l.length, .slice (some ⟨vb, 0, none⟩) 1 1] w fun e w' => ∃ v1, e = .returned v1 ∧ Own Rp.cells 3 w' base 70 v1 (l ++ [p]) ∧ w.grownBy w' (ob A) := by
  have HO := Lib.hid hO
  have HV := Lib.hid (RowAt.at_block3 hv)
  have HL := Lib.hid hlen
  obtain ⟨A', c', e', hle, _⟩ := hO.form
  have hlm : l.length ≤ 9223372036854775807 := by omega
  cases e'
  clear hO hv hlen
  have b1 : ((l.length : Int) == (l.length : Int)) = true := by simp
  go_enter Try.func89, Try.ntmps89
  go_wp2_with (at_builtin; refine Own.append Rp.cells_len Rp.cells_one rfl _ _ 68 70 _ 24 rfl Try.underlying68 info70 rfl (by decide) (by decide) (.slice A l.length c) l rfl HO.out ⟨vb, 0, none⟩ [p] 1 rfl HV.out hbase HL.out ?_; intro v1 w1 hown hg hat)
  all_goals
    go_ret
    rw [ob_eq] at hg
    exact ⟨_, rfl, hown, hg⟩
set_option maxHeartbeats 1600000 in
theorem rinsert_shift (g c : Nat) (l : List Rp) (i : Nat) (p : Rp) (vb : Nat) (w : World) (base : Nat) (hO : Own Rp.cells 3 w base 70 (.slice (some ⟨g, 0, none⟩) l.length c) l) (hi : i < l.length) (hroom : l.length + 1 ≤ c)
    (hv : w.heap[vb]? = some (.cells #[.int .i64 p.node, .int .i64 p.parent, .int .i64 p.num] 70 (0, 0))) (hne : vb ≠ g) :
    Calls Try.prog 89 #[.slice (some ⟨g, 0, none⟩) l.length c, .int .i64 i, .slice (some ⟨vb, 0, none⟩) 1 1] w fun e w' => ∃ v1, e = .returned v1 ∧ Own Rp.cells 3 w' base 70 v1 (l.take i ++ p :: l.drop i) ∧ w.grownBy w' (some g) := by
  have HO := Lib.hid hO
  obtain ⟨A', c', e', hle, hcm⟩ := hO.form
  cases e'
  unfold maxLen at hcm
  have HV := Lib.hid hv
  have b1 : ((i : Int) == (l.length : Int)) = false := by simp; omega
  obtain ⟨hOl, hcase⟩ := hO
  rcases hcase with ⟨h0, _⟩ | ⟨g', cap, cur, he, hb, hg, hn, hcap, hcs, htake⟩
  · cases h0
  cases he
  have hFlen := rF_len l
  have HCL := Lib.hid (show cur.toList.length = c * 3 by rw [Array.length_toList]; exact hcs)
  have hsh : ∀ j, (w.drew.setRow g ((splice cur.toList ((i + 1) * 3) ((l.flatMap Rp.cells).drop (i * 3))).toArray)).heap[j]? = if j = g then some (.cells (splice cur.toList ((i + 1) * 3) ((l.flatMap Rp.cells).drop (i * 3))).toArray 70 (0, 0)) else w.heap[j]? := fun j => by
    by_cases hj : j = g
    · subst hj; rw [if_pos rfl]; exact setRow_heap w.drew j cur _ 70 (0, 0) hg
    · rw [if_neg hj]; exact setRow_other w.drew g j _ hj
  have hov : ∀ (W : World) lb cb, W.heap = w.heap → (callFunc 110 #[.slice (some ⟨vb, 0, none⟩) 1 1, .slice (some ⟨g, (i + 1) * 3, none⟩) lb cb]).run Try.prog W = .ok (.value (.bool false)) W := fun W lb cb hW => by
    have hvW : W.heap[vb]? = some (.cells #[.int .i64 p.node, .int .i64 p.parent, .int .i64 p.num] 70 (0, 0)) := by rw [hW]; exact hv
    have hgW : W.heap[g]? = some (.cells cur 70 (0, 0)) := by rw [hW]; exact hg
    rw [run_callFunc_extern Try.func110 (by kernel_rfl) (by kernel_rfl) (by kernel_rfl) (e := Extern.SlicesOverlaps.overlaps #[68, 68] #[4]) (by kernel_rfl),
      Lib.run_overlaps_apart W 68 4 70 Try.underlying68 3 (fun w => by kernel_rfl) ⟨vb, 0, none⟩ ⟨g, (i + 1) * 3, none⟩ 1 1 lb cb hne 70 70 3 cur.size (by simp [World.shape?, hvW]) (by simp [World.shape?, hgW]) (by rw [hcs]; omega) (by simp [World.frozen?, hvW]) (by simp [World.frozen?, hvW])]
    rfl
  have hw1 : IntKind.i64.wrap ((i : Int) + 1) = (i : Int) + 1 := by rw [IntKind.wrap_i64]; omega
  have HG := Lib.hid hg
  have HCS := Lib.hid hcs
  have HT := Lib.hid htake
  have HF := Lib.hid hFlen
  have HSH := Lib.hid hsh
  clear hv hg hcs htake hFlen hsh hOl hcap
  go_enter Try.func89, Try.ntmps89
  set_option maxRecDepth 100000 in
  go_wp2_with fail
  have hb1 : (0 : Int) ≤ (i : Int) + 1 := by omega
  have htn : ((i : Int) + 1).toNat = i + 1 := by omega
  have hin : i ≤ l.length := by omega
  have hb2 : ¬ (c = i + 1) := by omega
  have hb3 : (i : Int) ≤ (l.length : Int) + 1 := by omega
  have hb4 : ¬ (c = i) := by omega
  have hcp1 : ∀ ty dc sc, (Builtin.copy_ #[68, 68] ty #[.slice (some ⟨g, (i + 1) * 3, none⟩) (l.length - i) dc, .slice (some ⟨g, i * 3, none⟩) (l.length + 1 - i) sc]).run Try.prog w.drew = .ok (goInt (l.length - i : Nat)) (w.drew.setRow g ((splice cur.toList ((i + 1) * 3) ((l.flatMap Rp.cells).drop (i * 3))).toArray)) := fun ty dc sc =>
    run_copy_k w.drew 68 68 ty 70 3 g ((i + 1) * 3) (l.length - i) dc ⟨g, i * 3, none⟩ (l.length + 1 - i) sc cur 70 _ (l.length - i) Try.underlying68 (by rw [show (Try.prog.info? 70).map (·.size) = ((Try.prog.info? 70).map (fun i => (i.zero, i.size, i.bytes))).map (fun x => x.2.1) from by rw [Option.map_map]; rfl, info70]; rfl) HG.out (by simp only [Nat.min_def]; split <;> omega) (by rw [List.length_drop, HF.out, Nat.sub_mul])
      (fun j v hj => by
        have hj2 : (l.flatMap Rp.cells)[i * 3 + j]? = some v := by rwa [List.getElem?_drop] at hj
        have hadd : (⟨g, i * 3, none⟩ : Addr).add j = ⟨g, i * 3 + j, none⟩ := by unfold Addr.add; split <;> simp_all
        rw [hadd]
        show w.cell? ⟨g, i * 3 + j, none⟩ = some v
        have hlt : i * 3 + j < l.length * 3 := by rw [← HF.out]; exact (List.getElem?_eq_some_iff.1 hj2).1
        simp only [World.cell?, HG.out]
        rw [← HT.out, List.getElem?_take, if_pos hlt] at hj2
        simpa using hj2)
      (by rw [List.length_drop, HF.out, HCS.out]; omega) (fun v hv => by
        obtain ⟨y, _, hy⟩ := List.mem_flatMap.1 (List.mem_of_mem_drop hv)
        exact Rp.cells_one y v hy)
  obtain ⟨W1, hW1⟩ : ∃ W1, W1 = w.drew.setRow g ((splice cur.toList ((i + 1) * 3) ((l.flatMap Rp.cells).drop (i * 3))).toArray) := ⟨_, rfl⟩
  have hg1 : W1.heap[g]? = some (.cells (splice cur.toList ((i + 1) * 3) ((l.flatMap Rp.cells).drop (i * 3))).toArray 70 (0, 0)) := by rw [hW1, HSH.out, if_pos rfl]
  have hv1 : W1.heap[vb]? = some (.cells #[.int .i64 p.node, .int .i64 p.parent, .int .i64 p.num] 70 (0, 0)) := by rw [hW1, HSH.out, if_neg hne]; exact HV.out
  have hlen1 : (splice cur.toList ((i + 1) * 3) ((l.flatMap Rp.cells).drop (i * 3))).length = c * 3 := by
    rw [length_splice _ _ _ (by rw [List.length_drop, HF.out, HCL.out]; omega), HCL.out]
  have hcp2 : ∀ ty dc, (Builtin.copy_ #[68, 68] ty #[.slice (some ⟨g, i * 3, none⟩) (l.length + 1 - i) dc, .slice (some ⟨vb, 0, none⟩) 1 1]).run Try.prog W1 = .ok (goInt (1 : Nat)) (W1.setRow g (splice (splice cur.toList ((i + 1) * 3) ((l.flatMap Rp.cells).drop (i * 3))) (i * 3) p.cells).toArray) := fun ty dc => by
    have h := run_copy_k (P := Try.prog) W1 68 68 ty 70 3 g (i * 3) (l.length + 1 - i) dc ⟨vb, 0, none⟩ 1 1 _ 70 p.cells 1 Try.underlying68 (by rw [show (Try.prog.info? 70).map (·.size) = ((Try.prog.info? 70).map (fun i => (i.zero, i.size, i.bytes))).map (fun x => x.2.1) from by rw [Option.map_map]; rfl, info70]; rfl) hg1 (by simp only [Nat.min_def]; split <;> omega) rfl
      (fun j v hj => by
        have hr := (RowAt.at_block3 hv1).2 (by simp)
        obtain ⟨ad, e, hc⟩ := hr
        cases e
        have := hc 0 p rfl j v hj
        rwa [Nat.zero_mul, Nat.zero_add] at this)
      (by simp only [List.size_toArray, hlen1, Rp.cells_len]; omega) (Rp.cells_one p)
    simpa using h
  rw [← hW1] at hcp1
  have HW1 := Lib.hid hW1
  clear hW1
  go_region_law (refine step_copy_is rfl _ _ 68 68 rfl _ _ (by simp [Act.eval, Act.put]) (by simp [Act.eval, Act.put]) (hcp1 _ _ _) ?_)
  have HG1 := Lib.hid hg1
  have HL1 := Lib.hid hlen1
  clear hg1 hv1 hlen1
  set_option maxRecDepth 100000 in
  go_wp2_with (refine wpList_copy_is _ rfl _ _ 68 68 rfl _ _ rfl rfl (hcp2 _ _) ?_)
  go_ret
  refine ⟨.slice (some ⟨g, 0, none⟩) (l.length + 1) c, rfl, ?_, ?_⟩
  · refine ⟨by rw [rF_len], .inr ⟨g, c, _, by rw [List.length_append, List.length_cons, List.length_take, List.length_drop, show min i l.length + (l.length - i + 1) = l.length + 1 from by omega], hb, setRow_heap _ g _ _ 70 (0, 0) HG1.out, by rw [List.length_append, List.length_cons, List.length_take, List.length_drop]; omega, by unfold maxLen; omega, by rw [List.size_toArray, length_splice _ _ _ (by rw [HL1.out, Rp.cells_len]; omega), HL1.out], ?_⟩⟩
    rw [List.length_append, List.length_cons, List.length_take, List.length_drop, show min i l.length + (l.length - i + 1) = l.length + 1 from by omega, List.toList_toArray, List.flatMap_append, List.flatMap_cons, rF_take, rF_drop]
    exact rlet_in cur.toList l.length i _ p.cells HT.out HF.out (by omega) rfl (by rw [HCL.out]; omega)
  · have g1 : w.grownBy W1 (some g) := by
      rw [HW1.out]
      exact (show w.grownBy w.drew (some g) from ⟨rfl, rfl, rfl, Nat.le_refl _, fun _ _ _ => rfl⟩).trans (setRow_grown _ _ _)
    exact g1.trans (setRow_grown _ _ _)

theorem size70 : (Try.prog.info? 70).map (·.size) = some 3 := by
  rw [show (Try.prog.info? 70).map (·.size) = ((Try.prog.info? 70).map (fun i => (i.zero, i.size, i.bytes))).map (fun x => x.2.1) from by rw [Option.map_map]; rfl, info70]; rfl
/-- The cells of a new row: what stood ahead of place i, the element, what stood from i on. -/
theorem rlet_in_new (L : List Value) (n i : Nat) (F : List Value) (q : List Value) (hL : L.take (i * 3) = F.take (i * 3)) (hF : F.length = n * 3) (hi : i ≤ n) (hq : q.length = 3) (hfit : (n + 1) * 3 ≤ L.length) :
    (splice (splice L (i * 3) q) ((i + 1) * 3) (F.drop (i * 3))).take ((n + 1) * 3) = F.take (i * 3) ++ (q ++ F.drop (i * 3)) := by
  have h1 : (F.drop (i * 3)).length = n * 3 - i * 3 := by rw [List.length_drop, hF]
  have h2 : (splice L (i * 3) q).length = L.length := length_splice _ _ _ (by rw [hq]; omega)
  apply List.ext_getElem?
  intro j
  rw [List.getElem?_take]
  by_cases hj : j < (n + 1) * 3
  · rw [if_pos hj, splice_get _ _ _ (by rw [h2, h1]; omega), splice_get _ _ _ (by rw [hq]; omega), h1, hq]
    by_cases c1 : j < i * 3
    · rw [if_pos (by omega), if_pos c1, List.getElem?_append_left (by rw [List.length_take, hF]; omega), ← hL, List.getElem?_take, if_pos c1]
    · rw [List.getElem?_append_right (by rw [List.length_take, hF]; omega), List.length_take, hF, show min (i * 3) (n * 3) = i * 3 from by omega]
      by_cases c2 : j < i * 3 + 3
      · rw [if_pos (by omega), if_neg c1, if_pos c2, List.getElem?_append_left (by omega)]
      · rw [if_neg (by omega), if_pos (by omega), List.getElem?_append_right (by omega), hq]
        congr 1; omega
  · rw [if_neg hj]
    symm
    apply List.getElem?_eq_none
    rw [List.length_append, List.length_append, List.length_take, h1, hF, hq]; omega

set_option maxHeartbeats 1600000 in
theorem rinsert_grow (g c : Nat) (l : List Rp) (i : Nat) (p : Rp) (vb : Nat) (w : World) (base : Nat) (hO : Own Rp.cells 3 w base 70 (.slice (some ⟨g, 0, none⟩) l.length c) l) (hi : i < l.length) (hroom : c < l.length + 1)
    (hv : w.heap[vb]? = some (.cells #[.int .i64 p.node, .int .i64 p.parent, .int .i64 p.num] 70 (0, 0))) (hbase : base ≤ w.heap.size) (hlen : (l.length + 1) * 24 ≤ 140737488355328) :
    Calls Try.prog 89 #[.slice (some ⟨g, 0, none⟩) l.length c, .int .i64 i, .slice (some ⟨vb, 0, none⟩) 1 1] w fun e w' => ∃ v1, e = .returned v1 ∧ Own Rp.cells 3 w' base 70 v1 (l.take i ++ p :: l.drop i) ∧ w.grownBy w' (some g) := by
  have HO := Lib.hid hO
  obtain ⟨A', c', e', hle, hcm⟩ := hO.form
  cases e'
  unfold maxLen at hcm
  have HV := Lib.hid hv
  have HL := Lib.hid hlen
  have b1 : ((i : Int) == (l.length : Int)) = false := by simp; omega
  obtain rfl : c = l.length := by omega
  obtain ⟨hOl, hcase⟩ := hO
  rcases hcase with ⟨h0, _⟩ | ⟨g', cap, cur, he, hb, hg, hn, hcap, hcs, htake⟩
  · cases h0
  cases he
  have hFlen := rF_len l
  have hvlt : vb < w.heap.size := (Array.getElem?_eq_some_iff.1 hv).1
  have hglt : g < w.heap.size := (Array.getElem?_eq_some_iff.1 hg).1
  have hcells : ∀ (W : World), W.heap[g]? = w.heap[g]? → ∀ j v, (l.flatMap Rp.cells)[j]? = some v → W.cell? ⟨g, j, none⟩ = some v := fun W hW j v hj => by
    have hlt : j < l.length * 3 := by rw [← hFlen]; exact (List.getElem?_eq_some_iff.1 hj).1
    simp only [World.cell?, hW, hg]
    rw [← htake, List.getElem?_take, if_pos hlt] at hj
    simpa using hj
  have hadd : ∀ a j : Nat, (⟨g, a, none⟩ : Addr).add j = ⟨g, a + j, none⟩ := fun a j => by unfold Addr.add; split <;> simp_all
  obtain ⟨i0, hi0, hzz⟩ := Option.map_eq_some_iff.1 info70
  simp only [Prod.mk.injEq] at hzz
  obtain ⟨hz0, hz1, hz2⟩ := hzz
  have h1F : ∀ v ∈ l.flatMap Rp.cells, v.oneCell' = true := fun v hv => by
    obtain ⟨y, _, hy⟩ := List.mem_flatMap.1 hv
    exact Rp.cells_one y v hy
  have hFt : ((l.flatMap Rp.cells).take (i * 3)).length = i * 3 := by rw [List.length_take, hFlen]; omega
  obtain ⟨m, hm⟩ : ∃ m, m = l.length + 1 - i := ⟨_, rfl⟩
  obtain ⟨cp, hcp⟩ : ∃ cp, cp = grownCap w (l.length + 1) l.length 70 := ⟨_, rfl⟩
  have hcpge : l.length + 1 ≤ cp := by rw [hcp]; exact grownCap_ge _ _ _ _
  have hcpm : cp ≤ 9223372036854775807 := by have := grownCap_le_maxLen w (l.length + 1) l.length 70 (by unfold maxLen; omega); unfold maxLen at this; omega
  obtain ⟨L2, hL2⟩ : ∃ L2, L2 = ((l.flatMap Rp.cells).take (i * 3)).toArray ++ Builtin.zeroCells (Value.agg #[.int .i64 0, .int .i64 0, .int .i64 0]).cells m ++ Builtin.zeroCells (Value.agg #[.int .i64 0, .int .i64 0, .int .i64 0]).cells (cp - (l.length + 1)) := ⟨_, rfl⟩
  have hL2s : L2.size = cp * 3 := by
    rw [hL2, Array.size_append, Array.size_append, zeroCells_size, zeroCells_size, List.size_toArray, hFt]
    show i * 3 + m * 3 + (cp - (l.length + 1)) * 3 = cp * 3
    omega
  have hL2t : L2.toList.take (i * 3) = (l.flatMap Rp.cells).take (i * 3) := by
    rw [hL2, Array.toList_append, Array.toList_append, List.append_assoc, List.toList_toArray, List.take_append_of_le_length (by omega), List.take_of_length_le (l := (l.flatMap Rp.cells).take (i * 3)) (by omega)]
  have hrun : ∀ ty, (Builtin.append_ #[68, 3] ty #[.slice (some ⟨g, 0, none⟩) i l.length, .int .i64 m]).run Try.prog w = .ok (.slice (some ⟨w.heap.size, 0, none⟩) (l.length + 1) cp) (w.drew.alloc (.cells L2 70)) := fun ty => by
    have h := Lib.run_append_grow_zeros (P := Try.prog) w 68 3 ty 70 i0 _ .i64 .i64 Try.underlying68 Try.underlying3 hi0 hz0 (some ⟨g, 0, none⟩) i l.length ((l.flatMap Rp.cells).take (i * 3)) (by
      rw [hz1]
      refine run_firstCells_some w.drew 3 i _ _ _ _ (by rw [hFt]) (fun j v hj => ?_)
      rw [hadd, Nat.zero_add]
      rw [List.getElem?_take] at hj
      by_cases hji : j < i * 3
      · rw [if_pos hji] at hj
        exact hcells w.drew rfl j v hj
      · rw [if_neg hji] at hj; cases hj) m (by omega) (by rw [hz1]; omega) (by omega) (by omega) (by rw [hz2]; omega) (by rw [hz2, show i + m = l.length + 1 from by omega]; exact growslice_fits (by omega) hlen)
    rw [show i + m = l.length + 1 from by omega, ← hcp, ← hL2] at h
    exact h
  have hne : g ≠ w.heap.size := by omega
  obtain ⟨W2, hW2⟩ : ∃ W2 : World, W2 = w.drew.alloc (.cells L2 70) := ⟨_, rfl⟩
  have hg2 : W2.heap[w.heap.size]? = some (.cells L2 70 (0, 0)) := by rw [hW2]; exact heap_alloc_new w.drew _
  have hg2o : ∀ k, k < w.heap.size → W2.heap[k]? = w.heap[k]? := fun k hk => by rw [hW2]; exact Below.heap_alloc w.drew _ k hk
  have hcp1 : ∀ ty dc, (Builtin.copy_ #[68, 68] ty #[.slice (some ⟨w.heap.size, i * 3, none⟩) (l.length + 1 - i) dc, .slice (some ⟨vb, 0, none⟩) 1 1]).run Try.prog W2 = .ok (goInt (1 : Nat)) (W2.setRow w.heap.size (splice L2.toList (i * 3) p.cells).toArray) := fun ty dc =>
    run_copy_k W2 68 68 ty 70 3 w.heap.size (i * 3) (l.length + 1 - i) dc ⟨vb, 0, none⟩ 1 1 L2 70 p.cells 1 Try.underlying68 size70 hg2 (by simp only [Nat.min_def]; split <;> omega) rfl
      (fun j v hj => by
        obtain ⟨ad, e, hc⟩ := (RowAt.at_block3 (w := W2) (b := vb) ((hg2o vb hvlt).trans hv)).2 (by simp)
        cases e
        have := hc 0 p rfl j v hj
        rwa [Nat.zero_mul, Nat.zero_add] at this)
      (by rw [hL2s, Rp.cells_len]; omega) (Rp.cells_one p)
  obtain ⟨W3, hW3⟩ : ∃ W3 : World, W3 = W2.setRow w.heap.size (splice L2.toList (i * 3) p.cells).toArray := ⟨_, rfl⟩
  have hg3 : W3.heap[w.heap.size]? = some (.cells (splice L2.toList (i * 3) p.cells).toArray 70 (0, 0)) := by rw [hW3]; exact setRow_heap W2 _ _ _ 70 (0, 0) hg2
  have hg3o : W3.heap[g]? = w.heap[g]? := by rw [hW3, setRow_other W2 _ g _ hne]; exact hg2o g hglt
  have hl3 : (splice L2.toList (i * 3) p.cells).length = cp * 3 := by
    rw [length_splice _ _ _ (by rw [Rp.cells_len, Array.length_toList, hL2s]; omega), Array.length_toList, hL2s]
  have hcp2 : ∀ ty dc sc, (Builtin.copy_ #[68, 68] ty #[.slice (some ⟨w.heap.size, (i + 1) * 3, none⟩) (l.length - i) dc, .slice (some ⟨g, i * 3, none⟩) (l.length - i) sc]).run Try.prog W3.drew = .ok (goInt (l.length - i : Nat)) (W3.drew.setRow w.heap.size (splice (splice L2.toList (i * 3) p.cells) ((i + 1) * 3) ((l.flatMap Rp.cells).drop (i * 3))).toArray) := fun ty dc sc => by
    have h := run_copy_k (P := Try.prog) W3.drew 68 68 ty 70 3 w.heap.size ((i + 1) * 3) (l.length - i) dc ⟨g, i * 3, none⟩ (l.length - i) sc _ 70 ((l.flatMap Rp.cells).drop (i * 3)) (l.length - i) Try.underlying68 size70 hg3 (by simp) (by rw [List.length_drop, hFlen, Nat.sub_mul])
      (fun j v hj => by
        rw [hadd]
        exact hcells W3.drew hg3o _ v (by rwa [List.getElem?_drop] at hj))
      (by rw [List.length_drop, hFlen, List.size_toArray, hl3]; omega) (fun v hv => h1F v (List.mem_of_mem_drop hv))
    simpa using h
  have hgr : w.grownBy W3 (some g) := by
    rw [hW3, hW2]
    have g1 : w.grownBy (w.drew.alloc (.cells L2 70)) (some g) := (show w.grownBy w.drew (some g) from ⟨rfl, rfl, rfl, Nat.le_refl _, fun _ _ _ => rfl⟩).trans (World.grownBy_alloc _ _ _)
    exact ⟨g1.os, g1.tape, g1.output, by simp [World.setRow], fun k hk hne => (setRow_other _ _ k _ (by omega)).trans (g1.block k hk hne)⟩
  rw [← hW2] at hrun
  rw [← hW3] at hcp1
  have HG3 := Lib.hid hg3
  have HL3 := Lib.hid hl3
  have HL2T := Lib.hid hL2t
  have HFL := Lib.hid hFlen
  have HM := Lib.hid hm
  have hmz : (l.length : Int) + 1 - i = m := by omega
  have hb1 : (0 : Int) ≤ (i : Int) + 1 := by omega
  have htn : ((i : Int) + 1).toNat = i + 1 := by omega
  have hin : i ≤ l.length := by omega
  have hw1 : IntKind.i64.wrap ((i : Int) + 1) = (i : Int) + 1 := by rw [IntKind.wrap_i64]; omega
  have hb2 : ¬ (cp = i + 1) := by omega
  have hb4 : ¬ (cp = i) := by omega
  have hb5 : ¬ (l.length = i) := by omega
  clear hv hlen hg hcs htake hFlen hFt hcells hOl hW2 hW3 hg2 hg3 hL2 hL2s hL2t hl3 hg3o hg2o hcp hm hi0 hz0 hz1 hz2
  go_enter Try.func89, Try.ntmps89
  set_option maxRecDepth 100000 in
  go_wp2_with (first | (at_builtin; refine Lib.wpList_append_run _ rfl _ _ 68 3 rfl _ _ rfl rfl _ _ (hrun _) ?_) | (refine wpList_copy_is _ rfl _ _ 68 68 rfl _ _ rfl rfl (hcp1 _ _) ?_))
  go_frame
  obtain ⟨W4, hW4⟩ : ∃ W4 : World, W4 = W3.drew.setRow w.heap.size (splice (splice L2.toList (i * 3) p.cells) ((i + 1) * 3) ((l.flatMap Rp.cells).drop (i * 3))).toArray := ⟨_, rfl⟩
  rw [← hW4] at hcp2
  have HW4 := Lib.hid hW4
  clear hW4
  go_region_law (refine step_copy_is rfl _ _ 68 68 rfl _ _ (by simp [Act.eval, Act.put]) (by simp [Act.eval, Act.put]) (hcp2 _ _ _) ?_)
  set_option maxRecDepth 100000 in
  go_wp2
  go_ret
  refine ⟨.slice (some ⟨w.heap.size, 0, none⟩) (l.length + 1) cp, rfl, ?_, ?_⟩
  · have hll : (l.take i ++ p :: l.drop i).length = l.length + 1 := by rw [List.length_append, List.length_cons, List.length_take, List.length_drop]; omega
    refine ⟨by rw [rF_len], .inr ⟨w.heap.size, cp, _, by rw [hll], hbase, by rw [HW4.out]; exact setRow_heap _ _ _ _ 70 (0, 0) (show W3.drew.heap[w.heap.size]? = _ from HG3.out), by rw [hll]; omega, by unfold maxLen; omega, by rw [List.size_toArray, length_splice _ _ _ (by rw [HL3.out, List.length_drop, HFL.out]; omega), HL3.out], ?_⟩⟩
    rw [hll, List.toList_toArray, List.flatMap_append, List.flatMap_cons, rF_take, rF_drop]
    refine rlet_in_new L2.toList l.length i _ p.cells HL2T.out HFL.out (by omega) rfl ?_
    have h3 := HL3.out
    by_cases hcase : i * 3 + 3 ≤ L2.toList.length
    · rw [length_splice _ _ _ (by rw [Rp.cells_len]; omega)] at h3; omega
    · exfalso
      simp only [splice, List.length_append, List.length_take, List.length_drop, Rp.cells_len] at h3
      omega
  · rw [HW4.out]
    have g2 : w.grownBy W3.drew (some g) := hgr.trans (show W3.grownBy W3.drew (some g) from ⟨rfl, rfl, rfl, Nat.le_refl _, fun _ _ _ => rfl⟩)
    exact ⟨g2.os, g2.tape, g2.output, by simpa [World.setRow] using g2.size, fun k hk hne => (setRow_other _ _ k _ (by omega)).trans (g2.block k hk hne)⟩
/-- slices.Insert of one report at any place. -/
theorem rinsert_any (A : Option Addr) (c : Nat) (l : List Rp) (i : Nat) (p : Rp) (vb : Nat) (w : World) (base : Nat) (hO : Own Rp.cells 3 w base 70 (.slice A l.length c) l) (hi : i ≤ l.length)
    (hv : w.heap[vb]? = some (.cells #[.int .i64 p.node, .int .i64 p.parent, .int .i64 p.num] 70 (0, 0))) (hne : ob A ≠ some vb) (hbase : base ≤ w.heap.size) (hlen : (l.length + 1) * 24 ≤ 140737488355328) :
    Calls Try.prog 89 #[.slice A l.length c, .int .i64 i, .slice (some ⟨vb, 0, none⟩) 1 1] w fun e w' => ∃ v1, e = .returned v1 ∧ Own Rp.cells 3 w' base 70 v1 (l.take i ++ p :: l.drop i) ∧ w.grownBy w' (ob A) := by
  by_cases h : i = l.length
  · subst h
    rw [List.take_of_length_le (Nat.le_refl _), List.drop_of_length_le (Nat.le_refl _)]
    exact rinsert_end A c l p vb w base hO hv hbase hlen
  · obtain ⟨g, cap, he, _, _⟩ := World.ownsRow.form hO (by omega)
    injection he with e1 e2 e3
    subst e1
    have hne' : vb ≠ g := fun e => hne (by rw [e]; rfl)
    by_cases hc : l.length + 1 ≤ c
    · exact rinsert_shift g c l i p vb w base hO (by omega) hc hv hne'
    · exact rinsert_grow g c l i p vb w base hO (by omega) (by omega) hv hbase hlen
end Go.Proofs.Ytckanomabhbkaaa
