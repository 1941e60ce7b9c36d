/- slices.AppendSeq and slices.Collect of numbers, walked. -/
import Derived.Test.YtckanomabhbkaaaRA
import Derived.RangeFuncBox
import Derived.Shelf.Abstract
import Derived.Shelf.RegionOpen
import Derived.WalkKit
import Derived.OwnWalkIn
import Derived.TacticsInMore
import Derived.LoopNIn
import Derived.LoopIn
import Derived.Maps.AppendAt
namespace Go.Proofs.Ytckanomabhbkaaa
open Go.RowKit Go.Shelf
set_option linter.unusedVariables false
attribute [local go_sem] Oper.semAt_some
/-- Between two rounds: what has come lies in a row of the call's own. -/
def ApI (w : World) (pre : List Int) (W : World) : Prop :=
  ∃ A c, W.heap[w.heap.size]? = some (.cells #[.slice A pre.length c] 40 (0, 0)) ∧ Own intc 1 W w.heap.size 3 (.slice A pre.length c) pre ∧ Below w.heap.size w W
theorem ApI.foreign {w A B : World} {pre : List Int} {row : Option Nat} (h : ApI w pre A) (hg : A.grownBy B row) (hr : ∀ r, row = some r → w.heap.size ≤ r ∧ ∃ o, A.heap[r]? = some o ∧ Foreign o) : ApI w pre B := by
  obtain ⟨Ad, c, h1, h2, h3⟩ := h
  refine ⟨Ad, c, (hg.block _ (blk_lt h1) fun e => ?_).trans h1, h2.kept hg ?_, h3.grown hg h3.size (fun k e => (hr k e).1)⟩
  · obtain ⟨_, o, ho, hf⟩ := hr _ e.symm
    rw [h1] at ho
    cases ho
    rcases hf with hf | ⟨cur, hf⟩
    · cases hf
    · cases hf
  · rcases h2.2 with ⟨e, _⟩ | ⟨g, cap, cur, e, hb, hgb, _⟩
    · rw [e]; exact .inl rfl
    · rw [e]
      refine .inr fun e' => ?_
      have e2 : row = some g := by rw [← e']; rfl
      obtain ⟨_, o, ho, hf⟩ := hr _ e2
      rw [hgb] at ho
      cases ho
      rcases hf with hf | ⟨cur, hf⟩
      · cases hf
      · cases hf
theorem ownBlock_cells {α : Type} {enc : α → List Value} {k : Nat} {w : World} {base : Nat} {e : TypeId} {v : Value} {l : List α} (h : Own enc k w base e v l) {j : Nat} (hj : v.ownBlock = some j) : ∃ cur, w.heap[j]? = some (.cells cur e (0, 0)) := by
  rcases h.2 with ⟨rfl, _⟩ | ⟨g, cap, cur, rfl, hb, hgb, _⟩
  · cases hj
  · cases hj
    exact ⟨cur, hgb⟩
set_option maxRecDepth 100000 in
set_option maxHeartbeats 2000000 in
theorem appendSeq_in (n : Nat) (gf : Nat) (lb : Array Value) (eg : ∀ args w, (callFunc gf args).run Try.prog w = .ok (.enter gf args) w) (S : List Int) (w : World) (hseq : SeqV Try.prog gf lb S w.heap.size w) :
    CallsIn Fence.wide n Try.prog 119 #[.slice none 0 0, .func (.func gf) #[] lb] w fun e w' => ∃ A c, e = .returned (.slice A S.length c) ∧ Own intc 1 w' w.heap.size 3 (.slice A S.length c) S ∧ Below w.heap.size w w' := by
  have hro : Fence.wide.round = none := rfl
  refine callsIn_of_wp_marks Try.func119 rfl trivial ?_ hro
  simp only [Try.ntmps119, List.size_toArray, List.length_cons, List.length_nil, Nat.reduceAdd, Nat.reduceSub, Array.replicate_succ, Array.replicate_zero, List.push_toArray, List.append_toArray, List.nil_append, List.cons_append]
  gi_wp2
  have hb0 : Below w.heap.size w (w.alloc (.cells #[.slice none 0 0] 40)) := (Below.refl _ w).alloc (Nat.le_refl _) _
  refine wpIn_range_vis (gf := gf) (lb := lb) (S := S) (m := w.heap.size) rfl eg (by simp) hb0 hseq (ApI w) (fun pre A B row => ApI.foreign) ⟨none, 0, blk_new w _ rfl, Own.nil _ _ _, hb0⟩
    (fun x => { tmps := #[.slice none 0 0, .func (.func gf) #[] lb, .pointer (some ⟨w.heap.size, 0, none⟩), undef, .slice none 0 0, .int .i64 x, .func (.func gf) #[] lb, .int .i64 x, undef, undef, undef, undef, undef], defers := [] }) ?assign ?body ?done
  case assign =>
    intro l x W K hK
    gi_wp2
    exact hK
  case body =>
    rintro l pre x W ⟨Ad, c, hv, hO, hB⟩ hlen
    obtain ⟨i0, hi, hz0, hz1, hz2⟩ := info_parts info3
    have hc := blk_cell hv 0
    have hlt := blk_lt hv
    have hne := hO.ne hv (by decide)
    have hfm := hO.form
    obtain ⟨_, _, hsl, hle, hcm⟩ := hfm
    have hfl : (pre.flatMap intc).length = pre.length := by rw [flat_len intc_len, Nat.mul_one]
    gi_wp2_with (gi_at_builtin; refine wpListIn_append_own _ rfl _ _ 40 rfl w.heap.size 3 i0 (.int .i64 0) 1 8 Try.underlying40 hi hz0 hz1 hz2 rfl (by decide) _ _ _ rfl (World.ownsRow.alloc hO _) ⟨W.heap.size, 0, none⟩ 1 1 [.int .i64 x] rfl rfl (cell_one_new _ _ _) (by simp [Value.oneCell']) (by unfold maxLen; omega) (by omega) (by have := hB.size; simp; omega) ?_; intro v' w3 hown' hg3 hnil3; obtain ⟨g', cap', rfl⟩ := ownsRow_succ hown'; (have HV3 := Lib.hid ((hg3.block w.heap.size (by simp; omega) (fun e => hne e.symm)).trans (blk_old hv _))); (have HOW := Lib.hid hown'); (have HG3 := Lib.hid hg3); clear hown' hg3 hnil3; (have hc3 : w3.cell? ⟨w.heap.size, 0, none⟩ = some (.slice Ad pre.length c) := blk_cell HV3.out 0); (have hf3 : w3.frozen? ⟨w.heap.size, 0, none⟩ = false := blk_free HV3.out 0))
    have ho3 : KeepsOthers W w3 := (KeepsOthers.alloc W _).trans (KeepsOthers.of_grownBy HG3.out (fun j o e ho => by
      obtain ⟨hj, hh⟩ := ownBlock_cells hO e
      rw [blk_old hh (Obj.cells #[Value.int IntKind.i64 x] 3)] at ho
      cases ho; rfl))
    have hb3 : Below w.heap.size w w3 := (hB.alloc hB.size _).grown HG3.out (by have := hB.size; simp; omega) (fun k e => (hO.lt e).1)
    have hbW : Below w.heap.size W w3 := ((Below.refl _ W).alloc hB.size _).grown HG3.out (by have := hB.size; simp; omega) (fun k e => (hO.lt e).1)
    refine ⟨ho3.trans (KeepsOthers.setCell _ _ _), ⟨hbW.setCell (p := ⟨w.heap.size, 0, none⟩) (Nat.le_refl _) _, fun r cur hr => ?_⟩, ?_⟩
    · have hr3 : w3.heap[r]? = some (.cells cur 128 (0, 0)) := by
        refine (HG3.out.block r (by have := blk_lt hr; simp; omega) fun e => ?_).trans (blk_old hr _)
        obtain ⟨hj, hh⟩ := ownBlock_cells hO e.symm
        rw [hr] at hh; cases hh
      have hne2 : r ≠ w.heap.size := by
        rintro rfl
        rw [hv] at hr; cases hr
      exact (Below.heap_setCell _ _ _ _ hne2).trans hr3
    · have hO3 : Own intc 1 w3 w.heap.size 3 (.slice (some ⟨g', 0, none⟩) (pre.length + 1) cap') (pre ++ [x]) := by
        unfold Own
        rw [List.length_append, List.flatMap_append]
        exact HOW.out
      refine ⟨some ⟨g', 0, none⟩, cap', by rw [List.length_append]; exact set1_any HV3.out 0 _, ?_, hb3.setCell (p := ⟨w.heap.size, 0, none⟩) (Nat.le_refl _) _⟩
      rw [List.length_append]
      exact hO3.setCell (hO3.ne HV3.out (by decide)) _
  case done =>
    rintro D W ⟨Ad, c, hv, hO, hB⟩ hK hmD
    have hc : W.cell? ⟨w.heap.size, 0, none⟩ = some (.slice Ad S.length c) := blk_cell hv 0
    have hlt := blk_lt hv
    gi_wp2
    refine ⟨by simp, .inl ⟨_, _, rfl, run_takeDeferred hK, ?_⟩⟩
    refine ⟨_, results_tmp rfl _ _ _, Ad, c, rfl, hO.kept (grownBy_putObj' W D _) ?_, hB.grown (grownBy_putObj' W D _) hB.size (fun k e => by cases e; exact hmD)⟩
    cases hq : (Value.slice Ad S.length c).ownBlock with
    | none => exact .inl rfl
    | some j =>
      refine .inr fun e => ?_
      cases e
      obtain ⟨cur, hh⟩ := ownBlock_cells hO hq
      rw [hK] at hh; cases hh
set_option maxHeartbeats 800000 in
theorem collect_any (gf : Nat) (lb : Array Value) (eg : ∀ args w, (callFunc gf args).run Try.prog w = .ok (.enter gf args) w) (S : List Int) (w : World) (hseq : SeqV Try.prog gf lb S w.heap.size w) :
    Calls Try.prog 113 #[.func (.func gf) #[] lb] w fun e w' => ∃ A c, e = .returned (.slice A S.length c) ∧ Own intc 1 w' w.heap.size 3 (.slice A S.length c) S ∧ Below w.heap.size w w' := by
  have HC := Lib.hid (callsIn_wide.1 (appendSeq_in 0 gf lb eg S w hseq))
  clear hseq
  go_enter Try.func113, Try.ntmps113
  go_wp2_with (go_at_call 119; refine HC.out.mono ?_; rintro e w1 ⟨A, c, rfl, hO, hB⟩; (have HO := Lib.hid hO); (have HB := Lib.hid hB); clear hO hB)
  go_ret
  exact ⟨A, c, rfl, HO.out, HB.out⟩
end Go.Proofs.Ytckanomabhbkaaa
