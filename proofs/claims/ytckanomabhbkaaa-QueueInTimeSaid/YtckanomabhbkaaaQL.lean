/- slices.Clone of packets. -/
import Derived.Test.YtckanomabhbkaaaQI2
import Derived.Test.YtckanomabhbkaaaQOwn
import Derived.WalkSpells
namespace Go.Proofs.Ytckanomabhbkaaa
open Go.RowKit Go.Shelf
set_option linter.unusedVariables false

theorem info30 : (Try.prog.info? 30).map (fun i => (i.zero, i.size, i.bytes)) = some (some (.agg #[(.int .i64 0), (.int .i64 0), (.int .i64 0), (.int .i64 0), (.int .i64 0), (.string ⟨#[]⟩)]), 6, 56) := by kernel_rfl

set_option maxHeartbeats 800000 in
theorem clone_any (A : Option Addr) (c : Nat) (l : List Pk) (w : World) (hr : RowAt Pk.cells 6 w A l) (hl : l.length * 56 ≤ 140737488355328) (hA : A = none → c = 0) :
    Calls Try.prog 75 #[.slice A l.length c] w fun e w' => ∃ v, e = .returned v ∧ Own Pk.cells 6 w' w.heap.size 30 v l ∧ Below w.heap.size w w' := by
  have HR := Lib.hid hr
  have HL := Lib.hid hl
  clear hl
  cases A with
  | none =>
    obtain rfl : l = [] := by
      cases l with
      | nil => rfl
      | cons x l => obtain ⟨ad, e, _⟩ := hr.2 (by simp); cases e
    obtain rfl := hA rfl
    clear hr hA
    have hq := fun (w : World) (n c : Nat) => Lib.run_eql_slice_nil (P := Try.prog) w 22 30 none n c 0 0 Try.underlying22
    go_enter Try.func75, Try.ntmps75
    go_wp2
    go_ret
    exact ⟨_, rfl, Own.nil _ _ _, Below.refl _ _⟩
  | some ad =>
    clear hr hA
    have hq := fun (w : World) (n c : Nat) => Lib.run_eql_slice_nil (P := Try.prog) w 22 30 (some ad) n c 0 0 Try.underlying22
    go_enter Try.func75, Try.ntmps75
    go_wp2_with (at_builtin; refine Own.append Pk.cells_len Pk.cells_one rfl _ _ 22 30 _ 56 rfl Try.underlying22 info30 rfl (by decide) (by decide) _ [] rfl (base := w.heap.size) (Own.made0 w 30) ad l c rfl (HR.out.below ((Below.refl _ _).alloc (Nat.le_refl _) _)) (by simp) (by simpa using HL.out) ?_; intro v1 w1 hown hg hat)
    go_ret
    exact ⟨_, rfl, by simpa using hown, ((Below.refl _ _).alloc (Nat.le_refl _) _).grown hg (by simp) (by intro k e; cases e; exact Nat.le_refl _)⟩
end Go.Proofs.Ytckanomabhbkaaa
