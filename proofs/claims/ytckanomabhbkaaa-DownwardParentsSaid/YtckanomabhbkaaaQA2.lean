/- The leaf functions of the queue, walked: the packet's own form. -/
import Derived.Test.YtckanomabhbkaaaQA
namespace Go.Proofs.Ytckanomabhbkaaa
open Go.RowKit
set_option linter.unusedVariables false

set_option maxHeartbeats 800000 in
theorem form_any (p : Pk) (w : World) : Calls Try.prog 71 #[.agg #[.int .i64 p.id, .int .i64 p.dst, .int .i64 p.pr, .int .i64 p.born, .int .i64 p.life, .string p.data]] w fun e w' => e = .returned (.int .i64 (pform p)) ∧ Below w.heap.size w w' := by
  have hcase : (p.life < 1 ∧ decide (1 ≤ p.life) = false ∧ decide (p.life ≤ 4096) = true) ∨ (4096 < p.life ∧ decide (1 ≤ p.life) = true ∧ decide (p.life ≤ 4096) = false) ∨ ((1 ≤ p.life ∧ p.life ≤ 4096) ∧ decide (1 ≤ p.life) = true ∧ decide (p.life ≤ 4096) = true) := by
    simp only [decide_eq_true_eq, decide_eq_false_iff_not]; omega
  rcases hcase with ⟨h1, hx, hy⟩ | ⟨h1, hx, hy⟩ | ⟨⟨h1, h2⟩, hx, hy⟩
  all_goals
    go_enter Try.func71, Try.ntmps71
    go_wp2_with (go_at_call 70; refine (within_any _ _ _ _).mono ?_; rintro e w' ⟨rfl, rfl⟩)
  all_goals
    go_ret
    exact ⟨ret_int (by unfold pform; split <;> (try split) <;> omega), (Below.refl _ _).alloc (Nat.le_refl _) _⟩
set_option maxHeartbeats 800000 in
theorem refPacket_any (p : Pk) (w : World) : Calls Try.prog 72 #[.agg #[.int .i64 p.id, .int .i64 p.dst, .int .i64 p.pr, .int .i64 p.born, .int .i64 p.life, .string p.data]] w fun e w' => e = .returned (.int .i64 (pform p)) ∧ Below w.heap.size w w' := by
  go_enter Try.func72, Try.ntmps72
  go_wp2
  all_goals
    go_ret
    exact ⟨ret_int (by unfold pform; split <;> (try split) <;> omega), (Below.refl _ _).alloc (Nat.le_refl _) _⟩
end Go.Proofs.Ytckanomabhbkaaa
