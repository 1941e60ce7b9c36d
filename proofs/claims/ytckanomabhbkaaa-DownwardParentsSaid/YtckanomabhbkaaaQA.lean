/- The leaf functions of the queue, walked. -/
import Derived.Test.YtckanomabhbkaaaProg
import Derived.Test.YtckanomabhbkaaaQBase
namespace Go.Proofs.Ytckanomabhbkaaa
open Go.RowKit
set_option linter.unusedVariables false

theorem within_any (n lo hi : Int) (w : World) : Calls Try.prog 70 #[.int .i64 n, .int .i64 lo, .int .i64 hi] w fun e w' => e = .returned (.bool (decide (lo ≤ n ∧ n ≤ hi))) ∧ w = w' := by
  by_cases h1 : lo ≤ n
  · have b1 : decide (lo ≤ n) = true := by simpa using h1
    go_enter Try.func70, Try.ntmps70
    go_wp2
    go_ret
    exact ⟨by first | rfl | (apply ret_bool; simp [h1]) | simp [h1], rfl⟩
  · have b1 : decide (lo ≤ n) = false := by simpa using h1
    go_enter Try.func70, Try.ntmps70
    go_wp2
    go_ret
    exact ⟨by first | rfl | (apply ret_bool; simp [h1]), rfl⟩

set_option maxHeartbeats 400000 in
theorem refIndex_any (A : Option Addr) (c : Nat) (l : List Pk) (id : Int) (w : World) (hr : RowAt Pk.cells 6 w A l) :
    Calls Try.prog 73 #[.slice A l.length c, .int .i64 id] w fun e w' => e = .returned (.int .i64 (idx l id)) ∧ Below w.heap.size w w' := by
  have HR := Lib.hid hr
  have hb := hr.1
  clear hr
  go_enter Try.func73, Try.ntmps73
  go_wp2
  go_loopw [5] (fun v wr => ∃ i : Int, v = .int .i64 i ∧ 0 ≤ i ∧ i ≤ l.length ∧ Hid (∀ j : Int, 0 ≤ j → j < i → (gp l j).id ≠ id) ∧ Below w.heap.size w wr) (fun v _ => (l.length - (intOf v)).toNat)
  case atStart => exact ⟨0, rfl, by omega, by omega, fun j h0 h1 => by omega, Below.refl _ _⟩
  case round =>
    obtain ⟨i, rfl, h0, hle, HN, HB⟩ := hrel
    by_cases hlt : i < l.length
    · obtain ⟨ad, rfl, c0, c1, c2, c3, c4, c5⟩ := (HR.out.below HB).pk i h0 hlt
      by_cases he : (gp l i).id = id
      · have e1 : ((gp l i).id == id) = true := beq_iff_eq.mpr he
        have HE := Lib.hid he
        clear he
        go_wp2
        go_ret
        exact ⟨ret_int (idx_hit h0 hlt HE.out HN.out).symm, HB⟩
      · have e1 : ((gp l i).id == id) = false := beq_eq_false_iff_ne.mpr he
        go_wp2
        go_roundw
        case rel => exact ⟨i + 1, rfl, by omega, by omega, fun j a b => by
          by_cases hj : j = i
          · rw [hj]; exact he
          · exact HN.out j a (by omega), HB⟩
        case measure => simp [intOf]; omega
    · go_wp2
      go_ret
      exact ⟨ret_int (idx_miss fun j a b => HN.out j a (by omega)).symm, HB⟩
end Go.Proofs.Ytckanomabhbkaaa
