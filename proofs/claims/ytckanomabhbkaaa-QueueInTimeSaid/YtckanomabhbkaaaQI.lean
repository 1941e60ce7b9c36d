/- slices.IndexFunc over packets, and its callers. -/
import Derived.Test.YtckanomabhbkaaaQA2
import Derived.Shelf.Abstract
import Derived.IntWalk
namespace Go.Proofs.Ytckanomabhbkaaa
open Go.RowKit Go.Shelf
set_option linter.unusedVariables false

/-- What is asked of a predicate: at every packet, in every world that has come of w by growth, it answers p and leaves such a world. -/
def PredB (g : Nat) (lb : Array Value) (p : Pk → Bool) (w : World) : Prop :=
  ∀ (W : World) (x : Pk), Below w.heap.size w W → Calls Try.prog g (#[.agg #[.int .i64 x.id, .int .i64 x.dst, .int .i64 x.pr, .int .i64 x.born, .int .i64 x.life, .string x.data]] ++ lb) W fun e w' => e = .returned (.bool (p x)) ∧ Below w.heap.size w w'

set_option maxHeartbeats 800000 in
theorem indexFunc_any (p : Pk → Bool) (g : Nat) (lb : Array Value) (A : Option Addr) (c : Nat) (l : List Pk) (w : World) (hr : RowAt Pk.cells 6 w A l) (eg : ∀ args w, (callFunc g args).run Try.prog w = .ok (.enter g args) w) (hp : PredB g lb p w) :
    Calls Try.prog 76 #[.slice A l.length c, .func (.func g) #[] lb] w fun e w' => e = .returned (.int .i64 (fidx p l)) ∧ Below w.heap.size w w' := by
  have HR := Lib.hid hr
  have hb := hr.1
  have HP := Lib.hid hp
  clear hr hp
  go_enter Try.func76, Try.ntmps76
  go_wp2
  go_loopw [5, 8] (fun u v wr => ∃ i : Int, v = .int .i64 i ∧ 0 ≤ i ∧ i ≤ l.length ∧ Hid (∀ j : Int, 0 ≤ j → j < i → p (gp l j) = false) ∧ Below w.heap.size w wr) (fun u v _ => (l.length - (intOf v)).toNat)
  case atStart => exact ⟨0, rfl, by omega, by omega, fun j h0 h1 => by omega, Below.refl _ _⟩
  case round =>
    obtain ⟨i, rfl, h0, hle, HN, HB⟩ := hrel
    by_cases hlt : i < l.length
    · obtain ⟨ad, rfl, c0, c1, c2, c3, c4, c5⟩ := (HR.out.below HB).pk i h0 hlt
      have hcall := HP.out wr (gp l i) HB
      obtain ⟨y, hy⟩ : ∃ y, p (gp l i) = y := ⟨_, rfl⟩
      rw [hy] at hcall
      have HY := Lib.hid hy
      clear hy
      cases y
      · go_wp2_with (go_at_fn g; refine hcall.mono ?_; rintro e w' ⟨rfl, hb'⟩)
        go_roundw
        case rel => exact ⟨i + 1, rfl, by omega, by omega, fun j a b => by
          by_cases hj : j = i
          · rw [hj]; exact HY.out
          · exact HN.out j a (by omega), by assumption⟩
        case measure => simp [intOf]; omega
      · go_wp2_with (go_at_fn g; refine hcall.mono ?_; rintro e w' ⟨rfl, hb'⟩)
        go_ret
        exact ⟨ret_int (fidx_hit h0 hlt HY.out HN.out).symm, by assumption⟩
    · go_wp2
      go_ret
      exact ⟨ret_int (fidx_miss fun j a b => HN.out j a (by omega)).symm, HB⟩
end Go.Proofs.Ytckanomabhbkaaa
