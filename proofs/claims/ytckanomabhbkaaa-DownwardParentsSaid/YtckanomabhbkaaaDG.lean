/- Is a number no node's: over a slice of numbers, walked. -/
import Derived.Test.YtckanomabhbkaaaDA
import Derived.Test.YtckanomabhbkaaaDK
namespace Go.Proofs.Ytckanomabhbkaaa
open Go.RowKit Go.Shelf
set_option linter.unusedVariables false
theorem notnode_any (x : Int) (W : World) : Calls Try.prog 93 #[.int .i64 x] W fun e w' => e = .returned (.bool (!nodeB x)) ∧ W = w' := by
  have HC := Lib.hid (node_any x W)
  go_enter Try.func93, Try.ntmps93
  go_wp2_with fail
  refine HC.out.mono ?_
  rintro e w1 ⟨rfl, rfl⟩
  obtain ⟨b, hb⟩ : ∃ b, nodeB x = b := ⟨_, rfl⟩
  rw [hb]
  have HBB := Lib.hid hb
  clear hb
  cases b <;> (go_wp2; go_ret; exact ⟨ret_bool (by rw [HBB.out]; rfl), rfl⟩)
/-- Is one of the numbers no node's? -/
def outB (l : List Int) : Bool := l.any (fun x => !nodeB x)
def oix (l : List Int) : Int := match l.findIdx? (fun x => !nodeB x) with | some n => (n : Int) | none => -1
theorem getD_elem {l : List Int} {n : Nat} (hn : n < l.length) : l.getD n 0 = l[n] := by rw [List.getD_eq_getElem?_getD, List.getElem?_eq_getElem hn]; rfl
theorem oix_hit {l : List Int} {i : Nat} (h : i < l.length) (h1 : nodeB (l.getD i 0) = false) (hn : ∀ j : Nat, j < i → nodeB (l.getD j 0) = true) : oix l = i := by
  unfold oix
  have hk : l.findIdx? (fun x => !nodeB x) = some i := by
    rw [List.findIdx?_eq_some_iff_getElem]
    refine ⟨h, by rw [← getD_elem h, h1]; rfl, fun j hj => ?_⟩
    have := hn j hj
    rw [getD_elem (by omega)] at this
    simp [this]
  rw [hk]
theorem oix_miss {l : List Int} (hn : ∀ j : Nat, j < l.length → nodeB (l.getD j 0) = true) : oix l = -1 := by
  unfold oix
  have hk : l.findIdx? (fun x => !nodeB x) = none := by
    rw [List.findIdx?_eq_none_iff]
    intro x hx
    obtain ⟨j, hj, rfl⟩ := List.getElem_of_mem hx
    have := hn j hj
    rw [getD_elem hj] at this
    simp [this]
  rw [hk]
theorem oix_out (l : List Int) : decide (0 ≤ oix l) = outB l := by
  unfold oix outB
  cases hk : l.findIdx? (fun x => !nodeB x) with
  | none =>
    rw [List.findIdx?_eq_none_iff] at hk
    have : l.any (fun x => !nodeB x) = false := by rw [List.any_eq_false]; intro x hx; rw [hk x hx]; simp
    rw [this]; rfl
  | some n =>
    rw [List.findIdx?_eq_some_iff_getElem] at hk
    obtain ⟨hl, hp, _⟩ := hk
    have : l.any (fun x => !nodeB x) = true := by rw [List.any_eq_true]; exact ⟨_, List.getElem_mem hl, hp⟩
    rw [this]
    simp
set_option maxHeartbeats 1600000 in
theorem outIdx_any (A : Option Addr) (c : Nat) (l : List Int) (w : World) (hr : RowAt intc 1 w A l) :
    Calls Try.prog 112 #[.slice A l.length c, .func (.func 93) #[] #[]] w fun e w' => e = .returned (.int .i64 (oix l)) ∧ w = w' := by
  have HR := Lib.hid hr
  have hb := hr.1
  have eg := enters_of Try.func93 (by kernel_rfl) rfl
  clear hr
  go_enter Try.func112, Try.ntmps112
  go_wp2
  go_loop [8] (fun v => ∃ i : Nat, v = .int .i64 i ∧ i ≤ l.length ∧ Hid (∀ j : Nat, j < i → nodeB (l.getD j 0) = true)) (fun v => (l.length - (intOf v)).toNat)
  case atStart => exact ⟨0, rfl, by omega, fun j h => by omega⟩
  case round =>
    obtain ⟨i, rfl, hil, HN⟩ := hrel
    by_cases hlt : i < l.length
    · obtain ⟨ad, rfl, c0⟩ := HR.out.int i hlt
      have hli : decide ((i : Int) < l.length) = true := by simp; omega
      have g1 : (0 : Int) ≤ i := by omega
      have g2 : (i : Int) < l.length := by omega
      obtain ⟨y, hy⟩ : ∃ y, l.getD i 0 = y := ⟨_, rfl⟩
      have HY := Lib.hid hy
      rw [hy] at c0
      clear hy
      have HC := Lib.hid (notnode_any y w)
      cases hb : nodeB y
      · rw [hb] at HC
        have HF := Lib.hid (oix_hit hlt (by rw [HY.out]; exact hb) HN.out)
        clear hb
        go_wp2_with (go_at_call 93; refine HC.out.mono ?_; rintro e w1 ⟨rfl, rfl⟩)
        go_ret
        exact ⟨ret_int HF.out.symm, rfl⟩
      · rw [hb] at HC
        have HN2 := Lib.hid (show ∀ j : Nat, j < i + 1 → nodeB (l.getD j 0) = true from fun j hj => by
          by_cases e : j = i
          · subst e; rw [HY.out]; exact hb
          · exact HN.out j (by omega))
        clear hb
        go_wp2_with (go_at_call 93; refine HC.out.mono ?_; rintro e w1 ⟨rfl, rfl⟩)
        go_round
        case rel => exact ⟨i + 1, by simp, by omega, HN2⟩
        case measure => simp [intOf]; omega
    · have hli : decide ((i : Int) < l.length) = false := by simp; omega
      obtain rfl : i = l.length := by omega
      have HF := Lib.hid (oix_miss HN.out)
      go_wp2
      go_ret
      exact ⟨ret_int HF.out.symm, rfl⟩
theorem containsOut_any (A : Option Addr) (c : Nat) (l : List Int) (w : World) (hr : RowAt intc 1 w A l) :
    Calls Try.prog 92 #[.slice A l.length c, .func (.func 93) #[] #[]] w fun e w' => e = .returned (.bool (outB l)) ∧ w = w' := by
  have HC := Lib.hid (outIdx_any A c l w hr)
  have HO := Lib.hid (oix_out l)
  clear hr
  go_enter Try.func92, Try.ntmps92
  go_wp2_with fail
  refine HC.out.mono ?_
  rintro e w1 ⟨rfl, rfl⟩
  go_wp2
  go_ret
  exact ⟨ret_bool HO.out, rfl⟩
end Go.Proofs.Ytckanomabhbkaaa
