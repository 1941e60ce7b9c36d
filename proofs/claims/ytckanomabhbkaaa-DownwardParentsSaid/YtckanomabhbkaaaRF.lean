/- slices.Equal of numbers, walked; the numbers of the chapter's example. -/
import Derived.Test.YtckanomabhbkaaaRE
import Derived.Test.YtckanomabhbkaaaDS
import Derived.Test.YtckanomabhbkaaaDD
import Derived.Test.YtckanomabhbkaaaDF
namespace Go.Proofs.Ytckanomabhbkaaa
open Go.RowKit Go.Shelf
set_option linter.unusedVariables false
def eqI (a b : List Int) : Bool := decide (a = b)
set_option maxHeartbeats 800000 in
theorem equalI_any (A : Option Addr) (N c : Nat) (l : List Int) (A2 : Option Addr) (N2 c2 : Nat) (l2 : List Int) (w : World) (hN : N = l.length) (hN2 : N2 = l2.length) (hr : RowAt intc 1 w A l) (hr2 : RowAt intc 1 w A2 l2) :
    Calls Try.prog 64 #[.slice A N c, .slice A2 N2 c2] w fun e w' => e = .returned (.bool (eqI l l2)) ∧ Below w.heap.size w w' := by
  subst hN hN2
  have HR := Lib.hid hr
  have HR2 := Lib.hid hr2
  have hb := hr.1
  have hb2 := hr2.1
  clear hr hr2
  by_cases hl : l.length = l2.length
  · have b1 : ((l.length : Int) == (l2.length : Int)) = true := by simp [hl]
    have b2 : ((l.length : Int) != (l2.length : Int)) = false := by simp [hl]
    have b3 : (l.length == l2.length) = true := by simp [hl]
    have HL := Lib.hid hl
    clear hl
    go_enter Try.func64, Try.ntmps64
    go_wp2
    go_loopw [13] (fun v wr => ∃ i : Nat, v = .int .i64 i ∧ i ≤ l.length ∧ Hid (∀ j : Nat, j < i → l.getD j 0 = l2.getD j 0) ∧ Hid (Below w.heap.size w wr)) (fun v _ => (l.length - (intOf v)).toNat)
    case atStart => exact ⟨0, rfl, by omega, Lib.hid (fun j h => by omega), Lib.hid (Below.refl _ _)⟩
    case round =>
      obtain ⟨i, rfl, hle, HN, HB⟩ := hrel
      clear b1 b2 b3
      by_cases hlt : i < l.length
      · have hlt2 : i < l2.length := by have := HL.out; omega
        obtain ⟨ad, rfl, c0⟩ := (HR.out.below HB.out).int i hlt
        obtain ⟨ad2, rfl, d0⟩ := (HR2.out.below HB.out).int i hlt2
        have bi : decide ((i : Int) < l.length) = true := by simp; omega
        have g1 : (0 : Int) ≤ i := by omega
        have g2 : (i : Int) < l.length := by omega
        have g3 : (i : Int) < l2.length := by omega
        obtain ⟨x, hx⟩ : ∃ x, l.getD i 0 = x := ⟨_, rfl⟩
        obtain ⟨y, hy⟩ : ∃ y, l2.getD i 0 = y := ⟨_, rfl⟩
        rw [hx] at c0
        rw [hy] at d0
        have HX := Lib.hid hx
        have HY := Lib.hid hy
        clear hx hy
        by_cases hxy : x = y
        · have bx : (x != y) = false := by simp [hxy]
          have HN2 := Lib.hid (show ∀ j : Nat, j < i + 1 → l.getD j 0 = l2.getD j 0 from fun j hj => by
            by_cases e : j = i
            · subst e; rw [HX.out, HY.out]; exact hxy
            · exact HN.out j (by omega))
          clear hxy
          go_wp2_with fail
          go_quiet (fail)
          go_wp2
          go_roundw
          case rel => exact ⟨i + 1, by simp, by omega, HN2, Lib.hid (blw_drewN HB.out _)⟩
          case measure => simp [intOf]; omega
        · have bx : (x != y) = true := by simp [hxy]
          have HE := Lib.hid (show eqI l l2 = false by
            unfold eqI
            rw [decide_eq_false_iff_not]
            rintro rfl
            exact hxy (HX.out.symm.trans HY.out))
          clear hxy
          go_wp2_with fail
          go_quiet (fail)
          go_wp2
          go_ret
          exact ⟨ret_bool HE.out.symm, blw_drewN HB.out _⟩
      · have bi : decide ((i : Int) < l.length) = false := by simp; omega
        obtain rfl : i = l.length := by omega
        have HE := Lib.hid (show eqI l l2 = true by
          unfold eqI
          rw [decide_eq_true_iff]
          apply List.ext_getElem HL.out
          intro n h1 h2
          have := HN.out n h1
          rwa [List.getD_eq_getElem?_getD, List.getElem?_eq_getElem h1, List.getD_eq_getElem?_getD, List.getElem?_eq_getElem h2] at this)
        go_wp2
        go_ret
        exact ⟨ret_bool HE.out.symm, HB.out⟩
  · have b1 : ((l.length : Int) == (l2.length : Int)) = false := by simp; omega
    have b2 : ((l.length : Int) != (l2.length : Int)) = true := by simp; omega
    have b3 : (l.length == l2.length) = false := by simp [hl]
    have HE := Lib.hid (show eqI l l2 = false by
      unfold eqI
      rw [decide_eq_false_iff_not]
      rintro rfl
      exact hl rfl)
    clear hl
    go_enter Try.func64, Try.ntmps64
    go_wp2
    go_ret
    exact ⟨ret_bool HE.out.symm, Below.refl _ _⟩
/-- The chapter's example. -/
def L0 : List Rp := [⟨1, 0, 1⟩, ⟨2, 4, 1⟩, ⟨4, 1, 1⟩]
def R0 : Rp := ⟨1, 2, 2⟩
def L1 : List Rp := [⟨1, 2, 2⟩, ⟨2, 4, 1⟩, ⟨4, 1, 1⟩]
theorem aw_E : routeE L0 2 = 0 := by decide +kernel
theorem aw_L : routeA L0 2 = [0, 1, 4, 2] := by decide +kernel
theorem aw_HE : hdrE [0, 1, 4, 2] = 0 := by decide +kernel
theorem aw_HV : hdrV [0, 1, 4, 2] = ⟨#[1, 4, 2]⟩ := by unfold hdrV; rw [show hdrL [0, 1, 4, 2] = [1, 4, 2] from by decide +kernel]
theorem aw_S : stepAns ⟨#[4, 2]⟩ 1 = .tuple #[.int .i64 4, .string ⟨#[2]⟩, .int .i64 0] := by
  unfold stepAns
  rw [show sI ⟨#[4, 2]⟩ = [4, 2] from rfl, show stepN [4, 2] 1 = 4 from by decide +kernel, show stepL [4, 2] 1 = [2] from by decide +kernel, show stepE [4, 2] 1 = 0 from by decide +kernel]
theorem aw_PE : rputE L0 R0 = 0 := by decide +kernel
theorem aw_PC : rputC L0 R0 = true := by decide +kernel
instance : DecidableEq Rp := fun a b => decidable_of_iff (rpEq a b = true) rpEq_iff
theorem aw_PL : rputL L0 R0 = L1 := by decide +kernel
theorem aw_E2 : routeE L1 4 = 17 := by decide +kernel
theorem aw_L2 : routeA L1 4 = [] := by decide +kernel
end Go.Proofs.Ytckanomabhbkaaa
