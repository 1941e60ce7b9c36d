/- slices.IndexFunc and slices.ContainsFunc over reports, walked. -/
import Derived.Test.YtckanomabhbkaaaRG
namespace Go.Proofs.Ytckanomabhbkaaa
open Go.RowKit Go.Shelf
set_option linter.unusedVariables false
/-- A predicate over reports: a function value that answers it, and leaves what lay. -/
def PredR (g : Nat) (lb : Array Value) (p : Rp → Bool) (w : World) : Prop :=
  ∀ (W : World) (x : Rp), Below w.heap.size w W → Calls Try.prog g (#[.agg #[.int .i64 x.node, .int .i64 x.parent, .int .i64 x.num]] ++ lb) W fun e w' => e = .returned (.bool (p x)) ∧ Below w.heap.size w w'
def pix (p : Rp → Bool) (l : List Rp) : Int := match l.findIdx? p with | some k => (k : Int) | none => -1
theorem pix_hit {p : Rp → Bool} {l : List Rp} {i : Nat} (h : i < l.length) (he : p (gr l i) = true) (hn : ∀ j : Nat, j < i → p (gr l j) = false) : pix p l = i := by
  unfold pix
  have hk : l.findIdx? p = some i := by
    rw [List.findIdx?_eq_some_iff_getElem]
    refine ⟨h, by rw [← gr_elem h]; exact he, fun j hj => ?_⟩
    have := hn j hj
    rw [gr_elem (by omega)] at this
    simp [this]
  rw [hk]
theorem pix_miss {p : Rp → Bool} {l : List Rp} (hn : ∀ j : Nat, j < l.length → p (gr l j) = false) : pix p l = -1 := by
  unfold pix
  have hk : l.findIdx? p = none := by
    rw [List.findIdx?_eq_none_iff]
    intro x hx
    obtain ⟨j, hj, rfl⟩ := List.getElem_of_mem hx
    have := hn j hj
    rwa [gr_elem hj] at this
  rw [hk]
theorem pix_any (p : Rp → Bool) (l : List Rp) : decide (0 ≤ pix p l) = l.any p := by
  unfold pix
  cases hk : l.findIdx? p with
  | none =>
    rw [List.findIdx?_eq_none_iff] at hk
    have : l.any p = false := by rw [List.any_eq_false]; intro x hx; rw [hk x hx]; simp
    rw [this]; rfl
  | some n =>
    rw [List.findIdx?_eq_some_iff_getElem] at hk
    obtain ⟨hl, hp, _⟩ := hk
    have : l.any p = true := by rw [List.any_eq_true]; exact ⟨_, List.getElem_mem hl, hp⟩
    rw [this]
    simp
theorem pix_cases (p : Rp → Bool) (l : List Rp) : (pix p l = -1 ∧ ∀ x ∈ l, p x = false) ∨ ∃ n : Nat, pix p l = n ∧ n < l.length ∧ p (gr l n) = true := by
  unfold pix
  cases hk : l.findIdx? p with
  | none =>
    rw [List.findIdx?_eq_none_iff] at hk
    exact .inl ⟨rfl, fun x hx => by simpa using hk x hx⟩
  | some n =>
    rw [List.findIdx?_eq_some_iff_getElem] at hk
    obtain ⟨hl, hp, _⟩ := hk
    exact .inr ⟨n, rfl, hl, by rw [gr_elem hl]; exact hp⟩
set_option maxHeartbeats 1600000 in
theorem indexR_any (p : Rp → Bool) (g : Nat) (lb : Array Value) (A : Option Addr) (c : Nat) (l : List Rp) (w : World) (hr : RowAt Rp.cells 3 w A l) (eg : ∀ args w, (callFunc g args).run Try.prog w = .ok (.enter g args) w) (hp : PredR g lb p w) :
    Calls Try.prog 59 #[.slice A l.length c, .func (.func g) #[] lb] w fun e w' => e = .returned (.int .i64 (pix p l)) ∧ Below w.heap.size w w' := by
  have HR := Lib.hid hr
  have hb := hr.1
  have HP := Lib.hid hp
  clear hr hp
  go_enter Try.func59, Try.ntmps59
  go_wp2
  go_loopw [8] (fun v wr => ∃ i : Nat, v = .int .i64 i ∧ i ≤ l.length ∧ Hid (∀ j : Nat, j < i → p (gr l j) = false) ∧ Hid (Below w.heap.size w wr)) (fun v _ => (l.length - (intOf v)).toNat)
  case atStart => exact ⟨0, rfl, by omega, Lib.hid (fun j h => by omega), Lib.hid (Below.refl _ _)⟩
  case round =>
    obtain ⟨i, rfl, hle, HN, HB⟩ := hrel
    by_cases hlt : i < l.length
    · obtain ⟨ad, rfl, c0, c1, c2⟩ := (HR.out.below HB.out).rp i (by omega) (by omega)
      rw [Int.toNat_natCast] at c0 c1 c2
      have hcall := HP.out wr (gr l i) HB.out
      obtain ⟨y, hy⟩ : ∃ y, p (gr l i) = y := ⟨_, rfl⟩
      rw [hy] at hcall
      have HY := Lib.hid hy
      have HC := Lib.hid hcall
      have g1 : (0 : Int) ≤ i := by omega
      have g2 : (i : Int) < l.length := by omega
      have bi : decide ((i : Int) < l.length) = true := by simp; omega
      clear hy hcall
      cases y
      · have HN2 := Lib.hid (show ∀ j : Nat, j < i + 1 → p (gr l j) = false from fun j hj => by
          by_cases e : j = i
          · subst e; exact HY.out
          · exact HN.out j (by omega))
        go_wp2_with (go_at_fn g; refine HC.out.mono ?_; rintro e w4 ⟨rfl, hb4⟩; (have HB4 := Lib.hid hb4); clear hb4)
        go_roundw
        case rel => exact ⟨i + 1, by simp, by omega, HN2, HB4⟩
        case measure => simp [intOf]; omega
      · have HF := Lib.hid (pix_hit hlt HY.out HN.out)
        go_wp2_with (go_at_fn g; refine HC.out.mono ?_; rintro e w4 ⟨rfl, hb4⟩; (have HB4 := Lib.hid hb4); clear hb4)
        go_ret
        exact ⟨ret_int HF.out.symm, HB4.out⟩
    · have bi : decide ((i : Int) < l.length) = false := by simp; omega
      obtain rfl : i = l.length := by omega
      have HF := Lib.hid (pix_miss HN.out)
      go_wp2
      go_ret
      exact ⟨ret_int HF.out.symm, HB.out⟩
set_option maxHeartbeats 800000 in
theorem containsR_any (p : Rp → Bool) (g : Nat) (lb : Array Value) (A : Option Addr) (c : Nat) (l : List Rp) (w : World) (hr : RowAt Rp.cells 3 w A l) (eg : ∀ args w, (callFunc g args).run Try.prog w = .ok (.enter g args) w) (hp : PredR g lb p w) :
    Calls Try.prog 54 #[.slice A l.length c, .func (.func g) #[] lb] w fun e w' => e = .returned (.bool (l.any p)) ∧ Below w.heap.size w w' := by
  have HC := Lib.hid (indexR_any p g lb A c l w hr eg hp)
  have HE := Lib.hid (pix_any p l)
  clear hr hp
  go_enter Try.func54, Try.ntmps54
  go_wp2_with (go_at_call 59; refine HC.out.mono ?_; rintro e w4 ⟨rfl, hb4⟩; (have HB4 := Lib.hid hb4); clear hb4)
  go_ret
  exact ⟨ret_bool HE.out, HB4.out⟩
end Go.Proofs.Ytckanomabhbkaaa
