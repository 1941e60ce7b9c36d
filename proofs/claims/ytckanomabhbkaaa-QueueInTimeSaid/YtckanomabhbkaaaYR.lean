/- Rows that are inputs of their own, opened. -/
import Derived.Test.YtckanomabhbkaaaQR
namespace Go.Proofs.Ytckanomabhbkaaa
open Go.RowKit Go.Deep Go.ChangeShapes Go.WideShapes
set_option linter.unusedVariables false
section
variable {H : Type} {enc : TypeId × Value → H} {w : World} {base : Nat} {spare : Nat → Bool} {held : Bool}
set_option maxRecDepth 100000 in
theorem open_sl40 {r : Reach} {b0 : Nat} {v : Value} {d : DataW H} {p : List MemPlace} (hv : Value.okWide Try.prog w r b0 40 v) (h : DataW.Trod enc Try.prog w base spare held 40 v d p) : ∃ A c l, v = .slice A (l : List Int).length c ∧ SlAt intc 1 w A c l := by
  obtain ⟨a, n, m, rfl⟩ := okWide_slice Try.underlying40 hv
  obtain ⟨fuel, h⟩ := h
  obtain ⟨A, c, l, he, hs⟩ := open_ints40 h
  exact ⟨A, c, l, by simpa [Value.cells] using he, hs⟩
set_option maxRecDepth 100000 in
theorem open_sl22 {r : Reach} {b0 : Nat} {v : Value} {d : DataW H} {p : List MemPlace} (hv : Value.okWide Try.prog w r b0 22 v) (h : DataW.Trod enc Try.prog w base spare held 22 v d p) : ∃ A c l, v = .slice A (l : List Pk).length c ∧ PkAt w A c l ∧ IdsOk l := by
  obtain ⟨a, n, m, rfl⟩ := okWide_slice Try.underlying22 hv
  obtain ⟨fuel, h⟩ := h
  obtain ⟨A, c, l, he, hs⟩ := open_pks h
  exact ⟨A, c, l, by simpa [Value.cells] using he, hs⟩
end
end Go.Proofs.Ytckanomabhbkaaa
