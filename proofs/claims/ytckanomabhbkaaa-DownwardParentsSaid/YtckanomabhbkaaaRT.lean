/- A region that draws its order, whose callees leave what lay: walked once. -/
import Derived.Test.YtckanomabhbkaaaRU
import Derived.BigQuiet
import Derived.Deep.QuietTactic
namespace Go.Proofs.Ytckanomabhbkaaa
open Go.RowKit Go.Shelf
set_option linter.unusedVariables false
/-- A world in which all lies as in w, as far as w reached. -/
structure BelowOf (w : World) where
  W : World
  h : Below w.heap.size w W
instance belowOf_inh (w : World) : Inhabited (BelowOf w) := ⟨⟨w, Below.refl _ w⟩⟩
/-- A region that draws its order, whose operations read, and whose callees leave what lay: walked once. -/
theorem wp_region_below {P : Program} {id : Nat} {Q : Exit → Act → World → Prop} {a : Act} {w : World} {l : List Oper} (hm : P.follows .mixedOrders = true) (hB : Region.lexB .any l.toArray = true)
    (h : wpQuiet P l.toArray (fun w' => ∃ p : BelowOf w, w' = p.W) (fun a' => ∀ w', (∃ p : BelowOf w, w' = p.W) → Q .normal a' w') l a) : (Code.region id l.toArray true).wp P Q a w :=
  wp_region_quiet (C := fun w' => ∃ p : BelowOf w, w' = p.W) hm hB ⟨⟨_, (Below.refl _ w).drew⟩, rfl⟩ (by simpa using h)
theorem BelowOf.cell {w : World} {a : Addr} {v : Value} (h : w.cell? a = some v) (p : BelowOf w) : p.W.cell? a = some v := cell_below p.h h
end Go.Proofs.Ytckanomabhbkaaa
