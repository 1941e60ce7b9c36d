/- The reference's Put, whole. -/
import Derived.Test.YtckanomabhbkaaaQU4
namespace Go.Proofs.Ytckanomabhbkaaa
open Go.RowKit Go.Shelf
set_option linter.unusedVariables false
theorem refPut_any (L : Int) (A : Option Addr) (c : Nat) (l : List Pk) (p : Pk) (w : World) (hr : PkAt w A c l) :
    Calls Try.prog 23 #[.agg #[.int .i64 L, .slice A l.length c], .agg #[.int .i64 p.id, .int .i64 p.dst, .int .i64 p.pr, .int .i64 p.born, .int .i64 p.life, .string p.data]] w fun e w' => PutAns w.heap.size w' e L l p ∧ Below w.heap.size w w' := by
  by_cases h1 : chk L l = 0
  · by_cases h2 : pform p = 0
    · by_cases h3 : idx l p.id < 0
      · by_cases h4 : (l.length : Int) = L
        · by_cases h5 : (lastPk l).pr ≤ p.pr
          · exact refPut_full L A c l p w hr h1 h2 h3 h4 h5
          · exact refPut_drop L A c l p w hr h1 h2 h3 h4 (by omega)
        · exact refPut_room L A c l p w hr h1 h2 h3 h4
      · exact refPut_twice L A c l p w hr h1 h2 (by omega)
    · exact refPut_form L A c l p w hr h1 h2
  · exact refPut_arg L A c l p w hr h1
end Go.Proofs.Ytckanomabhbkaaa
