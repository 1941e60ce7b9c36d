/- The program's Put, whole. -/
import Derived.Test.YtckanomabhbkaaaQP2
import Derived.Test.YtckanomabhbkaaaQP3
import Derived.Test.YtckanomabhbkaaaQP4
namespace Go.Proofs.Ytckanomabhbkaaa
open Go.RowKit Go.Shelf
set_option linter.unusedVariables false
theorem put_any (L : Int) (A : Option Addr) (c : Nat) (l : List Pk) (p : Pk) (w : World) (hr : PkAt w A c l) (hids : IdsOk l) :
    Calls Try.prog 22 #[.agg #[.int .i64 L, .slice A l.length c], .agg #[.int .i64 p.id, .int .i64 p.dst, .int .i64 p.pr, .int .i64 p.born, .int .i64 p.life, .string p.data]] w fun e w' => PutAns w.heap.size w' e L l p ∧ Below w.heap.size w w' := by
  by_cases h1 : chk L l = 0
  · by_cases h2 : pform p = 0
    · by_cases h3 : idx l p.id < 0
      · by_cases h4 : (l.length : Int) = L
        · by_cases h5 : (lastPk l).pr ≤ p.pr
          · exact put_full L A c l p w hr hids h1 h2 h3 h4 h5
          · exact put_drop L A c l p w hr hids h1 h2 h3 h4 (by omega)
        · exact put_room L A c l p w hr hids h1 h2 h3 h4
      · exact put_twice L A c l p w hr hids h1 h2 (by omega)
    · exact put_form L A c l p w hr hids h1 h2
  · exact put_arg L A c l p w hr hids h1
end Go.Proofs.Ytckanomabhbkaaa
