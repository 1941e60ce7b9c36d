/- Maps from numbers, or from pairs of numbers, to numbers, that the call makes: one word, the laws at its operations. -/
import Derived.Maps.OwnOps
import Derived.Maps.OwnSet
import Derived.Maps.Views
import Derived.WideKeyPair
import Derived.Test.YtckanomabhbkaaaYI
namespace Go.Proofs.Ytckanomabhbkaaa
open Go.RowKit
open Go.Maps (Keyed int_keyed keyOf_int_mk)
open Go.WideMaps (ArrKey keyOf_pair)
set_option linter.unusedVariables false
/-- Block b is a map whose keys K read as f says; its elements are numbers. -/
def IMap (K : TypeId) (w : World) (b n : Nat) (f : Lit → Option Int) : Prop :=
  ∃ D : DataW Unit, w.ownsMap Try.prog K (plainElem Try.prog 3) b n D ∧ (∀ k, Maps.has D k = (f k).isSome) ∧ (∀ k, D.atKey k (.lit (.int .i64 0)) = .lit (.int .i64 ((f k).getD 0)))
open Classical in
noncomputable def put1 (f : Lit → Option Int) (k : Lit) (v : Int) : Lit → Option Int := fun k' => if k' = k then some v else f k'
section
variable {K : TypeId} {w : World} {b n : Nat} {f : Lit → Option Int}
theorem IMap.made (w : World) (K : TypeId) : IMap K (w.alloc (.map #[] 0)) w.heap.size 0 (fun _ => none) :=
  ⟨.map [], World.ownsMap_made w Try.prog K _, fun k => by simp [Maps.has], fun k => rfl⟩
theorem IMap.lt (h : IMap K w b n f) : b < w.heap.size := by
  obtain ⟨D, h1, h2⟩ := h
  exact h1.lt
theorem IMap.block {w' : World} (h : IMap K w b n f) (hb : w'.heap[b]? = w.heap[b]?) : IMap K w' b n f := by
  obtain ⟨D, ⟨es, clock, h1, h3⟩, h2⟩ := h
  exact ⟨D, ⟨es, clock, hb.trans h1, h3⟩, h2⟩
theorem IMap.kept {w' : World} {row : Option Nat} (h : IMap K w b n f) (hg : w.grownBy w' row) (hne : some b ≠ row) : IMap K w' b n f := by
  obtain ⟨D, h1, h2⟩ := h
  exact ⟨D, h1.kept hg hne, h2⟩
theorem IMap.below {w' : World} {B : Nat} (h : IMap K w b n f) (hb : Below B w w') (hB : b < B) : IMap K w' b n f := h.block (hb.block b hB)
theorem IMap.alloc (h : IMap K w b n f) (o : Obj) : IMap K (w.alloc o) b n f := h.block (Below.heap_alloc w o b h.lt)
theorem IMap.setCell (h : IMap K w b n f) {p : Addr} (hp : b ≠ p.block) (u : Value) : IMap K (w.setCell p u) b n f := h.block (Below.heap_setCell w p u b hp)
theorem IMap.drew (h : IMap K w b n f) : IMap K w.drew b n f := h.block rfl
theorem zeroN (w : World) : (zeroValue 3).run Try.prog w = .ok (.int .i64 0) w := by kernel_rfl
/-- The run of 'v, ok := m[k]'. -/
theorem IMap.run {T : TypeId} (h : IMap K w b n f) (Kd : Keyed Try.prog K) (hT : Try.prog.underlying T = some (.map K 3)) {key : Value} {kl : Lit} (hk : keyOf Try.prog K key = some kl) :
    (Instr.lookup T (.map (some b)) key true).run Try.prog w = .ok (.tuple #[.int .i64 ((f kl).getD 0), .bool (f kl).isSome]) w := by
  obtain ⟨D, h1, h2, h3⟩ := h
  obtain ⟨v, ps, hrun, hv⟩ := h1.look_ok Kd hT (zeroN w) (plainElem_int (q := .i64) Try.underlying3 (by decide)) hk
  obtain ⟨y, rfl, hy, _⟩ := plainElem_int_inv Try.underlying3 hv
  rw [h3 kl] at hy
  simp only [Prod.mk.injEq, DataW.lit.injEq, Lit.int.injEq, true_and] at hy
  obtain ⟨rfl, _⟩ := hy
  rw [hrun, h2 kl]
/-- The run of 'm[k] = v'. -/
theorem IMap.put {T : TypeId} (h : IMap K w b n f) (Kd : Keyed Try.prog K) (hT : Try.prog.underlying T = some (.map K 3)) (hn : n < maxLen) {key : Value} {kl : Lit} (hk : keyOf Try.prog K key = some kl) (hkl : WideAt.IsKeyLit kl) {v : Int} (hv : (Lit.int .i64 v).wf = true) :
    ∃ w', (Instr.mapUpdate T (.map (some b)) key (.int .i64 v)).run Try.prog w = .ok () w' ∧ IMap K w' b (n + 1) (put1 f kl v) ∧ w.grownBy w' (some b) := by
  obtain ⟨D, h1, h2, h3⟩ := h
  obtain ⟨w', hrun, r1, r2⟩ := h1.update Kd hT hn hk (plainElem_int (H := Unit) (q := .i64) Try.underlying3 hv)
  refine ⟨w', hrun, ⟨_, r1, fun k => ?_, fun k => ?_⟩, r2⟩
  · unfold put1
    by_cases e : k = kl
    · subst e
      rw [Maps.has_put_same h1.isMap hkl, if_pos rfl]; rfl
    · rw [Maps.has_put_other e, h2, if_neg e]
  · unfold put1
    by_cases e : k = kl
    · subst e
      rw [Maps.atKey_put_same h1.isMap hkl, if_pos rfl]; rfl
    · rw [Maps.atKey_put_other e, h3, if_neg e]
variable {ops : Array Oper} {rest : List Oper} {o : Oper} {a : Act} {Q : Exit → Act → World → Prop}
/-- 'v, ok := m[k]' at the operation. -/
theorem IMap.look {T : TypeId} (hg : o.guard = none) (m x : Operand) (hop : o.op = Op.lookup T m x true) (Kd : Keyed Try.prog K) (hT : Try.prog.underlying T = some (.map K 3))
    (hm : a.eval m = .map (some b)) (h : IMap K w b n f) (key : Value) (kl : Lit) (hx : a.eval x = key) (hk : keyOf Try.prog K key = some kl)
    (hQ : wpList Try.prog ops Q rest (a.put o.dst (.tuple #[.int .i64 ((f kl).getD 0), .bool (f kl).isSome])) w) :
    wpList Try.prog ops Q (o :: rest) a w := by
  refine wpList_plain hg fun K' hK' => ?_
  have hrun := h.run Kd hT hk
  unfold Oper.wp
  simp [execOp, hop, hm, hx, hrun, Result.andThen]
  exact hK' _ _ hQ
/-- 'm[k] = v' at the operation. -/
theorem IMap.store {T : TypeId} (hg : o.guard = none) (m x v : Operand) (hop : o.op = Op.mapUpdate T m x v) (Kd : Keyed Try.prog K) (hT : Try.prog.underlying T = some (.map K 3))
    (hm : a.eval m = .map (some b)) (h : IMap K w b n f) (hn : n < maxLen) (key : Value) (kl : Lit) (hx : a.eval x = key) (hk : keyOf Try.prog K key = some kl) (hkl : WideAt.IsKeyLit kl) (z : Int) (hv : a.eval v = .int .i64 z) (hz : (Lit.int .i64 z).wf = true)
    (hQ : ∀ w', IMap K w' b (n + 1) (put1 f kl z) → w.grownBy w' (some b) → wpList Try.prog ops Q rest (a.put o.dst undef) w') :
    wpList Try.prog ops Q (o :: rest) a w := by
  refine wpList_plain hg fun K' hK' => ?_
  obtain ⟨w', hrun, r1, r2⟩ := h.put Kd hT hn hk hkl hz
  unfold Oper.wp
  simp [execOp, hop, hm, hx, hv, hrun, Result.andThen]
  exact hK' _ _ (hQ w' r1 r2)
end
theorem arr58 : ArrKey Try.prog 58 3 2 := ⟨Try.underlying58, by kernel_rfl, by kernel_rfl, by kernel_rfl⟩
theorem keyed58 : Keyed Try.prog 58 := Keyed.of_law arr58.law
theorem keyed3 : Keyed Try.prog 3 := int_keyed Try.underlying3
/-- What a pair is as a key. -/
def pk2 (a b : Int) : Lit := .string (keyBytes [.int .i64 a, .int .i64 b])
theorem keyOf2 {a b : Int} (ha : (Lit.int .i64 a).wf = true) (hb : (Lit.int .i64 b).wf = true) : keyOf Try.prog 58 (.agg #[.int .i64 a, .int .i64 b]) = some (pk2 a b) :=
  keyOf_pair arr58 Try.underlying3 ⟨Try.prog.types.size - 1, by kernel_rfl⟩ ha hb
theorem keyOf1 {a : Int} (ha : (Lit.int .i64 a).wf = true) : keyOf Try.prog 3 (.int .i64 a) = some (.int .i64 a) := keyOf_int_mk Try.underlying3 ha
theorem pk2_inj {a b c d : Int} (ha : (Lit.int .i64 a).wf = true) (hb : (Lit.int .i64 b).wf = true) (hc : (Lit.int .i64 c).wf = true) (hd : (Lit.int .i64 d).wf = true) (h : pk2 a b = pk2 c d) : a = c ∧ b = d := by
  unfold pk2 at h
  have h1 := keyBytes_inj (l := [.int .i64 a, .int .i64 b]) (l' := [.int .i64 c, .int .i64 d]) ⟨rfl, rfl, trivial⟩ (by simp [Lit.keyWf, ha, hb]) (by simp [Lit.keyWf, hc, hd]) (by simpa using h)
  simpa using h1
theorem pk2_key (a b : Int) : WideAt.IsKeyLit (pk2 a b) := trivial
end Go.Proofs.Ytckanomabhbkaaa
