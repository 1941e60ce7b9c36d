/- Sets of ints kept in a map[int]bool that the call makes: the words and the laws at the operations. -/
import Derived.Maps.OwnOps
import Derived.Maps.OwnSet
import Derived.Maps.Views
import Derived.Test.YtckanomabhbkaaaQBase
namespace Go.Proofs.Ytckanomabhbkaaa
open Go.RowKit
open Go.Maps (Keyed int_keyed keyOf_int_mk Tidy)
set_option linter.unusedVariables false

theorem plainElem_bool_inv {H : Type} {P : Program} {e : TypeId} (he : P.underlying e = some .bool) {v : Value} {z : DataW H × List MemPlace} (h : plainElem P e v = some z) : ∃ x, v = .bool x ∧ z = (.lit (.bool x), []) := by
  unfold plainElem at h
  rw [he] at h
  cases v <;> simp at h
  exact ⟨_, rfl, h.symm⟩

def SetIs (P : Program) (K E : TypeId) (w : World) (b n : Nat) (s : List Int) : Prop :=
  ∃ D : DataW Unit, w.ownsMap P K (plainElem P E) b n D ∧ s.Nodup ∧ (∀ k, Maps.has D (.int .i64 k) = decide (k ∈ s)) ∧ (∀ k, D.atKey (.int .i64 k) (.lit (.bool false)) = .lit (.bool (decide (k ∈ s)))) ∧ Maps.size D = s.length

section
variable {P : Program} {K E T : TypeId} {w : World} {b n : Nat} {s : List Int}
theorem SetIs.made (w : World) (P : Program) (K E : TypeId) : SetIs P K E (w.alloc (.map #[] 0)) w.heap.size 0 [] :=
  ⟨.map [], World.ownsMap_made w P K _, List.nodup_nil, fun k => by simp [Maps.has], fun k => rfl, rfl⟩
theorem SetIs.kept {w' : World} {row : Option Nat} (h : SetIs P K E w b n s) (hg : w.grownBy w' row) (hne : some b ≠ row) : SetIs P K E w' b n s := by
  obtain ⟨D, h1, h2⟩ := h
  exact ⟨D, h1.kept hg hne, h2⟩
theorem SetIs.lt (h : SetIs P K E w b n s) : b < w.heap.size := by
  obtain ⟨D, h1, h2⟩ := h
  exact h1.lt
theorem SetIs.block {w' : World} (h : SetIs P K E w b n s) (hb : w'.heap[b]? = w.heap[b]?) : SetIs P K E w' b n s := by
  obtain ⟨D, ⟨es, clock, h1, h3⟩, h2⟩ := h
  exact ⟨D, ⟨es, clock, hb.trans h1, h3⟩, h2⟩
theorem SetIs.below {w' : World} {B : Nat} (h : SetIs P K E w b n s) (hb : Below B w w') (hB : b < B) : SetIs P K E w' b n s := h.block (hb.block b hB)
theorem SetIs.alloc (h : SetIs P K E w b n s) (o : Obj) : SetIs P K E (w.alloc o) b n s := h.block (Below.heap_alloc w o b h.lt)
theorem SetIs.setCell (h : SetIs P K E w b n s) {p : Addr} (hp : b ≠ p.block) (u : Value) : SetIs P K E (w.setCell p u) b n s := h.block (Below.heap_setCell w p u b hp)
theorem SetIs.drew (h : SetIs P K E w b n s) : SetIs P K E w.drew b n s := h
theorem SetIs.drewN (h : SetIs P K E w b n s) (m : Nat) : SetIs P K E (w.drewN m) b n s := h.block rfl

variable {ops : Array Oper} {rest : List Oper} {o : Oper} {a : Act} {Q : Exit → Act → World → Prop}
/-- 's[k]' -/
theorem SetIs.look (hg : o.guard = none) (m x : Operand) (hop : o.op = Op.lookup T m x false)
    (hK : P.underlying K = some (.int .i64)) (hT : P.underlying T = some (.map K E)) (hE : P.underlying E = some .bool) (hz : (zeroValue E).run P w = .ok (.bool false) w)
    (hm : a.eval m = .map (some b)) (h : SetIs P K E w b n s) (k : Int) (hx : a.eval x = .int .i64 k) (hk : (Lit.int .i64 k).wf = true)
    (hQ : wpList P ops Q rest (a.put o.dst (.bool (decide (k ∈ s)))) w) :
    wpList P ops Q (o :: rest) a w := by
  obtain ⟨D, h1, h2, h3, h4, h5⟩ := h
  refine wpList_plain hg fun K' hK' => ?_
  obtain ⟨v, ps, hrun, hv⟩ := h1.lookup (int_keyed hK) hT hz (plainElem_bool hE false) (keyOf_int_mk hK hk)
  obtain ⟨y, rfl, hy⟩ := plainElem_bool_inv hE hv
  rw [h4 k] at hy
  generalize decide (k ∈ s) = d at hy hQ
  simp only [Prod.mk.injEq, DataW.lit.injEq, Lit.bool.injEq] at hy
  obtain ⟨rfl, _⟩ := hy
  unfold Oper.wp
  simp [execOp, hop, hm, hx, hrun, Result.andThen]
  exact hK' _ _ hQ
/-- 's[k] = true' -/
theorem SetIs.add (hg : o.guard = none) (m x v : Operand) (hop : o.op = Op.mapUpdate T m x v)
    (hK : P.underlying K = some (.int .i64)) (hT : P.underlying T = some (.map K E)) (hE : P.underlying E = some .bool)
    (hm : a.eval m = .map (some b)) (h : SetIs P K E w b n s) (hn : n < maxLen) (k : Int) (hx : a.eval x = .int .i64 k) (hv : a.eval v = .bool true) (hk : (Lit.int .i64 k).wf = true)
    (hQ : ∀ w', SetIs P K E w' b (n + 1) (if k ∈ s then s else k :: s) → w.grownBy w' (some b) → wpList P ops Q rest (a.put o.dst undef) w') :
    wpList P ops Q (o :: rest) a w := by
  obtain ⟨D, h1, h2, h3, h4, h5⟩ := h
  refine wpList_plain hg fun K' hK' => ?_
  obtain ⟨w', hrun, r1, r2⟩ := h1.update (int_keyed hK) hT hn (keyOf_int_mk hK hk) (plainElem_bool hE true)
  have hkey : WideAt.IsKeyLit (.int .i64 k) := trivial
  have hS : SetIs P K E w' b (n + 1) (if k ∈ s then s else k :: s) := by
    refine ⟨_, r1, ?_, fun j => ?_, fun j => ?_, ?_⟩
    · by_cases hm : k ∈ s
      · rw [if_pos hm]; exact h2
      · rw [if_neg hm]; exact List.nodup_cons.2 ⟨hm, h2⟩
    · by_cases hj : j = k
      · subst hj
        rw [Maps.has_put_same (h1.isMap) hkey]
        by_cases hm : j ∈ s <;> simp [hm]
      · rw [Maps.has_put_other (by simpa using hj), h3]
        by_cases hm : k ∈ s <;> simp [hm, hj]
    · by_cases hj : j = k
      · subst hj
        rw [Maps.atKey_put_same (h1.isMap) hkey]
        by_cases hm : j ∈ s <;> simp [hm]
      · rw [Maps.atKey_put_other (by simpa using hj), h4]
        by_cases hm : k ∈ s <;> simp [hm, hj]
    · rw [Maps.size_put (h1.tidy (int_keyed hK)), h3, h5]
      by_cases hm : k ∈ s <;> simp [hm]
  unfold Oper.wp
  simp [execOp, hop, hm, hx, hv, hrun, Result.andThen]
  exact hK' _ _ (hQ w' hS r2)
/-- 'len(s)' -/
theorem SetIs.len (hg : o.guard = none) (m : Operand) (hop : o.op = Op.call { callee := Callee.builtin Builtin.len, args := #[m], argTypes := #[T] })
    (hT : P.underlying T = some (.map K E)) (hm : a.eval m = .map (some b)) (h : SetIs P K E w b n s)
    (hQ : wpList P ops Q rest (a.put o.dst (.int .i64 (s.length : Int))) w) :
    wpList P ops Q (o :: rest) a w := by
  obtain ⟨D, h1, h2, h3, h4, h5⟩ := h
  exact wpList_len_own w hg m T hop K E hT _ b n D hm h1 (by rw [h5]; exact hQ)
/-- 'delete(s, k)' -/
theorem SetIs.del (hg : o.guard = none) (m x : Operand) (hop : o.op = Op.call { callee := Callee.builtin Builtin.delete, args := #[m, x], argTypes := #[T, K] })
    (hK : P.underlying K = some (.int .i64)) (hT : P.underlying T = some (.map K E))
    (hm : a.eval m = .map (some b)) (h : SetIs P K E w b n s) (k : Int) (hx : a.eval x = .int .i64 k) (hk : (Lit.int .i64 k).wf = true)
    (hQ : ∀ w', SetIs P K E w' b n (s.erase k) → w.grownBy w' (some b) → wpList P ops Q rest (a.put o.dst (.tuple #[])) w') :
    wpList P ops Q (o :: rest) a w := by
  obtain ⟨D, h1, h2, h3, h4, h5⟩ := h
  refine wpList_delete_own w hg m x T K hop E (int_keyed hK) hT _ b n D hm h1 _ _ hx (keyOf_int_mk hK hk) ?_
  intro w1 hown1 hturn1
  refine hQ w1 ⟨_, hown1, h2.erase k, fun j => ?_, fun j => ?_, ?_⟩ hturn1.grown
  · by_cases hj : j = k
    · subst hj
      rw [Maps.has_del_same]
      simp [h2.mem_erase_iff]
    · rw [Maps.has_del_other (by simpa using hj), h3]
      simp [h2.mem_erase_iff, hj]
  · by_cases hj : j = k
    · subst hj
      rw [Maps.atKey_del_same]
      simp [h2.mem_erase_iff]
    · rw [Maps.atKey_del_other (by simpa using hj), h4]
      simp [h2.mem_erase_iff, hj]
  · have := Maps.size_del (k := .int .i64 k) (h1.tidy (int_keyed hK))
    rw [h3, h5] at this
    by_cases hm : k ∈ s
    · rw [List.length_erase_of_mem hm]
      simp [hm] at this
      omega
    · rw [List.erase_of_not_mem hm]
      simpa [hm] using this
end
end Go.Proofs.Ytckanomabhbkaaa
