/- append to a row of the call's own, of any slice that is read, nil and empty ones included. -/
import Derived.Test.YtckanomabhbkaaaQMem
import Derived.Lib.AppendZeros
namespace Go.Proofs.Ytckanomabhbkaaa
open Go.RowKit
set_option linter.unusedVariables false
theorem run_append_none {P : Program} (w : World) (t ty elem : TypeId) (A B : Option Addr) (n c cc : Nat) (i0 : TypeInfo) (hu : P.underlying t = some (.slice elem)) (hi : P.info? elem = some i0) (hn : n ≤ c) :
    (Builtin.append_ #[t, t] ty #[.slice A n c, .slice B 0 cc]).run P w = .ok (.slice A n c) w := by
  have h0 : ∀ a, (loadCells a 0).run P w = .ok #[] w := fun a => by
    have := run_loadCells_list (P := P) w a [] (fun j v h => by simp at h)
    simpa using this
  have h1 : ∀ a, (storeCells a []).run P w = .ok () w := fun a => rfl
  cases A <;> cases B <;> simp [Builtin.append_, run_underlying hu, sizeOf, typeInfo, hi, Builtin.lenOf, hn, Builtin.firstCells, h0, h1]
section
variable {α : Type} {enc : α → List Value} {k : Nat} {P : Program} {ops : Array Oper} {rest : List Oper} {o : Oper} {a : Act} {K : Act → World → Prop} {Q : Exit → Act → World → Prop} {E : Prop}
theorem grownBy_self (w : World) (g : Option Nat) : w.grownBy w g := ⟨rfl, rfl, rfl, Nat.le_refl _, fun _ _ _ => rfl⟩
theorem Own.append_opt {w : World} (hk : ∀ x, (enc x).length = k) (h1 : ∀ x, ∀ u ∈ enc x, u.oneCell' = true) (hgd : o.guard = none) (s x : Operand) (t e : TypeId) (z : Value) (bytes : Nat)
    (ho : o.op = .call { callee := .builtin .append, args := #[s, x], argTypes := #[t, t] })
    (ht : P.underlying t = some (.slice e)) (hinfo : (P.info? e).map (fun i => (i.zero, i.size, i.bytes)) = some (some z, k, bytes)) (hz : z.cells.size = k) (hs0 : 0 < k) (hb0 : 0 < bytes)
    (v : Value) (l : List α) (hs : a.eval s = v) {base : Nat} (HO : Own enc k w base e v l) (A : Option Addr) (l2 : List α) (c : Nat) (hx : a.eval x = .slice A l2.length c) (hr : RowAt enc k w A l2)
    (hbase : base ≤ w.heap.size) (hl : (l.length + l2.length) * bytes ≤ 140737488355328)
    (h : ∀ v1 w1, Own enc k w1 base e v1 (l ++ l2) → w.grownBy w1 v.ownBlock → (v1.ownBlock = v.ownBlock ∨ v1.ownBlock = some w.heap.size) → wpList P ops Q rest (a.put o.dst v1) w1) :
    wpList P ops Q (o :: rest) a w := by
  cases l2 with
  | nil =>
    obtain ⟨i0, hi, _⟩ := Option.map_eq_some_iff.1 hinfo
    obtain ⟨A', c', rfl, hn, _⟩ := HO.form
    refine Lib.wpList_append_run w hgd s x t t ho _ _ hs hx _ w (run_append_none w t o.type e A' A l.length c' c i0 ht hi hn) (h _ w (by simpa using HO) (grownBy_self _ _) (.inl rfl))
  | cons y l2 =>
    obtain ⟨ad, rfl, _⟩ := hr.2 (by simp)
    exact Own.append hk h1 hgd s x t e z bytes ho ht hinfo hz hs0 hb0 v l hs HO ad (y :: l2) c hx hr hbase hl h
theorem Own.append_opt_step {w : World} (hk : ∀ x, (enc x).length = k) (h1 : ∀ x, ∀ u ∈ enc x, u.oneCell' = true) (hgd : o.guard = none) (s x : Operand) (t e : TypeId) (z : Value) (bytes : Nat)
    (ho : o.op = .call { callee := .builtin .append, args := #[s, x], argTypes := #[t, t] })
    (ht : P.underlying t = some (.slice e)) (hinfo : (P.info? e).map (fun i => (i.zero, i.size, i.bytes)) = some (some z, k, bytes)) (hz : z.cells.size = k) (hs0 : 0 < k) (hb0 : 0 < bytes)
    (v : Value) (l : List α) (hs : a.eval s = v) {base : Nat} (HO : Own enc k w base e v l) (A : Option Addr) (l2 : List α) (c : Nat) (hx : a.eval x = .slice A l2.length c) (hr : RowAt enc k w A l2)
    (hbase : base ≤ w.heap.size) (hl : (l.length + l2.length) * bytes ≤ 140737488355328)
    (h : ∀ v1 w1, Own enc k w1 base e v1 (l ++ l2) → w.grownBy w1 v.ownBlock → (v1.ownBlock = v.ownBlock ∨ v1.ownBlock = some w.heap.size) → K (a.put o.dst v1) w1) :
    if Region.wanted o (yielded ops a.tmps) = true then Oper.wp P o a w K Q else E := by
  cases l2 with
  | nil =>
    have hw : Region.wanted o (yielded ops a.tmps) = true := by simp [Region.wanted, hgd]
    rw [if_pos hw]
    obtain ⟨i0, hi, _⟩ := Option.map_eq_some_iff.1 hinfo
    obtain ⟨A', c', rfl, hn, _⟩ := HO.form
    have hr' := run_append_none (P := P) w t o.type e A' A l.length c' c i0 ht hi hn
    have hx' : a.eval x = .slice A 0 c := hx
    unfold Oper.wp execOp
    simp only [ho, resolve, invoke, builtin, Sem.run_bind, Sem.run_pure, Result.andThen_ok, List.map_toArray, List.map_cons, List.map_nil, hs, hx', hr']
    exact h _ w (by simpa using HO) (grownBy_self _ _) (.inl rfl)
  | cons y l2 =>
    obtain ⟨ad, rfl, _⟩ := hr.2 (by simp)
    exact Own.append_step hk h1 hgd s x t e z bytes ho ht hinfo hz hs0 hb0 v l hs HO ad (y :: l2) c hx hr hbase hl h
end
end Go.Proofs.Ytckanomabhbkaaa
