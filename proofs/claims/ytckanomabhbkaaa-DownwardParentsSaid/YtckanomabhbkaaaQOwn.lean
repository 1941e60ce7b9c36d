/- Rows of the call's own: elements of k cells, one behind the other; read, appended to. -/
import Derived.Test.YtckanomabhbkaaaQBase
import Derived.Laws.AppendOwn
import Derived.Deep.AppendLies
import Derived.Maps.AppendAt
namespace Go.Proofs.Ytckanomabhbkaaa
open Go.RowKit
set_option linter.unusedVariables false

def ob (A : Option Addr) : Option Nat := A.map (·.block)
theorem ob_eq (A : Option Addr) (n c : Nat) : (Value.slice A n c).ownBlock = ob A := by cases A <;> rfl
def Own {α : Type} (enc : α → List Value) (k : Nat) (w : World) (base : Nat) (e : TypeId) (v : Value) (l : List α) : Prop := w.ownsRow base e k v l.length (l.flatMap enc)
section
variable {α : Type} {enc : α → List Value} {k : Nat}
theorem flat_get (hk : ∀ x, (enc x).length = k) : ∀ (l : List α) (i j : Nat) (x : α) (v : Value), l[i]? = some x → (enc x)[j]? = some v → (l.flatMap enc)[i * k + j]? = some v
  | [], i, j, x, v, h, _ => by simp at h
  | y :: l, 0, j, x, v, h, hv => by
    simp at h; subst h
    have hj : j < (enc y).length := (List.getElem?_eq_some_iff.1 hv).1
    rw [Nat.zero_mul, Nat.zero_add, List.flatMap_cons, List.getElem?_append_left hj]; exact hv
  | y :: l, i + 1, j, x, v, h, hv => by
    have := flat_get hk l i j x v (by simpa using h) hv
    rw [List.flatMap_cons, List.getElem?_append_right (by rw [hk, Nat.add_mul]; omega), hk, show (i + 1) * k + j - k = i * k + j from by rw [Nat.add_mul]; omega]
    exact this
theorem flat_len (hk : ∀ x, (enc x).length = k) (l : List α) : (l.flatMap enc).length = l.length * k := by
  induction l with
  | nil => simp
  | cons y l ih => rw [List.flatMap_cons, List.length_append, hk, ih, List.length_cons, Nat.add_mul]; omega
theorem Own.nil (w : World) (base : Nat) (e : TypeId) : Own enc k w base e (.slice none 0 0) ([] : List α) := World.ownsRow_nil w base e k
theorem Own.made0 (w : World) (e : TypeId) : Own enc k (w.alloc (.cells #[] e)) w.heap.size e (.slice (some ⟨w.heap.size, 0, none⟩) 0 0) ([] : List α) := by
  have h := World.ownsRow_made (base := w.heap.size) (e := e) (size := k) w #[] 0 (Nat.le_refl _) (by unfold maxLen; omega) (by simp)
  exact h
theorem Own.form {w : World} {base : Nat} {e : TypeId} {v : Value} {l : List α} (h : Own enc k w base e v l) : ∃ A c, v = .slice A l.length c ∧ l.length ≤ c ∧ c ≤ maxLen := by
  rcases h.2 with ⟨rfl, h0⟩ | ⟨g, cap, cur, rfl, hb, hg, hn, hc, _⟩
  · exact ⟨none, 0, by rw [h0], by omega, by unfold maxLen; omega⟩
  · exact ⟨_, _, rfl, hn, hc⟩
theorem Own.reads (hk : ∀ x, (enc x).length = k) {w : World} {base : Nat} {e : TypeId} {v : Value} {l : List α} (h : Own enc k w base e v l) : ∃ A c, v = .slice A l.length c ∧ l.length ≤ c ∧ c ≤ maxLen ∧ RowAt enc k w A l := by
  obtain ⟨A, c, rfl, hn, hc⟩ := h.form
  refine ⟨A, c, rfl, hn, hc, by unfold maxLen at hc; omega, fun hpos => ?_⟩
  obtain ⟨g, cap, he, _, _⟩ := World.ownsRow.form h hpos
  injection he with e1 _ _
  subst e1
  exact ⟨_, rfl, fun i x hx j u hu => World.ownsRow.cells h rfl _ _ (flat_get hk l i j x u hx hu)⟩
theorem Own.alloc {w : World} {base : Nat} {e : TypeId} {v : Value} {l : List α} (h : Own enc k w base e v l) (o : Obj) : Own enc k (w.alloc o) base e v l := World.ownsRow.alloc h o
theorem Own.kept {w w1 : World} {row : Option Nat} {base : Nat} {e : TypeId} {v : Value} {l : List α} (h : Own enc k w base e v l) (hg : w.grownBy w1 row) (hne : v.ownBlock = none ∨ v.ownBlock ≠ row) : Own enc k w1 base e v l := World.ownsRow.kept h hg hne
theorem Own.lt {w : World} {base : Nat} {e : TypeId} {v : Value} {l : List α} (h : Own enc k w base e v l) {b : Nat} (hb : v.ownBlock = some b) : base ≤ b ∧ b < w.heap.size := by
  rcases h.2 with ⟨rfl, h0⟩ | ⟨g, cap, cur, rfl, hb', hg, _⟩
  · simp [Value.ownBlock] at hb
  · simp [Value.ownBlock] at hb
    subst hb
    exact ⟨hb', (Array.getElem?_eq_some_iff.1 hg).1⟩
theorem Own.block {w w1 : World} {base : Nat} {e : TypeId} {v : Value} {l : List α} (h : Own enc k w base e v l) (hh : ∀ b, v.ownBlock = some b → w1.heap[b]? = w.heap[b]?) : Own enc k w1 base e v l := by
  refine ⟨h.1, ?_⟩
  rcases h.2 with hn | ⟨g, cap, cur, rfl, hb, hg, rest⟩
  · exact .inl hn
  · exact .inr ⟨g, cap, cur, rfl, hb, (hh g rfl).trans hg, rest⟩
theorem Own.below {w w1 : World} {base B : Nat} {e : TypeId} {v : Value} {l : List α} (h : Own enc k w base e v l) (hb : Below B w w1) (hB : w.heap.size ≤ B) : Own enc k w1 base e v l :=
  h.block fun b hbb => hb.block b (Nat.lt_of_lt_of_le (h.lt hbb).2 hB)
theorem Own.drewN {w : World} {base : Nat} {e : TypeId} {v : Value} {l : List α} (h : Own enc k w base e v l) (n : Nat) : Own enc k (w.drewN n) base e v l := h.block fun _ _ => rfl
theorem Own.drew {w : World} {base : Nat} {e : TypeId} {v : Value} {l : List α} (h : Own enc k w base e v l) : Own enc k w.drew base e v l := h.block fun _ _ => rfl
theorem Own.setCell {w : World} {base : Nat} {e : TypeId} {v : Value} {l : List α} (h : Own enc k w base e v l) {p : Addr} (hp : v.ownBlock ≠ some p.block) (u : Value) : Own enc k (w.setCell p u) base e v l :=
  h.block fun b hb => Below.heap_setCell w p u b (fun e => hp (by rw [hb, e]))
theorem Own.lower {w : World} {base base' : Nat} {e : TypeId} {v : Value} {l : List α} (h : Own enc k w base e v l) (hb : base' ≤ base) : Own enc k w base' e v l := by
  refine ⟨h.1, ?_⟩
  rcases h.2 with hn | ⟨g, cap, cur, rfl, hb', hg, rest⟩
  · exact .inl hn
  · exact .inr ⟨g, cap, cur, rfl, by omega, hg, rest⟩
/-- A block of another type is none of the row's. -/
theorem Own.ne {w : World} {base : Nat} {e t : TypeId} {v : Value} {l : List α} (h : Own enc k w base e v l) {b : Nat} {cs : Array Value} {fr : Nat × Nat} (hb : w.heap[b]? = some (.cells cs t fr)) (ht : e ≠ t) : v.ownBlock ≠ some b := by
  rcases h.2 with ⟨rfl, h0⟩ | ⟨g, cap, cur, rfl, hb', hg, _⟩
  · simp [Value.ownBlock]
  · intro he
    have : g = b := by simpa [Value.ownBlock] using he
    subst this
    rw [hg] at hb
    injection hb with hb
    injection hb with _ h2 _
    exact ht h2
theorem row_cells (hk : ∀ x, (enc x).length = k) (hs0 : 0 < k) {w : World} {ad : Addr} {l2 : List α} (hr : RowAt enc k w (some ad) l2) : ∀ j u, (l2.flatMap enc)[j]? = some u → w.cell? (ad.add j) = some u := by
  intro j u hu
  have hfl := flat_len hk l2
  have hj : j < l2.length * k := by rw [← hfl]; exact (List.getElem?_eq_some_iff.1 hu).1
  obtain ⟨ad', e', hc⟩ := hr.2 (Nat.pos_of_ne_zero fun h0 => by rw [h0, Nat.zero_mul] at hj; exact Nat.not_lt_zero _ hj)
  cases e'
  have hjd : j = j / k * k + j % k := by have := Nat.div_add_mod j k; rw [Nat.mul_comm] at this; omega
  have hlt : j / k < l2.length := by rw [Nat.div_lt_iff_lt_mul hs0]; exact hj
  have hm : j % k < (enc l2[j / k]).length := by rw [hk]; exact Nat.mod_lt _ hs0
  have h2 := flat_get hk l2 (j / k) (j % k) l2[j / k] _ (List.getElem?_eq_getElem hlt) (List.getElem?_eq_getElem hm)
  rw [← hjd, hu] at h2
  have := hc (j / k) _ (List.getElem?_eq_getElem hlt) (j % k) _ (List.getElem?_eq_getElem hm)
  rw [← hjd] at this
  rw [this]; exact h2.symm
section
variable {P : Program} {ops : Array Oper} {rest : List Oper} {o : Oper} {a : Act} {Q : Exit → Act → World → Prop}
/-- 'append(s, x...)': the source is any row that is read. -/
theorem Own.append {w : World} (hk : ∀ x, (enc x).length = k) (h1 : ∀ x, ∀ u ∈ enc x, u.oneCell' = true) (hgd : o.guard = none) (s x : Operand) (t e : TypeId) (z : Value) (bytes : Nat)
    (ho : o.op = .call { callee := .builtin .append, args := #[s, x], argTypes := #[t, t] })
    (ht : P.underlying t = some (.slice e)) (hinfo : (P.info? e).map (fun i => (i.zero, i.size, i.bytes)) = some (some z, k, bytes)) (hz : z.cells.size = k) (hs0 : 0 < k) (hb0 : 0 < bytes)
    (v : Value) (l : List α) (hs : a.eval s = v) {base : Nat} (HO : Own enc k w base e v l) (ad : Addr) (l2 : List α) (c : Nat) (hx : a.eval x = .slice (some ad) l2.length c) (hr : RowAt enc k w (some ad) l2)
    (hbase : base ≤ w.heap.size) (hl : (l.length + l2.length) * bytes ≤ 140737488355328)
    (h : ∀ v1 w1, Own enc k w1 base e v1 (l ++ l2) → w.grownBy w1 v.ownBlock → (v1.ownBlock = v.ownBlock ∨ v1.ownBlock = some w.heap.size) → wpList P ops Q rest (a.put o.dst v1) w1) :
    wpList P ops Q (o :: rest) a w := by
  obtain ⟨i0, hi, hzz⟩ := Option.map_eq_some_iff.1 hinfo
  simp only [Prod.mk.injEq] at hzz
  obtain ⟨hz0, hz1, hz2⟩ := hzz
  have hlen : l.length + l2.length ≤ 140737488355328 := Nat.le_trans (Nat.le_mul_of_pos_right _ hb0) hl
  have hfl := flat_len hk l2
  refine wpList_append_own_at w hgd s x t ho base e i0 z k bytes ht hi hz0 hz1 hz2 hz hs0 v l.length (l.flatMap enc) hs HO ad l2.length c (l2.flatMap enc) hx hfl ?_ ?_ (by unfold maxLen; omega) hl hbase ?_
  · exact row_cells hk hs0 hr
  · intro u hu
    obtain ⟨y, _, hy⟩ := List.mem_flatMap.1 hu
    exact h1 y u hy
  · intro v1 w1 hown hg _ hat
    refine h v1 w1 ?_ hg hat
    unfold Own
    rw [List.length_append, List.flatMap_append]
    exact hown
end
end
/-- A new block that holds one element. -/
theorem RowAt.new {α : Type} {enc : α → List Value} {k : Nat} (w : World) (x : α) (cs : Array Value) (t : TypeId) (h : enc x = cs.toList) : RowAt enc k (w.alloc (.cells cs t)) (some ⟨w.heap.size, 0, none⟩) [x] := by
  refine ⟨by simp, fun _ => ⟨_, rfl, fun i y hy j v hv => ?_⟩⟩
  match i, hy with
  | 0, hy =>
    simp at hy; subst hy
    rw [h] at hv
    rw [Nat.zero_mul, Nat.zero_add]
    have hc : cs[j]? = some v := by simpa using hv
    have hlt : j < cs.size := (Array.getElem?_eq_some_iff.1 hc).1
    by_cases hj : j = 0
    · subst hj
      simp [Addr.add, hc]
    · simp [Addr.add, hj, hc]
  | i + 1, hy => simp at hy
theorem Pk.cells_len (p : Pk) : p.cells.length = 6 := rfl
theorem Pk.cells_one (p : Pk) : ∀ u ∈ p.cells, u.oneCell' = true := by
  intro u hu
  simp only [Pk.cells, List.mem_cons, List.not_mem_nil, or_false] at hu
  rcases hu with rfl | rfl | rfl | rfl | rfl | rfl <;> rfl
end Go.Proofs.Ytckanomabhbkaaa
