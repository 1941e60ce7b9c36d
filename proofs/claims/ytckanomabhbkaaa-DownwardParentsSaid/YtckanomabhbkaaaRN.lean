/- Plain words for the law on any order; its predicate, walked. -/
import Derived.Test.YtckanomabhbkaaaRM
namespace Go.Proofs.Ytckanomabhbkaaa
open Go.RowKit Go.Shelf
set_option linter.unusedVariables false
set_option maxHeartbeats 1600000 in
theorem pred55_any (P : Nat) (r x : Rp) (W : World) (h : W.heap[P]? = some (.cells #[.int .i64 r.node, .int .i64 r.parent, .int .i64 r.num] 70 (0, 0))) :
    Calls Try.prog 55 #[.agg #[.int .i64 x.node, .int .i64 x.parent, .int .i64 x.num], .pointer (some ⟨P, 0, none⟩)] W fun e w' => e = .returned (.bool (sameKey r x)) ∧ Below W.heap.size W w' := by
  obtain ⟨q0, q1, q2⟩ := box3 h
  have hl := blk_lt h
  have hne : ¬ P = W.heap.size := by omega
  have hu70 := Try.underlying70
  have HB := Lib.hid ((Below.refl W.heap.size W).alloc (Nat.le_refl _) (.cells #[.int .i64 x.node, .int .i64 x.parent, .int .i64 x.num] 70))
  by_cases h1 : x.node = r.node
  · have b1 : (x.node == r.node) = true := by simp [h1]
    obtain ⟨b, hb⟩ : ∃ b, (x.num == r.num) = b := ⟨_, rfl⟩
    have HE := Lib.hid (show sameKey r x = b by unfold sameKey; rw [b1, hb]; rfl)
    clear h1 h
    cases b
    all_goals
      go_enter Try.func55, Try.ntmps55
      go_wp2
      go_ret
      exact ⟨ret_bool HE.out.symm, HB.out⟩
  · have b1 : (x.node == r.node) = false := by simp [h1]
    have HE := Lib.hid (show sameKey r x = false by unfold sameKey; rw [b1]; rfl)
    clear h1 h
    go_enter Try.func55, Try.ntmps55
    go_wp2
    go_ret
    exact ⟨ret_bool HE.out.symm, HB.out⟩
theorem own_next {l : List Rp} {i : Nat} (h : i < l.length) : ownL (l.take (i + 1)) = if (ownL (l.take i)).any (sameKey (gr l i)) = true then ownL (l.take i) else ownL (l.take i) ++ [gr l i] := by
  rw [List.take_succ_eq_append_getElem h, own_snoc, gr_elem h]
/-- The same reports. -/
def SameR (a b : List Rp) : Prop := ∀ x, x ∈ a ↔ x ∈ b
theorem SameR.again {a b : List Rp} (h : SameR a b) {x : Rp} (hx : x ∈ a) : SameR a (b ++ [x]) := fun y => by
  rw [List.mem_append, List.mem_singleton, ← h y]
  constructor
  · exact .inl
  · rintro (h | rfl)
    · exact h
    · exact hx
theorem swap_mem {b : List Rp} {i k : Nat} (hi : i < b.length) (hk : k < b.length) : ∀ y, y ∈ (b.set i (gr b k)).set k (gr b i) ↔ y ∈ b := by
  intro y
  rw [gr_elem hi, gr_elem hk]
  constructor
  · intro hy
    obtain ⟨t, ht, rfl⟩ := List.getElem_of_mem hy
    rw [List.length_set, List.length_set] at ht
    rw [List.getElem_set]
    split
    · exact List.getElem_mem _
    · rw [List.getElem_set]
      split
      · exact List.getElem_mem _
      · exact List.getElem_mem _
  · intro hy
    obtain ⟨t, ht, rfl⟩ := List.getElem_of_mem hy
    by_cases e1 : t = i
    · subst e1
      exact List.mem_iff_getElem.2 ⟨k, by rw [List.length_set, List.length_set]; exact hk, by rw [List.getElem_set_self]⟩
    · by_cases e2 : t = k
      · subst e2
        by_cases e3 : i = t
        · exact absurd e3.symm e1
        · exact List.mem_iff_getElem.2 ⟨i, by rw [List.length_set, List.length_set]; exact hi, by rw [List.getElem_set, if_neg (fun e => e3 e.symm), List.getElem_set_self]⟩
      · exact List.mem_iff_getElem.2 ⟨t, by rw [List.length_set, List.length_set]; exact ht, by rw [List.getElem_set, if_neg (fun e => e2 e.symm), List.getElem_set, if_neg (fun e => e1 e.symm)]⟩
theorem SameR.swap {a b : List Rp} (h : SameR a b) {i k : Nat} (hi : i < b.length) (hk : k < b.length) : SameR a ((b.set i (gr b k)).set k (gr b i)) := fun y => by rw [h y, swap_mem hi hk]
end Go.Proofs.Ytckanomabhbkaaa
