/- The plain law of parents. -/
import Derived.Test.YtckanomabhbkaaaRT
import Derived.Test.YtckanomabhbkaaaRU
namespace Go.Proofs.Ytckanomabhbkaaa
open Go.RowKit Go.Shelf
set_option linter.unusedVariables false
theorem way_less {l : List Rp} : ∀ (k : Nat) (n : Int) (vis : List Int), 0 ∈ wayF l k n vis → ∀ (K : Nat) (vis' : List Int), k ≤ K → (∀ x ∈ vis', x ∈ vis) → wayF l K n vis' = wayF l k n vis
  | 0, n, vis, h, _, _, _, _ => by simp [wayF] at h
  | k + 1, n, vis, h, K, vis', hK, hv => by
    obtain ⟨K, rfl⟩ : ∃ K', K = K' + 1 := ⟨K - 1, by omega⟩
    by_cases hc : nodeB n = false ∨ n ∈ vis
    · rw [wayF_end hc] at h; simp at h
    · simp only [not_or, Bool.not_eq_false] at hc
      rw [wayF_new hc.1 hc.2] at h ⊢
      rw [wayF_new hc.1 (fun hm => hc.2 (hv n hm))]
      by_cases h0 : n = 0 ∨ rhas l n = false
      · rw [if_pos h0, if_pos h0]
      · rw [if_neg h0] at h ⊢
        rw [if_neg h0]
        rw [List.mem_cons] at h
        rcases h with h | h
        · exact absurd (.inl h.symm) h0
        · rw [way_less k _ _ h K (n :: vis') (by omega) (fun x hx => by
            rw [List.mem_cons] at hx ⊢
            rcases hx with hx | hx
            · exact .inl hx
            · exact .inr (hv x hx))]
theorem way_suffix {l : List Rp} : ∀ (k : Nat) (n : Int) (vis : List Int), 0 ∈ wayF l k n vis → ∀ (j : Nat) (hj : j < (wayF l k n vis).length), ∀ K, k ≤ K → wayF l K (wayF l k n vis)[j] [] = (wayF l k n vis).drop j
  | 0, n, vis, h, _, _, _, _ => by simp [wayF] at h
  | k + 1, n, vis, h, j, hj, K, hK => by
    by_cases hc : nodeB n = false ∨ n ∈ vis
    · rw [wayF_end hc] at h; simp at h
    · have hl := way_less (k + 1) n vis h K [] hK (by simp)
      simp only [not_or, Bool.not_eq_false] at hc
      have hw := wayF_new (l := l) (k := k) hc.1 hc.2
      cases j with
      | zero =>
        rw [List.drop_zero]
        have : (wayF l (k + 1) n vis)[0] = n := by simp only [hw]; rfl
        rw [this]; exact hl
      | succ j =>
        by_cases h0 : n = 0 ∨ rhas l n = false
        · rw [if_pos h0] at hw
          rw [hw] at hj; simp at hj
        · rw [if_neg h0] at hw
          have h2 : 0 ∈ wayF l k (gr l (rpos l n)).parent (n :: vis) := by
            rw [hw, List.mem_cons] at h
            rcases h with h | h
            · exact absurd (.inl h.symm) h0
            · exact h
          have hj2 : j < (wayF l k (gr l (rpos l n)).parent (n :: vis)).length := by rw [hw] at hj; simpa using hj
          have := way_suffix k _ _ h2 j hj2 K (by omega)
          simp only [hw, List.getElem_cons_succ, List.drop_succ_cons]
          exact this
/-- One step of the way: from a node to its reported parent. -/
theorem way_step {l : List Rp} (hl : Rok l) : ∀ (k : Nat) (n : Int) (vis : List Int) (j : Nat) (hj : j + 1 < (wayF l k n vis).length), ∃ x ∈ l, x.node = (wayF l k n vis)[j] ∧ x.parent = (wayF l k n vis)[j + 1]
  | 0, n, vis, j, hj => by simp [wayF] at hj
  | k + 1, n, vis, j, hj => by
    by_cases hc : nodeB n = false ∨ n ∈ vis
    · rw [wayF_end hc] at hj; simp at hj
    · simp only [not_or, Bool.not_eq_false] at hc
      have hw := wayF_new (l := l) (k := k) hc.1 hc.2
      by_cases h0 : n = 0 ∨ rhas l n = false
      · rw [if_pos h0] at hw
        rw [hw] at hj; simp at hj
      · rw [if_neg h0] at hw
        have hj2 : j < (wayF l k (gr l (rpos l n)).parent (n :: vis)).length := by rw [hw] at hj; simpa using hj
        simp only [not_or, Bool.not_eq_false] at h0
        obtain ⟨x, hx, hxn⟩ := (rhas_iff hl n).1 h0.2
        cases j with
        | zero =>
          refine ⟨x, hx, by simp only [hw]; exact hxn, ?_⟩
          simp only [hw, List.getElem_cons_succ]
          have hp : gr l (rpos l n) = x := by rw [← hxn]; exact gr_the hl hx
          obtain ⟨k2, hk2⟩ : ∃ k2, k = k2 + 1 := by
            cases k with
            | zero => simp [wayF] at hj2
            | succ k2 => exact ⟨k2, rfl⟩
          subst hk2
          by_cases hc2 : nodeB (gr l (rpos l n)).parent = false ∨ (gr l (rpos l n)).parent ∈ n :: vis
          · rw [wayF_end hc2] at hj2; simp at hj2
          · simp only [not_or, Bool.not_eq_false] at hc2
            have hw2 := wayF_new (l := l) (k := k2) hc2.1 hc2.2
            simp only [hp] at hw2 ⊢
            simp only [hw2, List.getElem_cons_zero]
        | succ j =>
          have := way_step hl k (gr l (rpos l n)).parent (n :: vis) j (by omega)
          simp only [hw, List.getElem_cons_succ]
          exact this
theorem route_zero {l : List Rp} {n : Int} (h : routeL l n ≠ []) : 0 ∈ wayL l n := by
  obtain ⟨h1, _, _, _, _, h5⟩ := routeL_prop h
  rw [← List.mem_reverse, ← h1]
  cases hq : routeL l n with
  | nil => exact absurd hq h
  | cons a t => rw [hq] at h5; simp at h5; rw [h5]; simp
/-- The nodes of a route are reachable. -/
theorem route_reach {l : List Rp} {n : Int} (h : routeL l n ≠ []) {i : Nat} (hi : i < (routeL l n).length) : routeL l ((routeL l n).getD i 0) ≠ [] := by
  obtain ⟨h1, h2, _, _, h4, h5⟩ := routeL_prop h
  have hlen : (routeL l n).length = (wayL l n).length := by rw [h1, List.length_reverse]
  have hj : (wayL l n).length - 1 - i < (wayL l n).length := by omega
  have hg : (routeL l n).getD i 0 = (wayL l n)[(wayL l n).length - 1 - i] := by
    rw [List.getD_eq_getElem?_getD, List.getElem?_eq_getElem hi]
    simp only [h1, Option.getD_some]
    rw [List.getElem_reverse]
  have hs : wayL l ((wayL l n)[(wayL l n).length - 1 - i]) = (wayL l n).drop ((wayL l n).length - 1 - i) := way_suffix 33 n [] (route_zero h) _ hj 33 (Nat.le_refl _)
  rw [hg]
  have hne : ((wayL l n).drop ((wayL l n).length - 1 - i)).reverse ≠ [] := by
    intro e
    have := congrArg List.length e
    rw [List.length_reverse, List.length_drop] at this
    simp at this; omega
  have hhd : ((wayL l n).drop ((wayL l n).length - 1 - i)).reverse.headD 1 = 0 := by
    rw [List.reverse_drop, ← h1]
    rw [show (wayL l n).length - ((wayL l n).length - 1 - i) = i + 1 from by omega]
    cases hq : routeL l n with
    | nil => exact absurd hq h
    | cons a t => rw [hq] at h5; exact h5
  unfold routeL
  rw [hs, if_neg]
  · exact hne
  · rintro (h | h | h)
    · exact hne h
    · exact h hhd
    · rw [List.length_reverse, List.length_drop] at h; omega
/-- Each node of a route but the first has the one before as its parent. -/
theorem route_parent {l : List Rp} (hl : Rok l) {n : Int} (h : routeL l n ≠ []) {i : Nat} (hi : i + 1 < (routeL l n).length) : ∃ x ∈ l, x.node = (routeL l n).getD (i + 1) 0 ∧ x.parent = (routeL l n).getD i 0 := by
  obtain ⟨h1, _⟩ := routeL_prop h
  have hlen : (routeL l n).length = (wayL l n).length := by rw [h1, List.length_reverse]
  obtain ⟨x, hx, e1, e2⟩ := way_step hl 33 n [] ((wayL l n).length - 1 - (i + 1)) (by show _ < (wayL l n).length; omega)
  refine ⟨x, hx, ?_, ?_⟩
  · rw [e1, List.getD_eq_getElem?_getD, List.getElem?_eq_getElem hi]
    simp only [h1, Option.getD_some]
    rw [List.getElem_reverse]
    rfl
  · rw [e2, List.getD_eq_getElem?_getD, List.getElem?_eq_getElem (show i < (routeL l n).length by omega)]
    simp only [h1, Option.getD_some]
    rw [List.getElem_reverse]
    have hidx : (wayL l n).length - 1 - (i + 1) + 1 = (wayL l n).length - 1 - i := by omega
    show (wayL l n)[(wayL l n).length - 1 - (i + 1) + 1]'_ = _
    simp only [hidx]
theorem route_last {l : List Rp} {n : Int} (h : routeL l n ≠ []) : (routeL l n).getD ((routeL l n).length - 1) 0 = n := by
  obtain ⟨h1, _, _, h3, _⟩ := routeL_prop h
  have hlen : (routeL l n).length = (wayL l n).length := by rw [h1, List.length_reverse]
  rw [List.getD_eq_getElem?_getD, List.getElem?_eq_getElem (by omega)]
  simp only [h1, Option.getD_some]
  rw [List.getElem_reverse]
  simp only [List.length_reverse]
  have hn : nodeB n = true := by
    cases hb : nodeB n
    · have : wayL l n = [] := wayF_end (.inl hb)
      rw [this] at hlen; simp at hlen; exact absurd hlen h
    · rfl
  obtain ⟨t, ht⟩ := wayL_cons (l := l) hn
  have e0 : (wayL l n).length - 1 - ((wayL l n).length - 1) = 0 := by omega
  have key : ∀ (L : List Int) (k : Nat) (hk : k < L.length), L = n :: t → k = 0 → L[k] = n := by
    intro L k hk hL h0
    subst hL h0
    rfl
  exact key _ _ _ ht e0
end Go.Proofs.Ytckanomabhbkaaa
