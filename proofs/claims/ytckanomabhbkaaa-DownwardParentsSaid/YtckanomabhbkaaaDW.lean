/- Routes: plain words; the program's way and the reference's search agree. -/
import Derived.Test.YtckanomabhbkaaaDE
namespace Go.Proofs.Ytckanomabhbkaaa
open Go.RowKit Go.Shelf
set_option linter.unusedVariables false
theorem node_len : ∀ (m : Nat) (l : List Int), l.Nodup → (∀ x ∈ l, 0 ≤ x ∧ x < m) → l.length ≤ m
  | 0, l, _, h => by
    cases l with
    | nil => simp
    | cons x l => have := h x (by simp); omega
  | m + 1, l, hn, h => by
    by_cases hm : (m : Int) ∈ l
    · have h1 := node_len m (l.erase m) (hn.erase _) (fun x hx => by
        have h2 := (hn.mem_erase_iff).1 hx
        have h3 := h x h2.2
        have := h2.1
        omega)
      rw [List.length_erase_of_mem hm] at h1
      omega
    · have := node_len m l hn (fun x hx => by
        have h3 := h x hx
        have : x ≠ m := fun e => hm (e ▸ hx)
        omega)
      omega
/-- The nodes from a node on, as their parents lead; none of those that are known. -/
def wayF (l : List Rp) : Nat → Int → List Int → List Int
  | 0, _, _ => []
  | k + 1, n, vis => if nodeB n = false ∨ n ∈ vis then [] else
      n :: (if n = 0 ∨ rhas l n = false then [] else wayF l k (gr l (rpos l n)).parent (n :: vis))
def wayL (l : List Rp) (n : Int) : List Int := wayF l 33 n []
/-- The route to a node; empty if there is none. -/
def routeL (l : List Rp) (n : Int) : List Int :=
  if (wayL l n).reverse = [] ∨ (wayL l n).reverse.headD 1 ≠ 0 ∨ 9 < (wayL l n).reverse.length then [] else (wayL l n).reverse
/-- Route's error: 0, 1 (ErrArg), 2 (ErrRange), 17 (ErrNoRoute). -/
def routeE (l : List Rp) (n : Int) : Int := if rchk l ≠ 0 then 1 else if nodeB n = false then 2 else if routeL l n = [] then 17 else 0
def routeA (l : List Rp) (n : Int) : List Int := if routeE l n = 0 then routeL l n else []
/-- The reference's search: the route from the back to the front. -/
def refF (l : List Rp) : Nat → List Int → List Int
  | 0, _ => []
  | k + 1, out => if out.headD 0 = 0 then out else
      if ridx l (out.headD 0) < 0 ∨ (gr l (ridx l (out.headD 0))).parent < 0 ∨ (gr l (ridx l (out.headD 0))).parent ∈ out ∨ 8 < out.length then [] else
        refF l k ((gr l (ridx l (out.headD 0))).parent :: out)
theorem refF_cons (l : List Rp) (k : Nat) (n : Int) (vis : List Int) : refF l (k + 1) (n :: vis) = if n = 0 then n :: vis else
    if ridx l n < 0 ∨ (gr l (ridx l n)).parent < 0 ∨ (gr l (ridx l n)).parent ∈ n :: vis ∨ 8 < (n :: vis).length then [] else refF l k ((gr l (ridx l n)).parent :: n :: vis) := rfl
theorem gr_form {l : List Rp} (h : Rok l) {i : Int} (h0 : 0 ≤ i) (h1 : i < l.length) : rform (gr l i) = 0 := by
  rw [gr_elem' h0 h1]; exact h.form _ (List.getElem_mem _)
theorem rhas_idx {l : List Rp} (h : Rok l) (n : Int) : (rhas l n = false ∧ ridx l n < 0) ∨ (rhas l n = true ∧ 0 ≤ ridx l n ∧ ridx l n < l.length ∧ ridx l n = rpos l n) := by
  by_cases hi : ridx l n < 0
  · exact .inl ⟨rhas_no hi, hi⟩
  · have hr := ridx_range l n
    obtain ⟨h1, h2⟩ := rhas_yes (n := n) h (m := (ridx l n).toNat) (by omega)
    exact .inr ⟨h1, by omega, hr.2, by omega⟩
theorem wayF_new {l : List Rp} {k : Nat} {n : Int} {vis : List Int} (hn : nodeB n = true) (hv : n ∉ vis) : wayF l (k + 1) n vis = n :: (if n = 0 ∨ rhas l n = false then [] else wayF l k (gr l (rpos l n)).parent (n :: vis)) := by
  rw [wayF, if_neg]
  rintro (h1 | h1)
  · rw [hn] at h1; cases h1
  · exact hv h1
theorem wayF_end {l : List Rp} {k : Nat} {n : Int} {vis : List Int} (h : nodeB n = false ∨ n ∈ vis) : wayF l k n vis = [] := by
  cases k with
  | zero => rfl
  | succ k => rw [wayF, if_pos h]
/-- The two searches agree. -/
theorem refF_way {l : List Rp} (h : Rok l) : ∀ (k j : Nat) (n : Int) (vis : List Int), vis.length ≤ 8 → 9 ≤ k + vis.length → 9 < j + vis.length → nodeB n = true → n ∉ vis →
    refF l (k + 1) (n :: vis) = if ((wayF l (j + 1) n vis).reverse ++ vis).headD 1 ≠ 0 ∨ 9 < ((wayF l (j + 1) n vis).reverse ++ vis).length then [] else (wayF l (j + 1) n vis).reverse ++ vis
  | 0, j, n, vis, hl, hk, hj, hn, hv => by omega
  | k + 1, 0, n, vis, hl, hk, hj, hn, hv => by omega
  | k + 1, j + 1, n, vis, hl, hk, hj, hn, hv => by
    have hw := wayF_new (l := l) (k := j + 1) hn hv
    rw [refF_cons]
    by_cases h0 : n = 0
    · subst h0
      rw [if_pos (.inl rfl)] at hw
      rw [hw, if_pos rfl]
      rw [if_neg (by simp; omega)]
      simp
    · rw [if_neg h0]
      rcases rhas_idx h n with ⟨h1, h2⟩ | ⟨h1, h2, h3, h4⟩
      · rw [if_pos (.inr h1)] at hw
        rw [hw, if_pos (.inl h2), if_pos (by simp; exact .inl h0)]
      · rw [if_neg (by simp [h1, h0]), ← h4] at hw
        obtain ⟨p, hp⟩ : ∃ p, (gr l (ridx l n)).parent = p := ⟨_, rfl⟩
        have hf := rform_zero (gr_form h h2 h3)
        rw [hp] at hf hw ⊢
        rw [hw]
        by_cases hc : p < 0 ∨ p ∈ n :: vis
        · rw [if_pos (by rcases hc with hc | hc; exact .inr (.inl hc); exact .inr (.inr (.inl hc)))]
          rw [wayF_end (by
            rcases hc with hc | hc
            · left; rw [nodeB_no]; omega
            · exact .inr hc)]
          rw [if_pos (by simp; exact .inl h0)]
        · have hpn : nodeB p = true := by rw [nodeB_iff]; omega
          by_cases h8 : 8 < (n :: vis).length
          · rw [if_pos (by simp at h8 ⊢; omega)]
            rw [wayF_new hpn (fun a => hc (.inr a)), if_pos (by right; simp at h8 ⊢; omega)]
          · rw [if_neg (by
              rintro (a | a | a | a)
              · omega
              · exact hc (.inl a)
              · exact hc (.inr a)
              · exact h8 a)]
            rw [refF_way h k j p (n :: vis) (by simp at h8 ⊢; omega) (by simp; omega) (by simp; omega) hpn (fun a => hc (.inr a))]
            simp only [List.reverse_cons, List.append_assoc, List.cons_append, List.nil_append]
theorem wayL_cons {l : List Rp} {n : Int} (hn : nodeB n = true) : ∃ t, wayL l n = n :: t := by
  unfold wayL
  rw [wayF_new hn (by simp)]
  exact ⟨_, rfl⟩
theorem refF_route {l : List Rp} (h : Rok l) {n : Int} (hn : nodeB n = true) : refF l 10 [n] = routeL l n := by
  rw [refF_way h 9 32 n [] (by simp) (by simp) (by simp) hn (by simp), List.append_nil]
  show _ = routeL l n
  unfold routeL
  obtain ⟨t, ht⟩ := wayL_cons (l := l) hn
  have hne : ¬ (wayL l n).reverse = [] := by rw [ht]; simp
  show (if (wayL l n).reverse.headD 1 ≠ 0 ∨ 9 < (wayL l n).reverse.length then [] else (wayL l n).reverse) = _
  by_cases hc : (wayL l n).reverse.headD 1 ≠ 0 ∨ 9 < (wayL l n).reverse.length
  · rw [if_pos hc, if_pos (.inr hc)]
  · rw [if_neg hc, if_neg (by rintro (a | a); exact hne a; exact hc a)]
end Go.Proofs.Ytckanomabhbkaaa
