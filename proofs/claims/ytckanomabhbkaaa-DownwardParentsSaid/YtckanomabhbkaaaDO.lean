/- Put, said of the reports of a list; taking in reports in any order. -/
import Derived.Test.YtckanomabhbkaaaDW
namespace Go.Proofs.Ytckanomabhbkaaa
open Go.RowKit Go.Shelf
set_option linter.unusedVariables false
theorem rhas_mem {l : List Rp} {n : Int} (h : rhas l n = true) : rpos l n < l.length ∧ (gr l (rpos l n)).node = n := by
  unfold rhas at h
  simpa using h
theorem rpos_split {l : List Rp} {n : Int} : (∀ x ∈ l.take (rpos l n), x.node < n) ∧ (rpos l n < l.length → ¬ (gr l (rpos l n)).node < n) := by
  constructor
  · intro x hx
    have e : l.take (rpos l n) = l.takeWhile (fun r => decide (r.node < n)) := by
      unfold rpos
      exact (List.prefix_iff_eq_take.1 (List.takeWhile_prefix _)).symm
    rw [e] at hx
    simpa using List.all_eq_true.1 (List.all_takeWhile (p := fun r : Rp => decide (r.node < n)) (l := l)) x hx
  · intro h hlt
    unfold rpos at h hlt
    have hd : l.drop (l.takeWhile (fun r => decide (r.node < n))).length = l.dropWhile (fun r => decide (r.node < n)) := by
      have := List.takeWhile_append_dropWhile (p := fun r : Rp => decide (r.node < n)) (l := l)
      conv => lhs; arg 2; rw [← this]
      rw [List.drop_left]
    rw [gr_elem h] at hlt
    rw [List.drop_eq_getElem_cons h] at hd
    have := List.head?_dropWhile_not (fun r : Rp => decide (r.node < n)) l
    rw [← hd, List.head?_cons] at this
    simp only [decide_eq_false_iff_not] at this
    first | exact this hlt | (simp at this; omega)
theorem rpos_after {l : List Rp} (h : Rok l) {n : Int} : ∀ x ∈ l.drop (rpos l n), n ≤ x.node := by
  intro x hx
  obtain ⟨k, hk, rfl⟩ := List.getElem_of_mem hx
  rw [List.length_drop] at hk
  rw [List.getElem_drop]
  have h1 := (rpos_split (l := l) (n := n)).2 (by omega)
  rw [gr_elem (by omega)] at h1
  by_cases h0 : k = 0
  · subst h0; simp only [Nat.add_zero]; omega
  · have := List.pairwise_iff_getElem.1 h.inc (rpos l n) (rpos l n + k) (by omega) (by omega) (by omega)
    omega
/-- Two right lists with the same reports are the same list. -/
theorem rok_ext {a b : List Rp} (ha : a.Pairwise (fun x y => x.node < y.node)) (hb : b.Pairwise (fun x y => x.node < y.node)) (h : ∀ x, x ∈ a ↔ x ∈ b) : a = b := by
  induction a generalizing b with
  | nil =>
    cases b with
    | nil => rfl
    | cons y b => have := (h y).2 (by simp); simp at this
  | cons x a ih =>
    cases b with
    | nil => have := (h x).1 (by simp); simp at this
    | cons y b =>
      rw [List.pairwise_cons] at ha hb
      have e : x = y := by
        have h1 := (h x).1 (by simp)
        have h2 := (h y).2 (by simp)
        rw [List.mem_cons] at h1 h2
        rcases h1 with h1 | h1
        · exact h1
        · rcases h2 with h2 | h2
          · exact h2.symm
          · have := hb.1 _ h1; have := ha.1 _ h2; omega
      subst e
      congr 1
      refine ih ha.2 hb.2 fun z => ?_
      constructor
      · intro hz
        have h1 := (h z).1 (by simp [hz])
        rw [List.mem_cons] at h1
        rcases h1 with rfl | h1
        · have := ha.1 _ hz; omega
        · exact h1
      · intro hz
        have h1 := (h z).2 (by simp [hz])
        rw [List.mem_cons] at h1
        rcases h1 with rfl | h1
        · have := hb.1 _ hz; omega
        · exact h1
theorem inc_inj {l : List Rp} (h : l.Pairwise (fun x y => x.node < y.node)) {x y : Rp} (hx : x ∈ l) (hy : y ∈ l) (e : x.node = y.node) : x = y := by
  induction l with
  | nil => simp at hx
  | cons z l ih =>
    rw [List.pairwise_cons] at h
    rw [List.mem_cons] at hx hy
    rcases hx with rfl | hx <;> rcases hy with rfl | hy
    · rfl
    · have := h.1 _ hy; omega
    · have := h.1 _ hx; omega
    · exact ih h.2 hx hy
/-- Put, said of its reports. -/
theorem put_mem {l : List Rp} (h : Rok l) {r : Rp} (hr : rform r = 0) : Rok (rputL l r) ∧ ∀ x, x ∈ rputL l r ↔ (x = r ∧ ∀ y ∈ l, y.node = r.node → y.num < r.num) ∨ (x ∈ l ∧ (x.node = r.node → r.num ≤ x.num)) := by
  have hE : rputE l r = 0 := by unfold rputE; rw [if_neg (by rw [rchk_iff.2 h]; simp), hr]
  unfold rputL
  rw [if_neg (by rw [hE]; simp)]
  cases hh : rhas l r.node
  · rw [if_pos rfl]
    have hno : ∀ y ∈ l, y.node ≠ r.node := by
      rcases rhas_idx h r.node with ⟨_, h2⟩ | ⟨h1, _⟩
      · intro y hy
        obtain ⟨k, hk, rfl⟩ := List.getElem_of_mem hy
        have := ridx_neg h2 k (by omega) (by omega)
        rwa [gr_elem hk] at this
      · rw [hh] at h1; cases h1
    have hsp := (rpos_split (l := l) (n := r.node)).1
    have haf := rpos_after h (n := r.node)
    have hlist : l.take (rpos l r.node) ++ l.drop (rpos l r.node) = l := List.take_append_drop _ _
    have hmem : ∀ x, x ∈ l ↔ x ∈ l.take (rpos l r.node) ∨ x ∈ l.drop (rpos l r.node) := fun x => by rw [← List.mem_append, hlist]
    have hinc := h.inc
    rw [← hlist, List.pairwise_append] at hinc
    refine ⟨⟨fun x hx => ?_, ?_⟩, fun x => ?_⟩
    · rw [List.mem_append, List.mem_cons] at hx
      rcases hx with hx | rfl | hx
      · exact h.form _ ((hmem x).2 (.inl hx))
      · exact hr
      · exact h.form _ ((hmem x).2 (.inr hx))
    · rw [List.pairwise_append, List.pairwise_cons]
      refine ⟨hinc.1, ⟨fun y hy => ?_, hinc.2.1⟩, fun a ha b hb => ?_⟩
      · have h1 := haf y hy
        have h2 := hno y ((hmem y).2 (.inr hy))
        omega
      · rw [List.mem_cons] at hb
        rcases hb with rfl | hb
        · exact hsp a ha
        · exact hinc.2.2 a ha b hb
    · rw [List.mem_append, List.mem_cons, hmem x]
      constructor
      · rintro (hx | rfl | hx)
        · exact .inr ⟨.inl hx, fun e => absurd e (hno x ((hmem x).2 (.inl hx)))⟩
        · exact .inl ⟨rfl, fun y hy e => absurd e (hno y hy)⟩
        · exact .inr ⟨.inr hx, fun e => absurd e (hno x ((hmem x).2 (.inr hx)))⟩
      · rintro (⟨rfl, _⟩ | ⟨hx | hx, _⟩)
        · exact .inr (.inl rfl)
        · exact .inl hx
        · exact .inr (.inr hx)
  · rw [if_neg (by simp)]
    obtain ⟨hp, hn⟩ := rhas_mem hh
    rw [gr_elem hp] at hn ⊢
    have hin : l[rpos l r.node] ∈ l := List.getElem_mem _
    by_cases hnum : r.num ≤ l[rpos l r.node].num
    · rw [if_pos hnum]
      refine ⟨h, fun x => ?_⟩
      constructor
      · intro hx
        exact .inr ⟨hx, fun e => by rw [inc_inj h.inc hx hin (by omega)]; exact hnum⟩
      · rintro (⟨rfl, hy⟩ | ⟨hx, _⟩)
        · have := hy _ hin hn; omega
        · exact hx
    · rw [if_neg hnum]
      obtain ⟨p, hpp⟩ : ∃ p, rpos l r.node = p := ⟨_, rfl⟩
      simp only [hpp] at hp hn hin hnum ⊢
      have hget : ∀ (i : Nat) (hi : i < l.length), i ≠ p → l[i].node ≠ r.node := by
        intro i hi hne e
        have h1 := List.pairwise_iff_getElem.1 h.inc
        by_cases hlt : i < p
        · have := h1 i p hi hp hlt; omega
        · have := h1 p i hp hi (by omega); omega
      refine ⟨⟨fun x hx => ?_, ?_⟩, fun x => ?_⟩
      · obtain ⟨k, hk, rfl⟩ := List.getElem_of_mem hx
        rw [List.getElem_set]
        split
        · exact hr
        · exact h.form _ (List.getElem_mem _)
      · rw [List.pairwise_iff_getElem]
        intro i j hi hj hij
        rw [List.length_set] at hi hj
        have h1 := List.pairwise_iff_getElem.1 h.inc i j hi hj hij
        rw [List.getElem_set, List.getElem_set]
        split <;> split <;> rename_i e1 e2
        · omega
        · subst e1; omega
        · subst e2; omega
        · exact h1
      · constructor
        · intro hx
          obtain ⟨k, hk, rfl⟩ := List.getElem_of_mem hx
          rw [List.length_set] at hk
          rw [List.getElem_set]
          by_cases e1 : p = k
          · rw [if_pos e1]
            exact .inl ⟨rfl, fun y hy e => by rw [inc_inj h.inc hy hin (by omega)]; omega⟩
          · rw [if_neg e1]
            exact .inr ⟨List.getElem_mem _, fun e => absurd e (hget k hk (fun e => e1 e.symm))⟩
        · rintro (⟨rfl, hy⟩ | ⟨hx, hq⟩)
          · exact List.mem_iff_getElem.2 ⟨p, by rw [List.length_set]; omega, by rw [List.getElem_set_self]⟩
          · obtain ⟨k, hk, rfl⟩ := List.getElem_of_mem hx
            by_cases e1 : p = k
            · subst e1
              have := hq hn; omega
            · have : (l.set p r)[k]'(by rw [List.length_set]; exact hk) = l[k] := by rw [List.getElem_set, if_neg e1]
              rw [← this]; exact List.getElem_mem _
/-- Taking in some reports, those without their form left out. -/
def tkStep (out : List Rp) (r : Rp) : List Rp := if rputE out r = 0 then rputL out r else out
def takeL (l : List Rp) : List Rp := l.foldl tkStep []
theorem rok_nil : Rok [] := ⟨by simp, by simp⟩
theorem tk_step {out : List Rp} (h : Rok out) (r : Rp) : tkStep out r = if rform r = 0 then rputL out r else out := by
  have : rputE out r = rform r := by unfold rputE; rw [if_neg (by rw [rchk_iff.2 h]; simp)]
  unfold tkStep
  rw [this]
theorem take_snoc (l : List Rp) (r : Rp) : takeL (l ++ [r]) = tkStep (takeL l) r := by simp [takeL]
/-- No two of one node with one number differ. -/
def Uniq (l : List Rp) : Prop := ∀ x ∈ l, ∀ y ∈ l, x.node = y.node → x.num = y.num → x = y
theorem rev_ind {α : Type} {P : List α → Prop} (h0 : P []) (h1 : ∀ l x, P l → P (l ++ [x])) (l : List α) : P l := by
  have : ∀ l : List α, P l.reverse := by
    intro l
    induction l with
    | nil => exact h0
    | cons x l ih => rw [List.reverse_cons]; exact h1 _ _ ih
  have h := this l.reverse
  rwa [List.reverse_reverse] at h
theorem take_rok (l : List Rp) : Rok (takeL l) := by
  induction l using rev_ind with
  | h0 => exact rok_nil
  | h1 l x ih =>
    rw [take_snoc, tk_step ih]
    split
    · rename_i h; exact (put_mem ih h).1
    · exact ih
theorem take_sub (l : List Rp) : (∀ x ∈ takeL l, x ∈ l ∧ rform x = 0) ∧ ∀ y ∈ l, rform y = 0 → ∃ b ∈ takeL l, b.node = y.node ∧ y.num ≤ b.num := by
  induction l using rev_ind with
  | h0 => exact ⟨by intro x hx; simp [takeL] at hx, by intro y hy; simp at hy⟩
  | h1 l r ih =>
    have hok := take_rok l
    rw [take_snoc, tk_step hok]
    by_cases hf : rform r = 0
    · rw [if_pos hf]
      have hm := (put_mem hok hf).2
      refine ⟨fun x hx => ?_, fun y hy hyf => ?_⟩
      · rw [hm x] at hx
        rcases hx with ⟨rfl, _⟩ | ⟨hx, _⟩
        · exact ⟨by simp, hf⟩
        · have := ih.1 x hx
          exact ⟨by simp [this.1], this.2⟩
      · -- the new one is there, or one that is not older
        have hr : ∃ b ∈ rputL (takeL l) r, b.node = r.node ∧ r.num ≤ b.num := by
          by_cases hall : ∀ y ∈ takeL l, y.node = r.node → y.num < r.num
          · exact ⟨r, (hm r).2 (.inl ⟨rfl, hall⟩), rfl, Int.le_refl _⟩
          · simp only [Classical.not_forall] at hall
            obtain ⟨b, hb, hbn, hbm⟩ := hall
            exact ⟨b, (hm b).2 (.inr ⟨hb, fun _ => by omega⟩), hbn, by omega⟩
        rw [List.mem_append, List.mem_singleton] at hy
        rcases hy with hy | rfl
        · obtain ⟨b, hb, hbn, hbm⟩ := ih.2 y hy hyf
          by_cases hk : b.node = r.node → r.num ≤ b.num
          · exact ⟨b, (hm b).2 (.inr ⟨hb, hk⟩), hbn, hbm⟩
          · simp only [Classical.not_imp] at hk
            obtain ⟨c, hc, hcn, hcm⟩ := hr
            exact ⟨c, hc, by omega, by omega⟩
        · exact hr
    · rw [if_neg hf]
      refine ⟨fun x hx => ?_, fun y hy hyf => ?_⟩
      · have := ih.1 x hx
        exact ⟨by simp [this.1], this.2⟩
      · rw [List.mem_append, List.mem_singleton] at hy
        rcases hy with hy | rfl
        · exact ih.2 y hy hyf
        · exact absurd hyf hf
theorem take_mem (l : List Rp) (hu : Uniq l) : ∀ x, x ∈ takeL l ↔ x ∈ l ∧ rform x = 0 ∧ ∀ y ∈ l, rform y = 0 → y.node = x.node → y.num ≤ x.num := by
  intro x
  have hs := take_sub l
  constructor
  · intro hx
    have h1 := hs.1 x hx
    refine ⟨h1.1, h1.2, fun y hy hyf e => ?_⟩
    obtain ⟨b, hb, hbn, hbm⟩ := hs.2 y hy hyf
    rw [← inc_inj (take_rok l).inc hb hx (by omega)]; exact hbm
  · rintro ⟨hx, hxf, hmax⟩
    obtain ⟨b, hb, hbn, hbm⟩ := hs.2 x hx hxf
    have hb1 := hs.1 b hb
    have := hmax b hb1.1 hb1.2 hbn
    rw [← hu b hb1.1 x hx hbn (by omega)]; exact hb
/-- Two rows of the same reports lead to the same list. -/
theorem take_same {a b : List Rp} (hu : Uniq a) (h : ∀ x, x ∈ a ↔ x ∈ b) : takeL a = takeL b := by
  have hub : Uniq b := fun x hx y hy => hu x ((h x).2 hx) y ((h y).2 hy)
  refine rok_ext (take_rok a).inc (take_rok b).inc fun x => ?_
  rw [take_mem a hu, take_mem b hub, h x]
  constructor <;> rintro ⟨h1, h2, h3⟩ <;> refine ⟨h1, h2, fun y hy => h3 y ?_⟩
  · exact (h y).2 hy
  · exact (h y).1 hy
/-- The first of each node and number. -/
def sameKey (r : Rp) (x : Rp) : Bool := x.node == r.node && x.num == r.num
def ownL (l : List Rp) : List Rp := l.foldl (fun own r => if own.any (sameKey r) = true then own else own ++ [r]) []
theorem own_snoc (l : List Rp) (r : Rp) : ownL (l ++ [r]) = if (ownL l).any (sameKey r) = true then ownL l else ownL l ++ [r] := by simp [ownL]
theorem own_uniq (l : List Rp) : Uniq (ownL l) := by
  induction l using rev_ind with
  | h0 => intro x hx; simp [ownL] at hx
  | h1 l r ih =>
    rw [own_snoc]
    by_cases h : (ownL l).any (sameKey r) = true
    · rw [if_pos h]; exact ih
    · rw [if_neg h]
      have hno : ∀ x ∈ ownL l, x.node = r.node → x.num = r.num → False := by
        intro x hx e1 e2
        exact h (List.any_eq_true.2 ⟨x, hx, by simp [sameKey, e1, e2]⟩)
      intro x hx y hy e1 e2
      rw [List.mem_append, List.mem_singleton] at hx hy
      rcases hx with hx | rfl <;> rcases hy with hy | rfl
      · exact ih x hx y hy e1 e2
      · exact absurd e2 (fun e2 => hno x hx e1 e2)
      · exact absurd e2 (fun e2 => hno y hy e1.symm e2.symm)
      · rfl
theorem own_len (l : List Rp) : (ownL l).length ≤ l.length := by
  induction l using rev_ind with
  | h0 => simp [ownL]
  | h1 l r ih =>
    rw [own_snoc]
    split
    · simp; omega
    · simp; omega
end Go.Proofs.Ytckanomabhbkaaa
