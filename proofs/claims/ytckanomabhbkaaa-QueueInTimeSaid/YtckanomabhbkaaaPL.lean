/- A right queue in plain words; what is left of it is right. -/
import Derived.Test.YtckanomabhbkaaaQV
namespace Go.Proofs.Ytckanomabhbkaaa
open Go.RowKit
set_option linter.unusedVariables false

structure Ok (L : Int) (l : List Pk) : Prop where
  lo : 1 ≤ L
  hi : L ≤ 64
  len : (l.length : Int) ≤ L
  form : ∀ p ∈ l, pform p = 0
  ids : l.Pairwise (fun a b => a.id ≠ b.id)
  ord : l.Pairwise (fun a b => a.pr ≤ b.pr)
theorem firstErr_zero (l : List Pk) : ∀ (n : Nat) (i : Int), firstErr l n i = 0 ↔ ∀ k : Nat, k < n → errAt l (i + k) = 0
  | 0, i => by simp [firstErr]
  | n + 1, i => by
    rw [firstErr]
    by_cases h : errAt l i = 0
    · rw [if_neg (by simp [h]), firstErr_zero l n (i + 1)]
      constructor
      · intro H k hk
        cases k with
        | zero => simpa using h
        | succ k => have := H k (by omega); rwa [show i + ((k + 1 : Nat) : Int) = i + 1 + k from by omega]
      · intro H k hk
        have := H (k + 1) (by omega)
        rwa [show i + 1 + (k : Int) = i + ((k + 1 : Nat) : Int) from by omega]
    · rw [if_pos h]
      constructor
      · intro H; exact absurd H h
      · intro H; exact absurd (by simpa using H 0 (by omega)) h
theorem errAt_zero {l : List Pk} {i : Int} : errAt l i = 0 ↔ pform (gp l i) = 0 ∧ ¬ idx l (gp l i).id < i ∧ ¬ (0 < i ∧ (gp l i).pr < (gp l (i - 1)).pr) := by
  unfold errAt
  by_cases h1 : pform (gp l i) = 0
  · rw [if_neg (by simp [h1])]
    by_cases h2 : idx l (gp l i).id < i
    · rw [if_pos h2]; simp [h2]
    · rw [if_neg h2]
      by_cases h3 : 0 < i ∧ (gp l i).pr < (gp l (i - 1)).pr
      · rw [if_pos h3]; simp [h3]
      · rw [if_neg h3]; simp only [h1, h2, h3, not_false_eq_true, and_self]
  · rw [if_pos h1]; simp [h1]
theorem chk_of_ok {L : Int} {l : List Pk} (h : Ok L l) : chk L l = 0 := by
  unfold chk
  rw [if_neg (by have := h.lo; have := h.hi; omega), if_neg (by have := h.len; omega), firstErr_zero]
  intro k hk
  rw [Int.zero_add, errAt_zero, gp_elem hk]
  refine ⟨h.form _ (List.getElem_mem _), fun hlt => ?_, fun ⟨h0, hlt⟩ => ?_⟩
  · have h0 : 0 ≤ idx l l[k].id := by
      by_cases hn : idx l l[k].id < 0
      · have := fidx_neg (p := idp l[k].id) hn k (by omega) (by omega)
        rw [gp_elem hk] at this
        simp [idp] at this
      · omega
    have hs := (fidx_spec (p := idp l[k].id) (l := l) h0).1
    have hr := fidx_range (idp l[k].id) l
    obtain ⟨m, hm⟩ : ∃ m : Nat, idx l l[k].id = m := ⟨(idx l l[k].id).toNat, by omega⟩
    have hm' : fidx (idp l[k].id) l = m := hm
    rw [hm', gp_elem (show m < l.length by omega)] at hs
    have := List.pairwise_iff_getElem.1 h.ids m k (by omega) hk (by omega)
    exact this (by simpa [idp] using hs)
  · obtain ⟨m, rfl⟩ : ∃ m, k = m + 1 := ⟨k - 1, by omega⟩
    rw [show ((m + 1 : Nat) : Int) - 1 = m from by omega, gp_elem (by omega)] at hlt
    have := List.pairwise_iff_getElem.1 h.ord m (m + 1) (by omega) hk (by omega)
    omega
theorem ok_of_chk {L : Int} {l : List Pk} (h : chk L l = 0) : Ok L l := by
  have hck := chk_ok h
  have hz : ∀ k : Nat, k < l.length → errAt l k = 0 := by
    unfold chk at h
    rw [if_neg (by omega), if_neg (by omega), firstErr_zero] at h
    intro k hk
    have := h k hk
    rwa [Int.zero_add] at this
  refine ⟨hck.1, hck.2.1, hck.2.2, fun p hp => ?_, ?_, ?_⟩
  · obtain ⟨k, hk, rfl⟩ := List.getElem_of_mem hp
    have := (errAt_zero.1 (hz k hk)).1
    rwa [gp_elem hk] at this
  · rw [List.pairwise_iff_getElem]
    intro i j hi hj hij he
    have h2 := (errAt_zero.1 (hz j hj)).2.1
    rw [gp_elem hj] at h2
    apply h2
    have h0 : 0 ≤ idx l l[j].id := by
      by_cases hn : idx l l[j].id < 0
      · have := fidx_neg (p := idp l[j].id) hn j (by omega) (by omega)
        rw [gp_elem hj] at this
        simp [idp] at this
      · omega
    by_cases hlt : idx l l[j].id < (j : Int)
    · exact hlt
    · have := (fidx_spec (p := idp l[j].id) (l := l) h0).2 i (by omega) (show (i : Int) < idx l l[j].id by omega)
      rw [gp_elem hi] at this
      simp [idp, he] at this
  · rw [List.pairwise_iff_getElem]
    have step : ∀ d i : Nat, (hj : i + d < l.length) → l[i].pr ≤ l[i + d].pr := by
      intro d
      induction d with
      | zero => intro i hj; exact Int.le_refl _
      | succ d ih =>
        intro i hj
        have h1 := ih i (by omega)
        have h3 := (errAt_zero.1 (hz (i + (d + 1)) hj)).2.2
        rw [show ((i + (d + 1) : Nat) : Int) - 1 = (i + d : Nat) from by omega, gp_elem hj, gp_elem (show i + d < l.length by omega)] at h3
        omega
    intro i j hi hj hij
    have := step (j - i) i (by omega)
    have e : i + (j - i) = j := by omega
    simpa only [e] using this
theorem chk_iff {L : Int} {l : List Pk} : chk L l = 0 ↔ Ok L l := ⟨ok_of_chk, chk_of_ok⟩
theorem Ok.sub {L : Int} {l l' : List Pk} (h : Ok L l) (hs : l'.Sublist l) : Ok L l' :=
  ⟨h.lo, h.hi, by have := hs.length_le; have := h.len; omega, fun p hp => h.form p (hs.subset hp), h.ids.sublist hs, h.ord.sublist hs⟩
theorem kept_sub (p : Pk → Bool) (l : List Pk) : (kept p l).Sublist l := List.filter_sublist
theorem cut_sub (l : List Pk) (m : Nat) : (l.take m ++ l.drop (m + 1)).Sublist l := by
  rw [← List.eraseIdx_eq_take_drop_succ]; exact List.eraseIdx_sublist l m
/-- Taking out the packet with an ID is taking out its place. -/
theorem kept_id {l : List Pk} {id : Int} {m : Nat} (hids : l.Pairwise (fun a b => a.id ≠ b.id)) (hm : idx l id = m) (hlt : m < l.length) : kept (idp id) l = l.take m ++ l.drop (m + 1) := by
  have hs := fidx_spec (p := idp id) (l := l) (by show 0 ≤ idx l id; omega)
  have e : fidx (idp id) l = m := hm
  rw [e, gp_elem hlt] at hs
  have hid : l[m].id = id := by simpa [idp] using hs.1
  have hl : l = l.take m ++ l[m] :: l.drop (m + 1) := by
    rw [List.getElem_cons_drop, List.take_append_drop]
  unfold kept
  conv => lhs; rw [hl]
  rw [List.filter_append, List.filter_cons, if_neg (by simp [idp, hid])]
  congr 1
  · rw [List.filter_eq_self]
    intro a ha
    obtain ⟨j, hj, rfl⟩ := List.getElem_of_mem ha
    rw [List.length_take] at hj
    have := hs.2 j (by omega) (by omega)
    rw [gp_elem (by omega)] at this
    rw [List.getElem_take]; simp [this]
  · rw [List.filter_eq_self]
    intro a ha
    obtain ⟨j, hj, rfl⟩ := List.getElem_of_mem ha
    rw [List.length_drop] at hj
    have := List.pairwise_iff_getElem.1 hids m (m + 1 + j) hlt (by omega) (by omega)
    rw [List.getElem_drop]
    simp only [idp, Bool.not_eq_true', beq_eq_false_iff_ne]
    rw [← hid]
    exact fun e => this e.symm
theorem idx_self {l : List Pk} (hids : l.Pairwise (fun a b => a.id ≠ b.id)) {m : Nat} (hlt : m < l.length) : idx l (gp l m).id = m := by
  rw [gp_elem hlt]
  refine idx_hit (by omega) (by omega) (by rw [gp_elem hlt]) fun j h0 h1 => ?_
  rw [gp_elem' h0 (by omega)]
  exact List.pairwise_iff_getElem.1 hids j.toNat m (by omega) hlt (by omega)
theorem srvStep_sub (s d : Int) (x : List Pk × List Dp) : (srvStep s d x).1.Sublist x.1 := by
  unfold srvStep
  split
  · exact kept_sub _ _
  · exact (cut_sub _ _).trans (kept_sub _ _)
theorem srv_sub (fr : Int) (sv : List Int) (l : List Pk) (k : Nat) : (srv fr sv l k).1.Sublist l := by
  induction k with
  | zero => exact List.Sublist.refl _
  | succ k ih => rw [srv]; exact (srvStep_sub _ _ _).trans ih
theorem srv_chk {L : Int} {l : List Pk} (h : chk L l = 0) (fr : Int) (sv : List Int) (k : Nat) : chk L (srv fr sv l k).1 = 0 := chk_iff.2 ((chk_iff.1 h).sub (srv_sub fr sv l k))
theorem kept_chk {L : Int} {l : List Pk} (h : chk L l = 0) (p : Pk → Bool) : chk L (kept p l) = 0 := chk_iff.2 ((chk_iff.1 h).sub (kept_sub p l))
/-- A step of Serve, as the reference takes it. -/
theorem srvStep_ref {L : Int} (s d : Int) (x : List Pk × List Dp) (h : chk L x.1 = 0) : srvStep s d x = if fidx (top d) (kept (staleP s) x.1) < 0 then (kept (staleP s) x.1, x.2 ++ deps s x.1)
    else (kept (idp (gp (kept (staleP s) x.1) (fidx (top d) (kept (staleP s) x.1))).id) (kept (staleP s) x.1), x.2 ++ deps s x.1 ++ [⟨(gp (kept (staleP s) x.1) (fidx (top d) (kept (staleP s) x.1))).id, s, false⟩]) := by
  have hk := chk_iff.1 (kept_chk h (staleP s))
  have hr := fidx_range (top d) (kept (staleP s) x.1)
  unfold srvStep
  by_cases hn : fidx (top d) (kept (staleP s) x.1) < 0
  · rw [if_pos hn, if_pos hn]
  · rw [if_neg hn, if_neg hn]
    obtain ⟨m, hm⟩ : ∃ m : Nat, fidx (top d) (kept (staleP s) x.1) = m := ⟨(fidx (top d) (kept (staleP s) x.1)).toNat, by omega⟩
    rw [hm]
    rw [kept_id hk.ids (idx_self hk.ids (by omega)) (by omega), Int.toNat_natCast]
end Go.Proofs.Ytckanomabhbkaaa
