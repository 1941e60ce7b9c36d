/- When packets leave a queue, in plain words: in the order of the queue, not stale, within the bound. -/
import Derived.Test.YtckanomabhbkaaaPK
import Derived.Test.YtckanomabhbkaaaQB
namespace Go.Proofs.Ytckanomabhbkaaa
open Go.RowKit List
set_option linter.unusedVariables false
theorem srv_next (fr : Int) (sv : List Int) (l : List Pk) (k : Nat) : srv fr sv l (k + 1) = srvStep (fr + k) (sv.getD k 0) (srv fr sv l k) := rfl
theorem mem_idsD {D : List Dp} {k : Int} : k ∈ idsD D ↔ ∃ d ∈ D, d.id = k := by unfold idsD; rw [List.mem_map]
theorem mem_idsOf {l : List Pk} {k : Int} : k ∈ idsOf l ↔ ∃ p ∈ l, p.id = k := by unfold idsOf; rw [List.mem_map]
/-- A departure of a step: an earlier one, a dropped one, or the served one. -/
theorem srvStep_mem {s d : Int} {x : List Pk × List Dp} {e : Dp} (h : e ∈ (srvStep s d x).2) :
    e ∈ x.2 ∨ (e.slot = s ∧ e.dropped = true ∧ e ∈ deps s x.1) ∨ ∃ m : Nat, fidx (top d) (kept (staleP s) x.1) = m ∧ m < (kept (staleP s) x.1).length ∧ e = ⟨(gp (kept (staleP s) x.1) m).id, s, false⟩ := by
  have hr := fidx_range (top d) (kept (staleP s) x.1)
  have hdep : ∀ e ∈ deps s x.1, e.slot = s ∧ e.dropped = true := fun e he => by
    unfold deps at he
    obtain ⟨p, _, rfl⟩ := List.mem_map.1 he
    exact ⟨rfl, rfl⟩
  unfold srvStep at h
  by_cases hn : fidx (top d) (kept (staleP s) x.1) < 0
  · rw [if_pos hn] at h
    rcases List.mem_append.1 h with h | h
    · exact .inl h
    · exact .inr (.inl ⟨(hdep e h).1, (hdep e h).2, h⟩)
  · rw [if_neg hn] at h
    obtain ⟨m, hm⟩ : ∃ m : Nat, fidx (top d) (kept (staleP s) x.1) = m := ⟨(fidx (top d) (kept (staleP s) x.1)).toNat, by omega⟩
    rw [hm] at h
    rcases List.mem_append.1 h with h | h
    · rcases List.mem_append.1 h with h | h
      · exact .inl h
      · exact .inr (.inl ⟨(hdep e h).1, (hdep e h).2, h⟩)
    · rw [List.mem_singleton] at h
      exact .inr (.inr ⟨m, hm, by omega, h⟩)
theorem srvStep_old {s d : Int} {x : List Pk × List Dp} {e : Dp} (h : e ∈ x.2 ∨ e ∈ deps s x.1) : e ∈ (srvStep s d x).2 := by
  unfold srvStep
  split
  · exact List.mem_append.2 h
  · exact List.mem_append_left _ (List.mem_append.2 h)
theorem srv_mono {fr : Int} {sv : List Int} {l : List Pk} {k n : Nat} (h : k ≤ n) {e : Dp} (he : e ∈ (srv fr sv l k).2) : e ∈ (srv fr sv l n).2 := by
  induction n with
  | zero => obtain rfl : k = 0 := by omega
            exact he
  | succ n ih =>
    by_cases hk : k = n + 1
    · subst hk; exact he
    · rw [srv_next]; exact srvStep_old (.inl (ih (by omega)))
/-- The slots of the departures. -/
theorem srv_slots (fr : Int) (sv : List Int) (l : List Pk) (k : Nat) : ∀ e ∈ (srv fr sv l k).2, fr ≤ e.slot ∧ e.slot < fr + k := by
  induction k with
  | zero => intro e he; cases he
  | succ k ih =>
    intro e he
    rw [srv_next] at he
    rcases srvStep_mem he with h | ⟨h, _⟩ | ⟨m, _, _, rfl⟩
    · have := ih e h; omega
    · omega
    · show fr ≤ fr + k ∧ fr + (k : Int) < fr + ((k + 1 : Nat) : Int); omega
/-- Who is in a right queue with an ID. -/
theorem one_id {l : List Pk} (hids : l.Pairwise (fun a b => a.id ≠ b.id)) {p q : Pk} (hp : p ∈ l) (hq : q ∈ l) (h : p.id = q.id) : p = q := by
  obtain ⟨i, hi, rfl⟩ := List.getElem_of_mem hp
  obtain ⟨j, hj, rfl⟩ := List.getElem_of_mem hq
  have hpw := List.pairwise_iff_getElem.1 hids
  by_cases hij : i = j
  · subst hij; rfl
  · rcases Nat.lt_or_gt_of_ne hij with h1 | h1
    · exact absurd h (hpw i j hi hj h1)
    · exact absurd h.symm (hpw j i hj hi h1)
theorem kept_not_stale {s : Int} {l : List Pk} {p : Pk} (h : p ∈ kept (staleP s) l) : staleB p s = false := by
  unfold kept at h
  rw [List.mem_filter] at h
  simpa [staleP] using h.2
/-- A packet that is served is not stale. -/
theorem srv_fresh {l : List Pk} (hids : l.Pairwise (fun a b => a.id ≠ b.id)) (fr : Int) (sv : List Int) (k : Nat) : ∀ e ∈ (srv fr sv l k).2, e.dropped = false → ∀ p ∈ l, p.id = e.id → staleB p e.slot = false := by
  induction k with
  | zero => intro e he; cases he
  | succ k ih =>
    intro e he hd p hp hid
    rw [srv_next] at he
    rcases srvStep_mem he with h | ⟨_, h, _⟩ | ⟨m, hm, hml, rfl⟩
    · exact ih e h hd p hp hid
    · rw [h] at hd; cases hd
    · have hmem : gp (kept (staleP (fr + k)) (srv fr sv l k).1) m ∈ kept (staleP (fr + k)) (srv fr sv l k).1 := by rw [gp_elem hml]; exact List.getElem_mem _
      have hl := (kept_sub _ _).trans (srv_sub fr sv l k) |>.subset hmem
      have e1 := one_id hids hp hl hid
      rw [e1]
      exact kept_not_stale hmem
/-- What is left is not stale. -/
theorem srv_left {l : List Pk} (fr : Int) (sv : List Int) (k : Nat) {p : Pk} (h : p ∈ (srv fr sv l (k + 1)).1) : staleB p (fr + k) = false := by
  rw [srv_next] at h
  have hs : (srvStep (fr + k) (sv.getD k 0) (srv fr sv l k)).1.Sublist (kept (staleP (fr + k)) (srv fr sv l k).1) := by
    unfold srvStep
    split
    · exact List.Sublist.refl _
    · exact cut_sub _ _
  exact kept_not_stale (hs.subset h)
theorem left_or {l : List Pk} (hids : l.Pairwise (fun a b => a.id ≠ b.id)) (fr : Int) (sv : List Int) (k : Nat) {p : Pk} (hp : p ∈ l) : p ∈ (srv fr sv l k).1 ∨ p.id ∈ idsD (srv fr sv l k).2 := by
  have h := (srv_perm fr sv l k).mem_iff.2 (mem_idsOf.2 ⟨p, hp, rfl⟩)
  rcases List.mem_append.1 h with h | h
  · obtain ⟨q, hq, he⟩ := mem_idsOf.1 h
    rw [one_id hids hp ((srv_sub fr sv l k).subset hq) he.symm]
    exact .inl hq
  · exact .inr h
theorem not_both {L : Int} {l : List Pk} (h : chk L l = 0) (fr : Int) (sv : List Int) (k : Nat) : (idsD (srv fr sv l k).2).Nodup ∧ ∀ p ∈ (srv fr sv l k).1, p.id ∉ idsD (srv fr sv l k).2 := by
  have hnd := (srv_perm fr sv l k).nodup_iff.2 (ok_ids (chk_iff.1 h))
  rw [List.nodup_append] at hnd
  exact ⟨hnd.2.1, fun p hp hd => hnd.2.2 p.id (mem_idsOf.2 ⟨p, hp, rfl⟩) p.id hd rfl⟩
/-- The order of a right queue is kept in what is left of it. -/
theorem idx_inc {l : List Pk} (hids : l.Pairwise (fun a b => a.id ≠ b.id)) : l.Pairwise (fun a b => idx l a.id < idx l b.id) := by
  rw [List.pairwise_iff_getElem]
  intro i j hi hj hij
  have h1 := idx_self hids hi
  have h2 := idx_self hids hj
  rw [gp_elem hi] at h1
  rw [gp_elem hj] at h2
  omega
theorem first_is_first {l K : List Pk} (hids : l.Pairwise (fun a b => a.id ≠ b.id)) (hs : K.Sublist l) {d : Int} {m : Nat} (hm : fidx (top d) K = m) (hml : m < K.length) {q : Pk} (hq : q ∈ K) (hd : q.dst = d) : idx l (gp K m).id ≤ idx l q.id := by
  obtain ⟨a, ha, rfl⟩ := List.getElem_of_mem hq
  have hsp := fidx_spec (p := top d) (l := K) (by omega)
  rw [hm] at hsp
  have hge : m ≤ a := by
    by_cases h : a < m
    · have := hsp.2 a (by omega) (by omega)
      rw [gp_elem ha] at this
      simp [top, hd] at this
    · omega
  rw [gp_elem hml]
  by_cases hma : m = a
  · subst hma; exact Int.le_refl _
  · have := List.pairwise_iff_getElem.1 ((idx_inc hids).sublist hs) m a hml ha (by omega)
    omega
/-- An earlier packet for the same neighbour has left when a later one is served. -/
theorem srv_order {L : Int} {l : List Pk} (hc : chk L l = 0) (fr : Int) (sv : List Int) (k : Nat) : ∀ p ∈ l, ∀ q ∈ l, idx l p.id < idx l q.id → p.dst = q.dst → ∀ e ∈ (srv fr sv l k).2, e.id = q.id → e.dropped = false → ∃ e0 ∈ (srv fr sv l k).2, e0.id = p.id ∧ e0.slot ≤ e.slot := by
  have hids := (chk_iff.1 hc).ids
  induction k with
  | zero => intro p hp q hq _ _ e he; cases he
  | succ k ih =>
    intro p hp q hq hlt hd e he hid hdr
    rw [srv_next] at he ⊢
    rcases srvStep_mem he with h | ⟨_, h, _⟩ | ⟨m, hm, hml, rfl⟩
    · obtain ⟨e0, h0, h1, h2⟩ := ih p hp q hq hlt hd e h hid hdr
      exact ⟨e0, srvStep_old (.inl h0), h1, h2⟩
    · rw [h] at hdr; cases hdr
    · have hsub := (kept_sub (staleP (fr + k)) (srv fr sv l k).1).trans (srv_sub fr sv l k)
      have hmem : gp (kept (staleP (fr + k)) (srv fr sv l k).1) m ∈ kept (staleP (fr + k)) (srv fr sv l k).1 := by rw [gp_elem hml]; exact List.getElem_mem _
      have heq : gp (kept (staleP (fr + k)) (srv fr sv l k).1) m = q := one_id hids (hsub.subset hmem) hq hid
      have htop := (fidx_spec (p := top (sv.getD k 0)) (l := kept (staleP (fr + k)) (srv fr sv l k).1) (by omega)).1
      rw [hm, heq] at htop
      have hqd : q.dst = sv.getD k 0 := by simpa [top] using htop
      have hnot : p ∉ kept (staleP (fr + k)) (srv fr sv l k).1 := fun hin => by
        have := first_is_first hids hsub hm hml hin (hd.trans hqd)
        rw [heq] at this
        omega
      rcases left_or hids fr sv k hp with h | h
      · have hst : p ∈ (srv fr sv l k).1.filter (staleP (fr + k)) := by
          rw [List.mem_filter]
          refine ⟨h, ?_⟩
          by_cases hs : staleP (fr + k) p = true
          · exact hs
          · exact absurd (by unfold kept; rw [List.mem_filter]; exact ⟨h, by simpa using hs⟩) hnot
        refine ⟨⟨p.id, fr + k, true⟩, srvStep_old (.inr ?_), rfl, Int.le_refl _⟩
        unfold deps
        exact List.mem_map.2 ⟨p, hst, rfl⟩
      · obtain ⟨e0, h0, h1⟩ := mem_idsD.1 h
        exact ⟨e0, srvStep_old (.inl h0), h1, by have := (srv_slots fr sv l k e0 h0).2; show e0.slot ≤ fr + k; omega⟩
/-- How many are for d, up to a place of the whole queue. -/
def upTo (l : List Pk) (d i : Int) (K : List Pk) : Nat := (K.filter fun q => q.dst == d && decide (idx l q.id ≤ i)).length
theorem upTo_sub {l K K' : List Pk} {d i : Int} (h : K'.Sublist K) : upTo l d i K' ≤ upTo l d i K := (h.filter _).length_le
theorem upTo_cut {l K : List Pk} {d i : Int} {m : Nat} (hml : m < K.length) (hd : (gp K m).dst = d) (hi : idx l (gp K m).id ≤ i) : upTo l d i (K.take m ++ K.drop (m + 1)) + 1 = upTo l d i K := by
  have hl : K = K.take m ++ K[m] :: K.drop (m + 1) := by rw [List.getElem_cons_drop, List.take_append_drop]
  rw [gp_elem hml] at hd hi
  unfold upTo
  conv => rhs; rw [hl]
  rw [List.filter_append, List.filter_append, List.filter_cons, if_pos (by simp [hd, hi]), List.length_append, List.length_append, List.length_cons]
  omega
/-- A service for the packet's neighbour brings it nearer to its turn. -/
theorem srv_near {L : Int} {l : List Pk} (hc : chk L l = 0) (fr : Int) (sv : List Int) {p : Pk} (hp : p ∈ l) (k : Nat) (hk : p ∈ (srv fr sv l k).1) : upTo l p.dst (idx l p.id) (srv fr sv l k).1 + ((List.range k).filter fun j => sv.getD j 0 == p.dst).length ≤ upTo l p.dst (idx l p.id) l := by
  have hids := (chk_iff.1 hc).ids
  induction k with
  | zero => simp [srv]
  | succ k ih =>
    have hsub := (kept_sub (staleP (fr + k)) (srv fr sv l k).1).trans (srv_sub fr sv l k)
    have hk0 : p ∈ kept (staleP (fr + k)) (srv fr sv l k).1 := by
      rw [srv_next] at hk
      have hs : (srvStep (fr + k) (sv.getD k 0) (srv fr sv l k)).1.Sublist (kept (staleP (fr + k)) (srv fr sv l k).1) := by
        unfold srvStep
        split
        · exact List.Sublist.refl _
        · exact cut_sub _ _
      exact hs.subset hk
    have h1 := ih ((kept_sub _ _).subset hk0)
    have h2 := upTo_sub (l := l) (d := p.dst) (i := idx l p.id) (kept_sub (staleP (fr + k)) (srv fr sv l k).1)
    rw [List.range_succ, List.filter_append, List.length_append, List.filter_cons, List.filter_nil, srv_next]
    by_cases hd : sv.getD k 0 = p.dst
    · rw [if_pos (by show (sv.getD k 0 == p.dst) = true; rw [hd]; simp), List.length_cons, List.length_nil]
      have hr := fidx_range (top (sv.getD k 0)) (kept (staleP (fr + k)) (srv fr sv l k).1)
      have hge : 0 ≤ fidx (top (sv.getD k 0)) (kept (staleP (fr + k)) (srv fr sv l k).1) := by
        by_cases hn : fidx (top (sv.getD k 0)) (kept (staleP (fr + k)) (srv fr sv l k).1) < 0
        · obtain ⟨a, ha, e⟩ := List.getElem_of_mem hk0
          have := fidx_neg hn a (by omega) (by omega)
          rw [gp_elem ha, e] at this
          unfold top at this
          rw [hd] at this
          simp at this
        · omega
      obtain ⟨m, hm⟩ : ∃ m : Nat, fidx (top (sv.getD k 0)) (kept (staleP (fr + k)) (srv fr sv l k).1) = m := ⟨(fidx (top (sv.getD k 0)) (kept (staleP (fr + k)) (srv fr sv l k).1)).toNat, by omega⟩
      have htop := (fidx_spec hge).1
      rw [hm] at htop
      have hcut := upTo_cut (l := l) (K := kept (staleP (fr + k)) (srv fr sv l k).1) (d := p.dst) (i := idx l p.id) (m := m) (by omega) (by have h := htop; rw [hd] at h; simpa [top] using h) (first_is_first hids hsub hm (by omega) hk0 hd.symm)
      have he : (srvStep (fr + k) (sv.getD k 0) (srv fr sv l k)).1 = (kept (staleP (fr + k)) (srv fr sv l k).1).take m ++ (kept (staleP (fr + k)) (srv fr sv l k).1).drop (m + 1) := by
        unfold srvStep
        rw [if_neg (by omega), hm, Int.toNat_natCast]
      rw [he]
      omega
    · rw [if_neg (by show ¬ (sv.getD k 0 == p.dst) = true; simp only [beq_iff_eq]; exact hd), List.length_nil]
      have h3 := upTo_sub (l := l) (d := p.dst) (i := idx l p.id) (show (srvStep (fr + k) (sv.getD k 0) (srv fr sv l k)).1.Sublist (kept (staleP (fr + k)) (srv fr sv l k).1) from by
        unfold srvStep
        split
        · exact List.Sublist.refl _
        · exact cut_sub _ _)
      omega
/-- Each of e successive services has one for d. -/
def Steady (l : List Int) (d : Int) (e : Nat) : Prop := ∀ i : Nat, i + e ≤ l.length → d ∈ (l.drop i).take e
theorem steady_count {sv : List Int} {d : Int} {e b : Nat} (h : Steady (sv.take b) d e) (hb : b ≤ sv.length) : ∀ c : Nat, e * c ≤ b → c ≤ ((List.range (e * c)).filter fun j => sv.getD j 0 == d).length := by
  intro c
  induction c with
  | zero => intro _; simp
  | succ c ih =>
    intro hc
    rw [Nat.mul_succ] at hc ⊢
    have h1 := ih (by omega)
    have h2 := h (e * c) (by rw [List.length_take]; omega)
    obtain ⟨j, hj, he⟩ := List.getElem_of_mem h2
    rw [List.length_take, List.length_drop, List.length_take] at hj
    rw [List.getElem_take, List.getElem_drop, List.getElem_take] at he
    rw [List.range_add, List.filter_append, List.length_append]
    have h3 : 1 ≤ ((List.map (fun x => e * c + x) (List.range e)).filter fun j => sv.getD j 0 == d).length := by
      apply List.length_pos_of_mem (a := e * c + j)
      rw [List.mem_filter]
      refine ⟨List.mem_map.2 ⟨j, List.mem_range.2 (by omega), rfl⟩, ?_⟩
      show (sv.getD (e * c + j) 0 == d) = true
      rw [List.getD_eq_getElem?_getD, List.getElem?_eq_getElem (by omega)]
      simp [he]
    omega
theorem upTo_all {l : List Pk} (hids : l.Pairwise (fun a b => a.id ≠ b.id)) {i : Nat} (hi : i < l.length) : (upTo l (gp l i).dst i l : Int) = cnt l (gp l i).dst i + 1 := by
  have h1 : upTo l (gp l i).dst i l = ((l.take (i + 1)).filter (top (gp l i).dst)).length := by
    have hx : ∀ n : Nat, (hn : n < l.length) → idx l l[n].id = n := fun n hn => by
      have := idx_self hids hn
      rwa [gp_elem hn] at this
    obtain ⟨F, hF⟩ : ∃ F : Pk → Bool, F = fun q => q.dst == (gp l i).dst && decide (idx l q.id ≤ (i : Int)) := ⟨_, rfl⟩
    have e0 : l.filter F = (l.take (i + 1)).filter F ++ (l.drop (i + 1)).filter F := by rw [← List.filter_append, List.take_append_drop]
    have e1 : (l.take (i + 1)).filter F = (l.take (i + 1)).filter (top (gp l i).dst) := by
      apply List.filter_congr
      intro q hq
      obtain ⟨n, hn, rfl⟩ := List.getElem_of_mem hq
      rw [List.length_take] at hn
      rw [hF, List.getElem_take]
      show (l[n].dst == (gp l i).dst && decide (idx l l[n].id ≤ (i : Int))) = _
      rw [hx n (by omega)]
      have : decide ((n : Int) ≤ (i : Int)) = true := by simp; omega
      rw [this, Bool.and_true]
      rfl
    have e2 : (l.drop (i + 1)).filter F = [] := by
      rw [List.filter_eq_nil_iff]
      intro q hq
      obtain ⟨n, hn, rfl⟩ := List.getElem_of_mem hq
      rw [List.length_drop] at hn
      rw [hF, List.getElem_drop]
      show ¬ (l[i + 1 + n].dst == (gp l i).dst && decide (idx l l[i + 1 + n].id ≤ (i : Int))) = true
      rw [hx (i + 1 + n) (by omega)]
      have : decide (((i + 1 + n : Nat) : Int) ≤ (i : Int)) = false := by simp; omega
      rw [this, Bool.and_false]
      simp
    have e3 : upTo l (gp l i).dst i l = (l.filter F).length := by rw [hF]; rfl
    rw [e3, e0, e1, e2, List.append_nil]
  have h2 := cnt_next (l := l) (d := (gp l i).dst) (i := (i : Int)) (by omega) (by omega)
  rw [h1]
  unfold cnt at h2 ⊢
  rw [show ((i : Int) + 1).toNat = i + 1 from by omega, Int.toNat_natCast] at h2
  rw [h2]
  simp
/-- A packet has left within the bound, if the services for its neighbour come steadily. -/
theorem srv_bound {L : Int} {l : List Pk} (hc : chk L l = 0) (fr : Int) (sv : List Int) {i e a : Nat} (hi : i < l.length) (ha : cnt l (gp l i).dst i = a) (hb : e * (a + 1) ≤ sv.length) (hs : Steady (sv.take (e * (a + 1))) (gp l i).dst e) :
    ∃ d ∈ (srv fr sv l sv.length).2, d.id = (gp l i).id ∧ d.slot < fr + (e * (a + 1) : Nat) := by
  have hids := (chk_iff.1 hc).ids
  have hp : gp l i ∈ l := by rw [gp_elem hi]; exact List.getElem_mem _
  rcases left_or hids fr sv (e * (a + 1)) hp with h | h
  · exfalso
    have h1 := srv_near hc fr sv hp (e * (a + 1)) h
    have h2 := steady_count hs hb (a + 1) (Nat.le_refl _)
    have hx := idx_self hids hi
    rw [hx] at h1
    have h3 := upTo_all hids hi
    have h4 : 1 ≤ upTo l (gp l i).dst i (srv fr sv l (e * (a + 1))).1 := by
      unfold upTo
      apply List.length_pos_of_mem (a := gp l i)
      rw [List.mem_filter]
      exact ⟨h, by simp [hx]⟩
    omega
  · obtain ⟨d, hd, he⟩ := mem_idsD.1 h
    exact ⟨d, srv_mono hb hd, he, (srv_slots fr sv l _ d hd).2⟩
end Go.Proofs.Ytckanomabhbkaaa
