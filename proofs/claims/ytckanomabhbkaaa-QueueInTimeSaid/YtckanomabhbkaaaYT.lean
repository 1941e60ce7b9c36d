/- The facts of a round of QueueInTime, in plain words. -/
import Derived.Test.YtckanomabhbkaaaYM
namespace Go.Proofs.Ytckanomabhbkaaa
open Go.RowKit List
set_option linter.unusedVariables false
noncomputable def leftF (D : List Dp) : Lit → Option Int := D.foldl (fun f d => put1 f (.int .i64 d.id) d.slot) (fun _ => none)
theorem foldl_none {k : Int} : ∀ (D : List Dp) (f : Lit → Option Int), k ∉ idsD D → (D.foldl (fun f d => put1 f (.int .i64 d.id) d.slot) f) (.int .i64 k) = f (.int .i64 k)
  | [], f, _ => rfl
  | x :: r, f, h => by
    have h1 : k ≠ x.id ∧ k ∉ idsD r := by
      constructor
      · intro e; exact h (mem_idsD.2 ⟨x, by simp, e.symm⟩)
      · intro e; obtain ⟨d, hd, he⟩ := mem_idsD.1 e; exact h (mem_idsD.2 ⟨d, by simp [hd], he⟩)
    rw [List.foldl_cons, foldl_none r _ h1.2]
    unfold put1
    rw [if_neg (by simp; exact h1.1)]
theorem foldl_some {d : Dp} : ∀ (D : List Dp) (f : Lit → Option Int), (idsD D).Nodup → d ∈ D → (D.foldl (fun f d => put1 f (.int .i64 d.id) d.slot) f) (.int .i64 d.id) = some d.slot
  | [], f, _, h => by cases h
  | x :: r, f, hn, h => by
    have hn' : x.id ∉ idsD r ∧ (idsD r).Nodup := List.nodup_cons.1 hn
    rw [List.foldl_cons]
    rcases List.mem_cons.1 h with rfl | h
    · rw [foldl_none r _ hn'.1]
      unfold put1
      rw [if_pos rfl]
    · exact foldl_some r _ hn'.2 h
theorem leftF_zero : leftF [] = fun _ => none := rfl
theorem leftF_next {D : List Dp} {i : Nat} (h : i < D.length) : put1 (leftF (D.take i)) (.int .i64 (gd D i).id) (gd D i).slot = leftF (D.take (i + 1)) := by
  unfold leftF
  rw [List.take_add_one, List.getElem?_eq_getElem h, List.foldl_append, gd_elem h]
  rfl
theorem leftF_none {D : List Dp} {k : Int} (h : k ∉ idsD D) : leftF D (.int .i64 k) = none := foldl_none D _ h
theorem leftF_some {D : List Dp} {d : Dp} (hn : (idsD D).Nodup) (h : d ∈ D) : leftF D (.int .i64 d.id) = some d.slot := foldl_some D _ hn h
theorem gd_mem {D : List Dp} {n : Nat} (h : n < D.length) : gd D n ∈ D := by rw [gd_elem h]; exact List.getElem_mem _
theorem gp_mem {l : List Pk} {n : Nat} (h : n < l.length) : gp l n ∈ l := by rw [gp_elem h]; exact List.getElem_mem _
/-- One departure for each ID. -/
theorem one_dep {D : List Dp} (hn : (idsD D).Nodup) {a b : Dp} (ha : a ∈ D) (hb : b ∈ D) (h : a.id = b.id) : a = b := by
  obtain ⟨i, hi, rfl⟩ := List.getElem_of_mem ha
  obtain ⟨j, hj, rfl⟩ := List.getElem_of_mem hb
  have hl : (idsD D).length = D.length := by simp [idsD]
  have hx : ∀ n (hn : n < D.length), (idsD D)[n]'(by omega) = D[n].id := fun n hn => by simp [idsD]
  have := (List.getElem_inj (h₀ := show i < (idsD D).length by omega) (h₁ := show j < (idsD D).length by omega) hn).1 (by rw [hx i hi, hx j hj]; exact h)
  subst this
  rfl
theorem pform_rng {p : Pk} (h : pform p = 0) : 0 ≤ p.id ∧ (-1 ≤ p.dst ∧ p.dst < 32) ∧ (0 ≤ p.pr ∧ p.pr < 4) ∧ (0 ≤ p.born ∧ p.born ≤ 1099511627776) ∧ 1 ≤ p.life ∧ p.life ≤ 4096 := by
  unfold pform at h
  by_cases h1 : p.id < 0 ∨ p.dst < -1 ∨ p.dst ≥ 32 ∨ p.pr < 0 ∨ p.pr ≥ 4 ∨ p.born < 0 ∨ p.born > 1099511627776 ∨ p.life < 1 ∨ p.life > 4096
  · rw [if_pos h1] at h; cases h
  · omega
theorem w64 {n : Int} (h1 : -9223372036854775808 ≤ n) (h2 : n ≤ 9223372036854775807) : wrap64 n = n := by unfold wrap64; omega
theorem wfi {n : Int} (h1 : -9223372036854775808 ≤ n) (h2 : n ≤ 9223372036854775807) : (Lit.int .i64 n).wf = true := by
  have e1 : IntKind.i64.min = -9223372036854775808 := rfl
  have e2 : IntKind.i64.max = 9223372036854775807 := rfl
  simp [Lit.wf, e1, e2]; omega
theorem fresh_lt {p : Pk} {s : Int} (hp : pform p = 0) (h0 : 0 ≤ s) (h1 : s ≤ 1099511627776) (h : staleB p s = false) : s - p.born < p.life := by
  have := pform_rng hp
  unfold staleB at h
  rw [w64 (by omega) (by omega)] at h
  simp at h
  exact h h0
/-- Who has not left is not too old yet. -/
theorem wait_ok {L : Int} {l : List Pk} (hc : chk L l = 0) {fr : Int} {sv : List Int} (h0 : 0 ≤ fr) (h1 : fr ≤ 65535) (hl : sv.length ≤ 100) {i : Nat} (hi : i < l.length) (hx : (gp l i).id ∉ idsD (srv fr sv l sv.length).2) (hp : 0 < sv.length) : fr + sv.length - 1 - (gp l i).born < (gp l i).life := by
  have hk := chk_iff.1 hc
  obtain ⟨k, hkk⟩ : ∃ k, sv.length = k + 1 := ⟨sv.length - 1, by omega⟩
  rcases left_or hk.ids fr sv sv.length (gp_mem hi) with h | h
  · rw [hkk] at h
    have h2 := fresh_lt (hk.form _ (gp_mem hi)) (by omega) (by omega) (srv_left fr sv k h)
    omega
  · exact absurd h hx
/-- Who is served is not too old. -/
theorem served_ok {L : Int} {l : List Pk} (hc : chk L l = 0) {fr : Int} {sv : List Int} (h0 : 0 ≤ fr) (h1 : fr ≤ 65535) (hl : sv.length ≤ 100) {i : Nat} (hi : i < l.length) {d : Dp} (hd : d ∈ (srv fr sv l sv.length).2) (he : d.id = (gp l i).id) (hr : d.dropped = false) : d.slot - (gp l i).born < (gp l i).life := by
  have hk := chk_iff.1 hc
  have hs := srv_slots fr sv l sv.length d hd
  exact fresh_lt (hk.form _ (gp_mem hi)) (by omega) (by omega) (srv_fresh hk.ids fr sv sv.length d hd hr _ (gp_mem hi) he.symm)
/-- What the map of the order holds ahead of packet i. -/
def OrdI (l : List Pk) (D : List Dp) (i : Nat) (f : Lit → Option Int) : Prop :=
  ∀ a b v, (Lit.int .i64 a).wf = true → (Lit.int .i64 b).wf = true → f (pk2 a b) = some v → ∃ j : Nat, j < i ∧ j < l.length ∧ (gp l j).dst = a ∧ (gp l j).pr = b ∧ ∃ e ∈ D, e.id = (gp l j).id ∧ e.dropped = false ∧ e.slot = v
theorem OrdI.zero (l : List Pk) (D : List Dp) : OrdI l D 0 (fun _ => none) := fun a b v _ _ h => by cases h
theorem OrdI.skip {l : List Pk} {D : List Dp} {i : Nat} {f : Lit → Option Int} (h : OrdI l D i f) : OrdI l D (i + 1) f := fun a b v ha hb hf => by
  obtain ⟨j, h1, h2⟩ := h a b v ha hb hf
  exact ⟨j, by omega, h2⟩
theorem OrdI.put {l : List Pk} {D : List Dp} {i : Nat} {f : Lit → Option Int} (h : OrdI l D i f) (hi : i < l.length) (hp : pform (gp l i) = 0) {d : Dp} (hd : d ∈ D) (he : d.id = (gp l i).id) (hr : d.dropped = false) : OrdI l D (i + 1) (put1 f (pk2 (gp l i).dst (gp l i).pr) d.slot) := fun a b v ha hb hf => by
  have hg := pform_rng hp
  unfold put1 at hf
  by_cases e : pk2 a b = pk2 (gp l i).dst (gp l i).pr
  · rw [if_pos e] at hf
    cases hf
    obtain ⟨e1, e2⟩ := pk2_inj ha hb (wfi (by omega) (by omega)) (wfi (by omega) (by omega)) e
    exact ⟨i, by omega, hi, e1.symm, e2.symm, d, hd, he, hr, rfl⟩
  · rw [if_neg e] at hf
    obtain ⟨j, h1, h2⟩ := h a b v ha hb hf
    exact ⟨j, by omega, h2⟩
theorem OrdI.le {L : Int} {l : List Pk} (hc : chk L l = 0) {fr : Int} {sv : List Int} {i : Nat} {f : Lit → Option Int} (h : OrdI l (srv fr sv l sv.length).2 i f) (hi : i < l.length) {d : Dp} (hd : d ∈ (srv fr sv l sv.length).2) (he : d.id = (gp l i).id) (hr : d.dropped = false) {v : Int} (hf : f (pk2 (gp l i).dst (gp l i).pr) = some v) : v ≤ d.slot := by
  have hk := chk_iff.1 hc
  have hg := pform_rng (hk.form _ (gp_mem hi))
  obtain ⟨j, h1, h2, h3, _, e, h5, h6, _, h8⟩ := h _ _ v (wfi (by omega) (by omega)) (wfi (by omega) (by omega)) hf
  obtain ⟨e0, h9, h10, h11⟩ := srv_order hc fr sv sv.length _ (gp_mem h2) _ (gp_mem hi) (by rw [idx_self hk.ids h2, idx_self hk.ids hi]; omega) h3 d hd he hr
  have := one_dep (not_both hc fr sv sv.length).1 h5 h9 (by rw [h6, h10])
  subst this
  omega
/-- The bound of a packet. -/
theorem bound_is {L : Int} {l : List Pk} (hc : chk L l = 0) {i e : Nat} (hi : i < l.length) (h1 : 1 ≤ e) (h2 : e ≤ 255) : ∃ a : Nat, cnt l (gp l i).dst i = a ∧ boundE L l (gp l i).id e = 0 ∧ boundV L l (gp l i).id e = ((e * (a + 1) : Nat) : Int) ∧ e * (a + 1) ≤ 255 * 65 := by
  have hk := chk_iff.1 hc
  have hx := idx_self hk.ids hi
  have hr := cnt_range l (gp l i).dst i
  have hlen := hk.len
  have hhi := hk.hi
  obtain ⟨a, ha⟩ : ∃ a : Nat, cnt l (gp l i).dst i = a := ⟨(cnt l (gp l i).dst i).toNat, by omega⟩
  have hE : aheadE L l (gp l i).id = 0 := by
    unfold aheadE
    rw [if_neg (by rw [hc]; simp), hx, if_neg (by omega)]
  have hV : aheadV L l (gp l i).id = a := by
    unfold aheadV
    rw [if_pos hE, hx, Int.toNat_natCast, ha]
  have hb : boundE L l (gp l i).id e = 0 := by
    unfold boundE
    rw [if_neg (by rw [hE]; simp), if_neg (by omega)]
  have hm : e * (a + 1) ≤ 255 * 65 := Nat.mul_le_mul h2 (by omega)
  refine ⟨a, ha, hb, ?_, hm⟩
  unfold boundV
  have hc : ((e * (a + 1) : Nat) : Int) = (e : Int) * ((a : Int) + 1) := by push_cast; rfl
  rw [if_pos hb, hV, w64 (n := (a : Int) + 1) (by omega) (by omega), ← hc, w64 (by omega) (by omega)]
theorem bound_ok {L : Int} {l : List Pk} (hc : chk L l = 0) {fr : Int} {sv : List Int} {i e a : Nat} (hi : i < l.length) (ha : cnt l (gp l i).dst i = a) (hb : e * (a + 1) ≤ sv.length) (hs : steadyB (sv.take (e * (a + 1))) (gp l i).dst e = true) :
    ∃ d ∈ (srv fr sv l sv.length).2, d.id = (gp l i).id ∧ d.slot < fr + (e * (a + 1) : Nat) := srv_bound hc fr sv hi ha hb (steadyB_steady hs)
end Go.Proofs.Ytckanomabhbkaaa
