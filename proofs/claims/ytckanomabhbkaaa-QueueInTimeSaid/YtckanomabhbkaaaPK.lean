/- Put keeps a queue right, and loses no packet; Serve loses none: in plain words. -/
import Derived.Test.YtckanomabhbkaaaPL
namespace Go.Proofs.Ytckanomabhbkaaa
open Go.RowKit List
set_option linter.unusedVariables false
def idsOf (l : List Pk) : List Int := l.map (·.id)
theorem ok_ids {L : Int} {l : List Pk} (h : Ok L l) : (idsOf l).Nodup := by
  unfold idsOf
  rw [List.nodup_iff_pairwise_ne, List.pairwise_map]
  exact h.ids
theorem idx_none {l : List Pk} {k : Int} (h : idx l k < 0) : k ∉ idsOf l := by
  intro hm
  obtain ⟨p, hp, he⟩ := List.mem_map.1 hm
  obtain ⟨j, hj, rfl⟩ := List.getElem_of_mem hp
  have := fidx_neg (p := idp k) h j (by omega) (by omega)
  rw [gp_elem hj] at this
  simp [idp, he] at this
theorem ins_perm (l : List Pk) (p : Pk) : ins l p ~ p :: l := by
  unfold ins
  have h := List.perm_middle (a := p) (l₁ := l.take (insPos p.pr l)) (l₂ := l.drop (insPos p.pr l))
  rwa [List.take_append_drop] at h
theorem ins_ok {L : Int} {l : List Pk} {p : Pk} (h : Ok L l) (hl : (l.length : Int) < L) (hf : pform p = 0) (hid : p.id ∉ idsOf l) : Ok L (ins l p) := by
  have hp := ins_perm l p
  refine ⟨h.lo, h.hi, by rw [hp.length_eq, List.length_cons]; omega, fun x hx => ?_, ?_, ?_⟩
  · rcases List.mem_cons.1 (hp.mem_iff.1 hx) with rfl | hx
    · exact hf
    · exact h.form x hx
  · rw [hp.pairwise_iff (fun hne e => hne e.symm), List.pairwise_cons]
    exact ⟨fun x hx e => hid (by rw [e]; exact List.mem_map_of_mem hx), h.ids⟩
  · unfold ins
    have hk := insPos_le p.pr l
    have hlow : ∀ a ∈ l.take (insPos p.pr l), a.pr ≤ p.pr := by
      intro a ha
      obtain ⟨j, hj, rfl⟩ := List.getElem_of_mem ha
      rw [List.length_take] at hj
      rw [List.getElem_take]
      have hn : abovep p.pr (gp l j) = false := by
        unfold insPos at hj
        by_cases hneg : fidx (abovep p.pr) l < 0
        · exact fidx_neg hneg j (by omega) (by omega)
        · rw [if_neg hneg] at hj
          exact (fidx_spec (by omega)).2 j (by omega) (by omega)
      rw [gp_elem (by omega)] at hn
      simp [abovep] at hn
      omega
    have hhigh : ∀ b ∈ l.drop (insPos p.pr l), p.pr ≤ b.pr := by
      intro b hb
      by_cases hneg : fidx (abovep p.pr) l < 0
      · have e : insPos p.pr l = l.length := by unfold insPos; rw [if_pos hneg]
        rw [e, List.drop_length] at hb
        cases hb
      · have hr := fidx_range (abovep p.pr) l
        have e : insPos p.pr l = (fidx (abovep p.pr) l).toNat := by unfold insPos; rw [if_neg hneg]
        have hs := (fidx_spec (p := abovep p.pr) (l := l) (by omega)).1
        rw [gp_elem' (by omega) hr.2] at hs
        rw [e] at hb
        obtain ⟨j, hj, rfl⟩ := List.getElem_of_mem hb
        rw [List.length_drop] at hj
        rw [List.getElem_drop]
        simp [abovep] at hs
        by_cases hj0 : j = 0
        · subst hj0
          simp only [Nat.add_zero]
          omega
        · have := List.pairwise_iff_getElem.1 h.ord (fidx (abovep p.pr) l).toNat ((fidx (abovep p.pr) l).toNat + j) (by omega) (by omega) (by omega)
          omega
    rw [List.pairwise_append, List.pairwise_cons]
    exact ⟨h.ord.sublist (List.take_sublist _ _), ⟨hhigh, h.ord.sublist (List.drop_sublist _ _)⟩, fun a ha b hb => by
      have := hlow a ha
      rcases List.mem_cons.1 hb with rfl | hb
      · exact this
      · have := hhigh b hb; omega⟩
theorem drop_last {l : List Pk} (h : 0 < l.length) : l = l.dropLast ++ [lastPk l] := by
  have hne : l ≠ [] := fun e => by rw [e] at h; cases h
  have e : lastPk l = l.getLast hne := by
    unfold lastPk
    rw [show (l.length : Int) - 1 = ((l.length - 1 : Nat) : Int) from by omega, gp_elem (by omega), List.getLast_eq_getElem]
  rw [e, List.dropLast_concat_getLast]
/-- What Put answers where it takes the packet: the queue is right; the IDs are those of before, and the packet's. -/
theorem put_keeps {L : Int} {l : List Pk} {p : Pk} (h : putE L l p = 0) : chk L l = 0 ∧ putL L l p = L ∧ p.id ∉ idsOf l ∧ chk L (putQ L l p) = 0 ∧ (idsOf (putQ L l p) ++ idsOf (putG L l p)) ~ p.id :: idsOf l ∧ (putQ L l p).length + (putG L l p).length = l.length + 1 := by
  have h1 : chk L l = 0 := by
    by_cases h1 : chk L l = 0
    · exact h1
    · exact absurd h (by unfold putE; rw [if_pos h1]; decide)
  have h2 : pform p = 0 := by
    by_cases h2 : pform p = 0
    · exact h2
    · exact absurd h (by unfold putE; rw [if_neg (by rw [h1]; simp), if_pos h2]; exact h2)
  have h3 : idx l p.id < 0 := by
    by_cases h3 : idx l p.id < 0
    · exact h3
    · exact absurd h (by unfold putE; rw [if_neg (by rw [h1]; simp), if_neg (by rw [h2]; simp), if_pos (by omega)]; decide)
  have hid := idx_none h3
  have hok := chk_iff.1 h1
  have hL : putL L l p = L := by unfold putL; rw [if_pos h]
  have hQ : putQ L l p = if (l.length : Int) = L then ins l.dropLast p else ins l p := by unfold putQ; rw [if_pos h]
  have hG : putG L l p = if (l.length : Int) = L then [lastPk l] else [] := by unfold putG; rw [if_pos h]
  by_cases hf : (l.length : Int) = L
  · rw [if_pos hf] at hQ hG
    have hpos : 0 < l.length := by have := hok.lo; omega
    have hdl := drop_last hpos
    have hsub : (l.dropLast).Sublist l := List.dropLast_sublist l
    have hlen : l.dropLast.length + 1 = l.length := by rw [List.length_dropLast]; omega
    have hids : idsOf l = idsOf l.dropLast ++ [(lastPk l).id] := by
      conv => lhs; rw [hdl]
      unfold idsOf
      rw [List.map_append]; rfl
    have hper := ins_perm l.dropLast p
    refine ⟨h1, hL, hid, ?_, ?_, ?_⟩
    · rw [hQ, chk_iff]
      exact ins_ok (hok.sub hsub) (by omega) h2 (fun hm => hid (by rw [hids]; exact List.mem_append_left _ hm))
    · rw [hQ, hG, hids]
      have e := (hper.map (·.id)).append_right [(lastPk l).id]
      simpa [idsOf] using e
    · rw [hQ, hG, hper.length_eq, List.length_cons, List.length_cons, List.length_nil]; omega
  · rw [if_neg hf] at hQ hG
    have hper := ins_perm l p
    refine ⟨h1, hL, hid, ?_, ?_, ?_⟩
    · rw [hQ, chk_iff]
      exact ins_ok hok (by have := hok.len; omega) h2 hid
    · rw [hQ, hG]
      have e := hper.map (·.id)
      simpa [idsOf] using e
    · rw [hQ, hG, hper.length_eq]; simp
def idsD (l : List Dp) : List Int := l.map (·.id)
theorem deps_ids (s : Int) (l : List Pk) : idsD (deps s l) = idsOf (l.filter (staleP s)) := by
  unfold idsD idsOf deps staleP
  rw [List.map_map]; rfl
theorem kept_perm (s : Int) (l : List Pk) : (idsOf (kept (staleP s) l) ++ idsD (deps s l)) ~ idsOf l := by
  rw [deps_ids]
  have h := (List.filter_append_perm (staleP s) l).map (·.id)
  rw [List.map_append] at h
  exact List.perm_append_comm.trans h
theorem cut_perm {l : List Pk} {i : Nat} (h : i < l.length) : (idsOf (l.take i ++ l.drop (i + 1)) ++ [(gp l i).id]) ~ idsOf l := by
  have hl : l = l.take i ++ l[i] :: l.drop (i + 1) := by rw [List.getElem_cons_drop, List.take_append_drop]
  rw [gp_elem h]
  conv => rhs; rw [hl]
  unfold idsOf
  rw [List.map_append, List.map_append, List.map_cons]
  refine List.Perm.trans ?_ List.perm_middle.symm
  exact List.perm_append_comm
theorem srvStep_perm (s d : Int) (x : List Pk × List Dp) : (idsOf (srvStep s d x).1 ++ idsD (srvStep s d x).2) ~ (idsOf x.1 ++ idsD x.2) := by
  have hk := kept_perm s x.1
  have hr := fidx_range (top d) (kept (staleP s) x.1)
  have hD : ∀ a b : List Dp, idsD (a ++ b) = idsD a ++ idsD b := fun a b => by unfold idsD; rw [List.map_append]
  have base : (idsOf (kept (staleP s) x.1) ++ idsD (x.2 ++ deps s x.1)) ~ (idsOf x.1 ++ idsD x.2) := by
    rw [hD]
    refine List.Perm.trans ?_ (hk.append_right _)
    rw [List.append_assoc]
    exact List.Perm.append_left _ List.perm_append_comm
  unfold srvStep
  by_cases hn : fidx (top d) (kept (staleP s) x.1) < 0
  · rw [if_pos hn]; exact base
  · rw [if_neg hn]
    obtain ⟨m, hm⟩ : ∃ m : Nat, fidx (top d) (kept (staleP s) x.1) = m := ⟨(fidx (top d) (kept (staleP s) x.1)).toNat, by omega⟩
    rw [hm, Int.toNat_natCast]
    refine List.Perm.trans ?_ base
    have hc := cut_perm (l := kept (staleP s) x.1) (i := m) (by omega)
    show (idsOf ((kept (staleP s) x.1).take m ++ (kept (staleP s) x.1).drop (m + 1)) ++ idsD (x.2 ++ deps s x.1 ++ [⟨(gp (kept (staleP s) x.1) m).id, s, false⟩])) ~ _
    rw [hD (x.2 ++ deps s x.1)]
    refine List.Perm.trans ?_ (hc.append_right _)
    rw [List.append_assoc]
    exact List.Perm.append_left _ List.perm_append_comm
theorem srv_perm (fr : Int) (sv : List Int) (l : List Pk) (k : Nat) : (idsOf (srv fr sv l k).1 ++ idsD (srv fr sv l k).2) ~ idsOf l := by
  induction k with
  | zero => simp [srv, idsD]
  | succ k ih => rw [srv]; exact (srvStep_perm _ _ _).trans ih
/-- What a set holds when the first j of G have been put into it. -/
def OutS (t0 G : List Int) (j : Nat) (t : List Int) : Prop := ∀ k, k ∈ t ↔ k ∈ t0 ∨ k ∈ G.take j
theorem out_zero (t0 G : List Int) : OutS t0 G 0 t0 := fun k => by simp
theorem out_next {t0 G t : List Int} {j : Nat} (hnd : G.Nodup) (hdis : ∀ k ∈ G, k ∉ t0) (h : OutS t0 G j t) (hj : j < G.length) : G[j] ∉ t ∧ OutS t0 G (j + 1) (if G[j] ∈ t then t else G[j] :: t) := by
  have hn : G[j] ∉ t := by
    rw [h]
    rintro (h1 | h1)
    · exact hdis _ (List.getElem_mem hj) h1
    · obtain ⟨i, hi, he⟩ := List.getElem_of_mem h1
      rw [List.length_take] at hi
      rw [List.getElem_take] at he
      have := List.pairwise_iff_getElem.1 (List.nodup_iff_pairwise_ne.1 hnd) i j (by omega) hj (by omega)
      exact this he
  refine ⟨hn, fun k => ?_⟩
  rw [if_neg hn, List.mem_cons, h, List.take_add_one, List.mem_append, List.getElem?_eq_getElem hj]
  simp only [Option.toList_some, List.mem_singleton]
  constructor
  · rintro (h1 | h1 | h1)
    · exact .inr (.inr h1)
    · exact .inl h1
    · exact .inr (.inl h1)
  · rintro (h1 | h1 | h1)
    · exact .inr (.inl h1)
    · exact .inr (.inr h1)
    · exact .inl h1
/-- What is kept: those that were put are in the queue, or have left. -/
def InOut (q s t : List Int) : Prop := (∀ k, k ∈ s ↔ k ∈ q ∨ k ∈ t) ∧ ∀ k ∈ q, k ∉ t
theorem inout_put {q Q G s t : List Int} {x : Int} (h : InOut q s t) (hx : x ∉ q) (hq : q.Nodup) (ht : t.Nodup) (hp : (Q ++ G) ~ x :: q) :
    (x ∈ s → x ∈ t) ∧ G.Nodup ∧ (∀ k ∈ G, k ∈ (if x ∈ s then s else x :: s)) ∧ (∀ k ∈ G, k ∉ t.erase x) ∧ ∀ t', OutS (t.erase x) G G.length t' → InOut Q (if x ∈ s then s else x :: s) t' := by
  have hnd : (Q ++ G).Nodup := hp.nodup_iff.2 (List.nodup_cons.2 ⟨hx, hq⟩)
  rw [List.nodup_append] at hnd
  have hmem : ∀ k, k ∈ Q ∨ k ∈ G ↔ k = x ∨ k ∈ q := fun k => by rw [← List.mem_append, hp.mem_iff, List.mem_cons]
  have hs : ∀ k, k ∈ (if x ∈ s then s else x :: s) ↔ k = x ∨ k ∈ s := fun k => by
    by_cases hxs : x ∈ s
    · rw [if_pos hxs]
      constructor
      · exact .inr
      · rintro (rfl | h)
        · exact hxs
        · exact h
    · rw [if_neg hxs, List.mem_cons]
  have he : ∀ k, k ∈ t.erase x ↔ k ≠ x ∧ k ∈ t := fun k => ht.mem_erase_iff
  refine ⟨fun hxs => ((h.1 x).1 hxs).resolve_left hx, hnd.2.1, fun k hk => ?_, fun k hk => ?_, fun t' ht' => ⟨fun k => ?_, fun k hk => ?_⟩⟩
  · rw [hs]
    rcases (hmem k).1 (.inr hk) with e | hq'
    · exact .inl e
    · exact .inr ((h.1 k).2 (.inl hq'))
  · rw [he]
    rintro ⟨hne, hkt⟩
    rcases (hmem k).1 (.inr hk) with e | hq'
    · exact hne e
    · exact h.2 k hq' hkt
  · rw [hs, ht' k, List.take_length, he, h.1 k]
    have := hmem k
    constructor
    · rintro (rfl | hq' | hkt)
      · rcases this.2 (.inl rfl) with h1 | h1
        · exact .inl h1
        · exact .inr (.inr h1)
      · rcases this.2 (.inr hq') with h1 | h1
        · exact .inl h1
        · exact .inr (.inr h1)
      · by_cases hkx : k = x
        · rcases this.2 (.inl hkx) with h1 | h1
          · exact .inl h1
          · exact .inr (.inr h1)
        · exact .inr (.inl ⟨hkx, hkt⟩)
    · rintro (h1 | ⟨_, h1⟩ | h1)
      · rcases this.1 (.inl h1) with e | e
        · exact .inl e
        · exact .inr (.inl e)
      · exact .inr (.inr h1)
      · rcases this.1 (.inr h1) with e | e
        · exact .inl e
        · exact .inr (.inl e)
  · rw [ht' k, List.take_length, he]
    rintro (⟨hne, hkt⟩ | hkG)
    · rcases (hmem k).1 (.inl hk) with e | hq'
      · exact hne e
      · exact h.2 k hq' hkt
    · exact hnd.2.2 k hk k hkG rfl
end Go.Proofs.Ytckanomabhbkaaa
