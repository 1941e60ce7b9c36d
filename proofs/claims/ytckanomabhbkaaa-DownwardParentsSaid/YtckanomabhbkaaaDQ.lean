/- slices.Reverse of numbers, walked. -/
import Derived.Test.YtckanomabhbkaaaDY
import Derived.RegionTactic
import Derived.ChangeAlike
namespace Go.Proofs.Ytckanomabhbkaaa
open Go.RowKit Go.Shelf
set_option linter.unusedVariables false
/-- The reverse, as far as it has come. -/
def RevAt (l m : List Int) (i : Nat) : Prop := m.length = l.length ∧ ∀ t : Nat, t < l.length → m.getD t 0 = if t < i ∨ l.length ≤ t + i then l.getD (l.length - 1 - t) 0 else l.getD t 0
theorem RevAt.step {l m : List Int} {i : Nat} (h : RevAt l m i) (hi : 2 * i + 1 < l.length) : RevAt l ((m.set i (m.getD (l.length - 1 - i) 0)).set (l.length - 1 - i) (m.getD i 0)) (i + 1) := by
  refine ⟨by rw [List.length_set, List.length_set]; exact h.1, fun t ht => ?_⟩
  have h1 := h.2 i (by omega)
  have h2 := h.2 (l.length - 1 - i) (by omega)
  have h3 := h.2 t ht
  rw [if_neg (by omega)] at h1
  rw [if_neg (by omega)] at h2
  rw [List.getD_eq_getElem?_getD, List.getElem?_set]
  have hml := h.1
  by_cases e1 : l.length - 1 - i = t
  · rw [if_pos e1, if_pos (by rw [List.length_set]; omega), h1, if_pos (by omega)]
    rw [show l.length - 1 - t = i from by omega]
    rfl
  · rw [if_neg e1, List.getElem?_set]
    by_cases e2 : i = t
    · subst e2
      rw [if_pos rfl, if_pos (by omega), h2, if_pos (by omega)]
      rfl
    · rw [if_neg e2, ← List.getD_eq_getElem?_getD, h3]
      by_cases c : t < i ∨ l.length ≤ t + i
      · rw [if_pos c, if_pos (by omega)]
      · rw [if_neg c, if_neg (by omega)]
theorem RevAt.done {l m : List Int} {i : Nat} (h : RevAt l m i) (hi : ¬ 2 * i + 1 < l.length) : m = l.reverse := by
  apply List.ext_getElem (by rw [List.length_reverse]; exact h.1)
  intro t h1 h2
  have h3 := h.2 t (by rw [← h.1]; exact h1)
  have hml := h.1
  rw [List.getElem_reverse]
  rw [List.getD_eq_getElem?_getD, List.getElem?_eq_getElem h1] at h3
  have h4 : m[t] = l.getD (l.length - 1 - t) 0 := by
    refine Eq.trans h3 ?_
    by_cases c : t < i ∨ l.length ≤ t + i
    · rw [if_pos c]
    · rw [if_neg c, show l.length - 1 - t = t from by omega]
  rw [h4, List.getD_eq_getElem?_getD, List.getElem?_eq_getElem (by omega)]
  rfl
set_option maxHeartbeats 3200000 in
theorem reverse_any (g c n : Nat) (l : List Int) (w : World) (base : Nat) (hn : l.length = n) (hO : Own intc 1 w base 3 (.slice (some ⟨g, 0, none⟩) n c) l) (hnc : n ≤ 140737488355328) :
    Calls Try.prog 115 #[.slice (some ⟨g, 0, none⟩) n c] w fun e w' => (∃ v, e = .returned v) ∧ Own intc 1 w' base 3 (.slice (some ⟨g, 0, none⟩) n c) l.reverse ∧ w.grownBy w' (some g) := by
  have HO := Lib.hid hO
  have HN := Lib.hid hn
  have HR0 := Lib.hid (show RevAt l l 0 from ⟨rfl, fun t ht => by rw [if_neg (by omega)]⟩)
  clear hO hn
  go_enter Try.func115, Try.ntmps115
  go_wp2
  go_loopw [2, 3] (fun u v wr => ∃ (i : Nat) (j : Int) (m : List Int), u = .int .i64 i ∧ v = .int .i64 j ∧ j = n - 1 - i ∧ i ≤ n ∧ Hid (Own intc 1 wr base 3 (.slice (some ⟨g, 0, none⟩) n c) m) ∧ Hid (RevAt l m i) ∧ Hid (w.grownBy wr (some g))) (fun u _ _ => (n - (intOf u)).toNat)
  case atStart => exact ⟨0, n - 1, l, rfl, rfl, by omega, by omega, HO, HR0, Lib.hid (World.grownBy.refl _ _)⟩
  case round =>
    obtain ⟨i, j, m, rfl, rfl, hj, hi, HM, HR, HG⟩ := hrel
    by_cases hlt : 2 * i + 1 < n
    · obtain ⟨k, hk⟩ : ∃ k : Nat, j = k := ⟨n - 1 - i, by omega⟩
      subst hk
      have HK := Lib.hid (show n - 1 - i = k by omega)
      have hkn : (k : Int) < n := by omega
      have hin : (i : Int) < n := by omega
      have hik : (i : Int) < k := by omega
      have bl : decide ((i : Int) < k) = true := by simp; omega
      have hml := HR.out.1
      rw [HN.out] at hml
      have hO3 : Own (fun x => [inv x]) 1 wr base 3 (.slice (some ⟨g, 0, none⟩) m.length c) m := by rw [hml]; exact HM.out
      have q0 : wr.cell? ⟨g, i, none⟩ = some (.int .i64 (m.getD i 0)) := own_cell1 hO3 i _ (by rw [List.getD_eq_getElem?_getD, List.getElem?_eq_getElem (by omega)]; rfl)
      have q1 : wr.cell? ⟨g, k, none⟩ = some (.int .i64 (m.getD k 0)) := own_cell1 hO3 k _ (by rw [List.getD_eq_getElem?_getD, List.getElem?_eq_getElem (by omega)]; rfl)
      have f0 := (own_free1 HM.out i).1
      have f1 := (own_free1 HM.out k).1
      have hne : ¬ i = k := by omega
      have g1 : (0 : Int) ≤ i := by omega
      have g2 : (0 : Int) ≤ k := by omega
      obtain ⟨x, hx⟩ : ∃ x, m.getD i 0 = x := ⟨_, rfl⟩
      obtain ⟨y, hy⟩ : ∃ y, m.getD k 0 = y := ⟨_, rfl⟩
      rw [hx] at q0
      rw [hy] at q1
      have s1 := own_store1 (v := inv) hml.symm HM.out i y
      have s2 := own_store1 (v := inv) (N := n) (by rw [List.length_set]; exact hml.symm) s1.1 k x
      have HS := Lib.hid s2.1
      have HSG := Lib.hid ((HG.out.trans s1.2).trans s2.2)
      have HR2 := Lib.hid (show RevAt l ((m.set i y).set k x) (i + 1) by
        have h := HR.out.step (by rw [HN.out]; exact hlt)
        rwa [HN.out, HK.out, hx, hy] at h)
      clear hj hml hO3 hx hy s1 s2
      go_wp2_with fail
      go_region
      go_wp2
      go_roundw
      case rel => exact ⟨i + 1, (k : Int) - 1, _, by simp, rfl, by have := HK.out; omega, by omega, Lib.hid HS.out.drew, HR2, Lib.hid (HSG.out.trans ⟨rfl, rfl, rfl, Nat.le_refl _, fun _ _ _ => rfl⟩)⟩
      case measure => simp [intOf]; omega
    · have bl : decide ((i : Int) < j) = false := by simp; omega
      have HE := Lib.hid (HR.out.done (by rw [HN.out]; exact hlt))
      rw [HE.out] at HM
      go_wp2
      go_end0
      exact ⟨⟨_, rfl⟩, HM.out, HG.out⟩
end Go.Proofs.Ytckanomabhbkaaa
