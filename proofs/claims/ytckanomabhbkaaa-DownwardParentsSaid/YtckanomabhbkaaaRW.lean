/- Route of the reference, walked. -/
import Derived.Test.YtckanomabhbkaaaRE
import Derived.Test.YtckanomabhbkaaaDE
import Derived.Test.YtckanomabhbkaaaDU
namespace Go.Proofs.Ytckanomabhbkaaa
open Go.RowKit Go.Shelf
set_option linter.unusedVariables false
theorem refF_cases (l : List Rp) (k : Nat) (n : Int) (vis : List Int) : (n = 0 ∧ refF l (k + 1) (n :: vis) = n :: vis) ∨ (n ≠ 0 ∧ (ridx l n < 0 ∨ (gr l (ridx l n)).parent < 0 ∨ (gr l (ridx l n)).parent ∈ n :: vis ∨ 8 < (n :: vis).length) ∧ refF l (k + 1) (n :: vis) = []) ∨ (n ≠ 0 ∧ 0 ≤ ridx l n ∧ 0 ≤ (gr l (ridx l n)).parent ∧ (gr l (ridx l n)).parent ∉ n :: vis ∧ (n :: vis).length ≤ 8 ∧ refF l (k + 1) (n :: vis) = refF l k ((gr l (ridx l n)).parent :: n :: vis)) := by
  rw [refF_cons]
  by_cases h0 : n = 0
  · left; exact ⟨h0, by rw [if_pos h0]⟩
  · right
    rw [if_neg h0]
    by_cases h1 : ridx l n < 0 ∨ (gr l (ridx l n)).parent < 0 ∨ (gr l (ridx l n)).parent ∈ n :: vis ∨ 8 < (n :: vis).length
    · left; exact ⟨h0, h1, by rw [if_pos h1]⟩
    · right
      simp only [not_or] at h1
      exact ⟨h0, by omega, by omega, h1.2.2.1, by omega, by rw [if_neg (by simp only [not_or]; exact h1)]⟩
theorem own_lit1 {w : World} {base : Nat} {B : Nat} (hB : w.heap.size = B) (hb : base ≤ B) (x : Int) : Own intc 1 (w.alloc (.cells #[.int .i64 x] 3)) base 3 (.slice (some ⟨B, 0, none⟩) 1 1) [x] := by
  refine ⟨rfl, .inr ⟨B, 1, #[.int .i64 x], rfl, hb, blk_new w _ hB.symm, Nat.le_refl _, by unfold maxLen; omega, rfl, rfl⟩⟩
theorem own_cap {α : Type} {enc : α → List Value} {k N c base : Nat} {w : World} {e : TypeId} {A : Option Addr} {l : List α} (h : Own enc k w base e (.slice A N c) l) : N = l.length ∧ N ≤ c ∧ c ≤ maxLen := by
  obtain ⟨A', c', he, hNc, hcm⟩ := h.form
  cases he
  exact ⟨rfl, hNc, hcm⟩
theorem own_some {α : Type} {enc : α → List Value} {k base m : Nat} {w : World} {e : TypeId} {v : Value} {l : List α} (h : Own enc k w base e v l) (hm : m = l.length ∧ 0 < l.length) : ∃ g c, v = .slice (some ⟨g, 0, none⟩) m c ∧ m = l.length := by
  rcases h.2 with ⟨_, h0⟩ | ⟨g, cap, cur, rfl, _⟩
  · omega
  · exact ⟨g, cap, by rw [hm.1], hm.1⟩
set_option maxHeartbeats 6400000 in
theorem refRoute_any (A : Option Addr) (c : Nat) (l : List Rp) (n : Int) (w : World) (hr : RpAt w A c l) :
    Calls Try.prog 66 #[.slice A l.length c, .int .i64 n] w fun e w' => RouteAns w.heap.size w' e l n ∧ Below w.heap.size w w' := by
  have HC := Lib.hid (refRcheck_any A c l w hr)
  have HR := Lib.hid hr
  have hlc := hr.row.1
  obtain ⟨E, hE⟩ : ∃ E, rchk l = E := ⟨_, rfl⟩
  rw [hE] at HC
  by_cases h0 : E = 0
  case neg =>
    have HE := Lib.hid (show routeE l n = 1 by unfold routeE; rw [if_pos (by rw [hE]; exact h0)])
    have b1 : (E != 0) = true := by simp [h0]
    clear hr hE h0
    go_enter Try.func66, Try.ntmps66
    go_wp2_with (go_at_call 48; refine HC.out.mono ?_; rintro e w1 ⟨rfl, hb1⟩; (have HB1 := Lib.hid hb1); clear hb1)
    go_ret2
    exact ⟨RouteAns.bad HE.out (by decide), HB1.out⟩
  subst h0
  have HOK := Lib.hid (rchk_iff.1 hE)
  have b1 : ((0 : Int) != 0) = false := rfl
  obtain ⟨b, hb⟩ : ∃ b, nodeB n = b := ⟨_, rfl⟩
  have HNB := Lib.hid hb
  clear hr hE
  cases b
  case false =>
    have HE := Lib.hid (show routeE l n = 2 by unfold routeE; rw [if_neg (by rw [rchk_iff.2 HOK.out]; simp), if_pos HNB.out])
    have hor : (decide (n < 0) = true) ∨ (decide (n < 0) = false ∧ decide (32 ≤ n) = true) := by
      have := nodeB_no.1 hb
      by_cases h1 : n < 0
      · left; simp [h1]
      · right; exact ⟨by simp [h1], by simp; omega⟩
    clear hb
    rcases hor with n1 | ⟨n1, n2⟩
    all_goals
      go_enter Try.func66, Try.ntmps66
      go_wp2_with (go_at_call 48; refine HC.out.mono ?_; rintro e w1 ⟨rfl, hb1⟩; (have HB1 := Lib.hid hb1); clear hb1)
      go_ret2
      exact ⟨RouteAns.bad HE.out (by decide), HB1.out⟩
  have hn := nodeB_iff.1 hb
  have n1 : decide (n < 0) = false := by simp; omega
  have n2 : decide (32 ≤ n) = false := by simp; omega
  have HRF := Lib.hid (refF_route HOK.out HNB.out)
  have HRE := Lib.hid (routeE_ok HOK.out HNB.out)
  clear hb hn
  go_enter Try.func66, Try.ntmps66
  set_option maxRecDepth 100000 in go_wp2_with (go_at_call 48; refine HC.out.mono ?_; rintro e w1 ⟨rfl, hb1⟩; (have HB1 := Lib.hid hb1); clear hb1)
  go_loopw [6] (fun a6 wr => ∃ (x : Int) (vis : List Int) (k g cc N : Nat), a6 = .slice (some ⟨g, 0, none⟩) N cc ∧ k + N = 11 ∧ N ≤ 9 ∧ Hid (N = (x :: vis).length) ∧ Hid (Own intc 1 wr w.heap.size 3 (.slice (some ⟨g, 0, none⟩) N cc) (x :: vis)) ∧ Hid (routeL l n = refF l k (x :: vis)) ∧ Hid (Below w.heap.size w wr)) (fun a6 _ => match a6 with | .slice _ N _ => 10 - N | _ => 0)
  case atStart => exact ⟨n, [], 10, w1.heap.size, 1, 1, rfl, rfl, by omega, Lib.hid rfl, Lib.hid (own_lit1 rfl HB1.out.size n), Lib.hid HRF.out.symm, Lib.hid (HB1.out.alloc HB1.out.size _)⟩
  case round =>
    obtain ⟨x, vis, k, g, cc, N, rfl, hkN, hN9, HN, HO, HRL, HB⟩ := hrel
    obtain ⟨k, rfl⟩ : ∃ k', k = k' + 1 := ⟨k - 1, by omega⟩
    have q0 := own_head HO.out rfl
    have hN1 : 1 ≤ N := by have := HN.out; simp at this; omega
    have g0 : (0 : Int) < N := by omega
    have hcp := own_cap HO.out
    have hNc := hcp.2.1
    have hcm := hcp.2.2
    unfold maxLen at hcm
    clear hcp
    rcases refF_cases l k x vis with ⟨hx, hf⟩ | ⟨hx, hor, hf⟩ | ⟨hx, hi0, hp0, hin, h8, hf⟩
    · have b2 : (x != 0) = false := by simp [hx]
      have HE := Lib.hid (show routeL l n = x :: vis by rw [HRL.out, hf])
      have HE0 := Lib.hid (show routeE l n = 0 by rw [HRE.out, HE.out, if_neg (by simp)])
      clear hx hf
      set_option maxRecDepth 100000 in go_wp2
      go_ret2
      have hO : Own intc 1 wr w.heap.size 3 (.slice (some ⟨g, 0, none⟩) (x :: vis).length cc) (x :: vis) := by rw [← HN.out]; exact HO.out
      exact ⟨RouteAns.good HE0.out HE.out HN.out.symm ⟨hO.slAt intc_len, hO.freshR (Nat.le_refl _), by simp⟩, HB.out⟩
    · have b2 : (x != 0) = true := by simp [hx]
      have HE0 := Lib.hid (show routeE l n = 17 by rw [HRE.out, HRL.out, hf, if_pos rfl])
      have HI := Lib.hid (refRindex_any A c l x wr (HR.out.below HB.out))
      obtain ⟨i, hi⟩ : ∃ i, ridx l x = i := ⟨_, rfl⟩
      have hir := ridx_range l x
      rw [hi] at HI hor hir
      clear hx hf hi
      by_cases h1 : i < 0
      · have b3 : decide (i < 0) = true := by simp [h1]
        clear hor
        set_option maxRecDepth 100000 in go_wp2_with (go_at_call 91; refine HI.out.mono ?_; rintro e w4 ⟨rfl, rfl⟩)
        go_ret2
        exact ⟨RouteAns.bad HE0.out (by decide), HB.out⟩
      have b3 : decide (i < 0) = false := by simp; omega
      obtain ⟨m, rfl⟩ : ∃ m : Nat, i = m := ⟨i.toNat, by omega⟩
      obtain ⟨ad, rfl, c0, c1, c2⟩ := (HR.out.below HB.out).row.rp m (by omega) (by omega)
      rw [Int.toNat_natCast] at c0 c1 c2
      obtain ⟨p, hp⟩ : ∃ p, (gr l m).parent = p := ⟨_, rfl⟩
      rw [hp] at c1 hor
      have g1 : (0 : Int) ≤ m := by omega
      have g2 : (m : Int) < l.length := by omega
      clear hp hir h1 c0 c2
      by_cases h2 : p < 0
      · have b4 : decide (p < 0) = true := by simp [h2]
        clear hor
        set_option maxRecDepth 100000 in go_wp2_with (go_at_call 91; refine HI.out.mono ?_; rintro e w4 ⟨rfl, rfl⟩)
        go_ret2
        exact ⟨RouteAns.bad HE0.out (by decide), HB.out⟩
      have b4 : decide (p < 0) = false := by simp; omega
      have HM := Lib.hid (has_any (some ⟨g, 0, none⟩) N cc (x :: vis) p wr HN.out (Own.slAt intc_len (show Own intc 1 wr w.heap.size 3 (.slice (some ⟨g, 0, none⟩) (x :: vis).length cc) (x :: vis) by rw [← HN.out]; exact HO.out)).row)
      obtain ⟨d, hd⟩ : ∃ d, memB (x :: vis) p = d := ⟨_, rfl⟩
      rw [hd] at HM
      by_cases h3 : p ∈ x :: vis
      · obtain rfl : d = true := by rw [← hd]; unfold memB; exact decide_eq_true h3
        clear hor hd h3
        set_option maxRecDepth 100000 in go_wp2_with (first | (go_at_call 91; refine HI.out.mono ?_; rintro e w4 ⟨rfl, rfl⟩) | (go_at_call 96; refine HM.out.mono ?_; rintro e w5 ⟨rfl, rfl⟩))
        go_ret2
        exact ⟨RouteAns.bad HE0.out (by decide), HB.out⟩
      obtain rfl : d = false := by rw [← hd]; unfold memB; exact decide_eq_false h3
      have b5 : decide ((8 : Int) < N) = true := by
        have := HN.out
        rcases hor with h | h | h | h
        · omega
        · omega
        · exact absurd h h3
        · exact decide_eq_true (by omega)
      clear hor hd h3
      set_option maxRecDepth 100000 in go_wp2_with (first | (go_at_call 91; refine HI.out.mono ?_; rintro e w4 ⟨rfl, rfl⟩) | (go_at_call 96; refine HM.out.mono ?_; rintro e w5 ⟨rfl, rfl⟩))
      go_ret2
      exact ⟨RouteAns.bad HE0.out (by decide), HB.out⟩
    · have b2 : (x != 0) = true := by simp [hx]
      have HI := Lib.hid (refRindex_any A c l x wr (HR.out.below HB.out))
      have hir := ridx_range l x
      obtain ⟨m, hm⟩ : ∃ m : Nat, ridx l x = m := ⟨(ridx l x).toNat, by omega⟩
      rw [hm] at HI hf hp0 hin hir
      have b3 : decide ((m : Int) < 0) = false := decide_eq_false (by omega)
      obtain ⟨ad, rfl, c0, c1, c2⟩ := (HR.out.below HB.out).row.rp m (by omega) (by omega)
      rw [Int.toNat_natCast] at c0 c1 c2
      obtain ⟨p, hp⟩ : ∃ p, (gr l m).parent = p := ⟨_, rfl⟩
      rw [hp] at c1 hf hp0 hin
      have g1 : (0 : Int) ≤ m := by omega
      have g2 : (m : Int) < l.length := by omega
      have b4 : decide (p < 0) = false := by simp; omega
      have HM := Lib.hid (has_any (some ⟨g, 0, none⟩) N cc (x :: vis) p wr HN.out (Own.slAt intc_len (show Own intc 1 wr w.heap.size 3 (.slice (some ⟨g, 0, none⟩) (x :: vis).length cc) (x :: vis) by rw [← HN.out]; exact HO.out)).row)
      rw [show memB (x :: vis) p = false from by unfold memB; exact decide_eq_false hin] at HM
      have h8' : N ≤ 8 := by have := HN.out; omega
      have b5 : decide ((8 : Int) < N) = false := by simp; omega
      have HRL2 := Lib.hid (HRL.out.trans hf)
      clear hx hf hi0 hp0 hin h8 hm hp hir c0 c2
      set_option maxRecDepth 100000 in go_wp2_with (first | (go_at_call 91; refine HI.out.mono ?_; rintro e w4 ⟨rfl, rfl⟩) | (go_at_call 96; refine HM.out.mono ?_; rintro e w5 ⟨rfl, rfl⟩) | (at_builtin; refine Own.append intc_len intc_one rfl _ _ 40 3 (.int .i64 0) 8 rfl Try.underlying40 info3 rfl (by decide) (by decide) (.slice (some ⟨wr.heap.size, 0, none⟩) 1 1) [p] rfl (base := wr.heap.size) (own_lit1 rfl (Nat.le_refl _) p) ⟨g, 0, none⟩ (x :: vis) cc (by rw [← HN.out]; rfl) (Own.slAt intc_len (show Own intc 1 (wr.alloc (.cells #[.int .i64 p] 3)) w.heap.size 3 (.slice (some ⟨g, 0, none⟩) (x :: vis).length cc) (x :: vis) by rw [← HN.out]; exact HO.out.alloc _)).row (by simp) (by have := HN.out; simp at this ⊢; omega) ?_; intro v1 w6 hO6 hg6 _; obtain ⟨g6, cc6, rfl, hN6⟩ := own_some (m := N + 1) hO6 (by have := HN.out; simp at this ⊢; omega); (have HO6 := Lib.hid (hO6.lower HB.out.size)); (have HB6 := Lib.hid ((HB.out.alloc HB.out.size _).grown hg6 (by have := HB.out.size; simp; omega) (fun k e => by cases e; exact HB.out.size))); (have HN6 := Lib.hid hN6); clear hO6 hg6 hN6))
      go_roundw
      case rel => exact ⟨p, x :: vis, k, g6, cc6, N + 1, rfl, by omega, by omega, HN6, HO6, HRL2, HB6⟩
      case measure => simp; omega
end Go.Proofs.Ytckanomabhbkaaa
