/- DownwardParents, walked. -/
import Derived.Test.YtckanomabhbkaaaRT
import Derived.Test.YtckanomabhbkaaaRU
import Derived.Test.YtckanomabhbkaaaRX
import Derived.Test.YtckanomabhbkaaaRY
import Derived.Deep.RegionHeld3
namespace Go.Proofs.Ytckanomabhbkaaa
open Go.RowKit Go.Shelf
set_option linter.unusedVariables false
theorem not_before {R : List Int} (h : R.Nodup) {i : Nat} (hi : i < R.length) : hasI (R.take i) (R.getD i 0) = false := by
  cases hb : hasI (R.take i) (R.getD i 0)
  · rfl
  · exfalso
    have hm := hasI_iff.1 hb
    obtain ⟨j, hj, e⟩ := List.getElem_of_mem hm
    rw [List.length_take] at hj
    have hp := List.pairwise_iff_getElem.1 h j i (by omega) hi (by omega)
    rw [List.getElem_take] at e
    apply hp
    rw [e, List.getD_eq_getElem?_getD, List.getElem?_eq_getElem hi]
    rfl
theorem routeE_zero {l : List Rp} {n : Int} (h : routeE l n = 0) : Rok l ∧ routeL l n ≠ [] ∧ routeA l n = routeL l n := by
  have ha : routeA l n = routeL l n := by unfold routeA; rw [if_pos h]
  rw [show routeE l n = if rchk l ≠ 0 then 1 else if nodeB n = false then 2 else if routeL l n = [] then 17 else 0 from rfl] at h
  by_cases k1 : rchk l ≠ 0
  · rw [if_pos k1] at h; cases h
  · rw [if_neg k1] at h
    by_cases k2 : nodeB n = false
    · rw [if_pos k2] at h; cases h
    · rw [if_neg k2] at h
      by_cases k3 : routeL l n = []
      · rw [if_pos k3] at h; cases h
      · exact ⟨rchk_iff.1 (by simpa using k1), k3, ha⟩
set_option maxHeartbeats 12800000 in
theorem downwardParents_any (A : Option Addr) (c : Nat) (l : List Rp) (n : Int) (w : World) (hr : RpAt w A c l) (hw : (Lit.int .i64 n).wf = true) :
    Calls Try.prog 17 #[.slice A l.length c, .int .i64 n] w fun e w' => e = .returned (.bool true) ∧ Below w.heap.size w w' := by
  have HR := Lib.hid hr
  have HA := Lib.hid (awake24_any w)
  have hlc := hr.row.1
  have HP := Lib.hid (fun W (h : Below w.heap.size w W) => Route_any A c l n W (HR.out.below h))
  unfold RouteAns at HP
  obtain ⟨E, hE⟩ : ∃ E, routeE l n = E := ⟨_, rfl⟩
  by_cases h40 : 40 < l.length
  · have b1 : decide ((40 : Int) < l.length) = true := decide_eq_true (by omega)
    have b1' : decide (40 < l.length) = true := decide_eq_true h40
    obtain ⟨Ra, hRa⟩ : ∃ Ra, routeA l n = Ra := ⟨_, rfl⟩
    rw [hE, hRa] at HP
    clear hr hw hE hRa
    go_enter Try.func17, Try.ntmps17
    set_option maxRecDepth 100000 in go_wp2_with (first | (go_at_call 44; refine HA.out.mono ?_; rintro e w1 ⟨rfl, hb1⟩; (have HB1 := Lib.hid hb1); clear hb1) | (go_at_call 62; refine (HP.out _ HB1.out).mono ?_; rintro e w2 ⟨⟨A2, c2, rfl, hI⟩, hb2⟩; (have HB2 := Lib.hid ((HB1.out.trans (hb2.mono HB1.out.size)).alloc (HB1.out.trans (hb2.mono HB1.out.size)).size (.cells #[.slice A2 Ra.length c2] 40))); clear hI hb2))
    go_ret
    exact ⟨rfl, HB2.out⟩
  have b1 : decide ((40 : Int) < l.length) = false := decide_eq_false (by omega)
  have b1' : decide (40 < l.length) = false := decide_eq_false h40
  by_cases hE0 : E = 0
  case neg =>
    have be : (E != 0) = true := by simp [hE0]
    have ha : routeA l n = [] := by unfold routeA; rw [if_neg (by rw [hE]; exact hE0)]
    rw [hE, ha] at HP
    clear hr hw hE ha hE0
    go_enter Try.func17, Try.ntmps17
    set_option maxRecDepth 100000 in go_wp2_with (first | (go_at_call 44; refine HA.out.mono ?_; rintro e w1 ⟨rfl, hb1⟩; (have HB1 := Lib.hid hb1); clear hb1) | (go_at_call 62; refine (HP.out _ HB1.out).mono ?_; rintro e w2 ⟨⟨A2, c2, rfl, hI⟩, hb2⟩; (have HB2 := Lib.hid ((HB1.out.trans (hb2.mono HB1.out.size)).alloc (HB1.out.trans (hb2.mono HB1.out.size)).size (.cells #[.slice A2 0 c2] 40))); clear hI hb2))
    go_ret
    exact ⟨rfl, HB2.out⟩
  subst hE0
  obtain ⟨hok, hne, ha⟩ := routeE_zero hE
  rw [hE, ha] at HP
  have be : ((0 : Int) != 0) = false := rfl
  have HOK := Lib.hid hok
  have HF0 := Lib.hid (routeL_first hne)
  have HFL := Lib.hid (route_last hne)
  have HPAR := Lib.hid (fun i hi => route_parent hok (n := n) hne (i := i) hi)
  obtain ⟨_, hbd, hnd, h3, h4, _⟩ := routeL_prop hne
  have HDUP := Lib.hid (fun i hi => not_before hnd (i := i) hi)
  have HRCH := Lib.hid (show ∀ i, i < (routeL l n).length → hasI (reachT l 32) ((routeL l n).getD i 0) = true from fun i hi => by
    have hm : (routeL l n).getD i 0 ∈ routeL l n := by
      rw [List.getD_eq_getElem?_getD, List.getElem?_eq_getElem hi]
      exact List.getElem_mem hi
    exact hasI_iff.2 (reachT_mem (hbd _ hm).1 (hbd _ hm).2 (route_reach hne hi)))
  have HBD := Lib.hid (show ∀ i, i < (routeL l n).length → 0 ≤ (routeL l n).getD i 0 from fun i hi => by
    have hm : (routeL l n).getD i 0 ∈ routeL l n := by
      rw [List.getD_eq_getElem?_getD, List.getElem?_eq_getElem hi]
      exact List.getElem_mem hi
    exact (hbd _ hm).1)
  have HREA := Lib.hid (fun W (h : Below w.heap.size w W) => reachable_any A c l W (HR.out.below h) hok)
  have HCHI := Lib.hid (fun W m (h : Below w.heap.size w W) h0 => children_any A c l m W (HR.out.below h) hok h0)
  obtain ⟨R, hR⟩ : ∃ R, routeL l n = R := ⟨_, rfl⟩
  rw [hR] at HP HF0 HFL HPAR HDUP HRCH HBD h3 h4
  obtain ⟨N, hN⟩ : ∃ N, R.length = N := ⟨_, rfl⟩
  rw [hN] at HP HFL HPAR HDUP HRCH HBD h3 h4
  have HN := Lib.hid hN
  obtain ⟨M, hM⟩ : ∃ M, N - 1 = M := ⟨_, rfl⟩
  rw [hM] at HFL
  have hNM : (N : Int) - 1 = (M : Int) := by omega
  have w1 : IntKind.i64.wrap (M : Int) = M := IntWalk.i64_in _ (by omega)
  have b2 : ((N : Int) == 0) = false := by simp; omega
  have b3 : decide ((9 : Int) < N) = false := decide_eq_false (by omega)
  have b4 : (n != n) = false := by simp
  have g1 : (0 : Int) ≤ M := by omega
  have g2 : (M : Int) < N := by omega
  have g3 : (0 : Int) < N := by omega
  obtain ⟨T, hT⟩ : ∃ T, reachT l 32 = T := ⟨_, rfl⟩
  rw [hT] at HREA HRCH
  clear hr hw hE hR hbd hnd hN hM hT hok hne ha
  go_enter Try.func17, Try.ntmps17
  set_option maxRecDepth 100000 in go_wp2_with (first | (go_at_call 44; refine HA.out.mono ?_; rintro e w1 ⟨rfl, hb1⟩; (have HB1 := Lib.hid hb1); clear hb1) | (go_at_call 62; refine (HP.out _ HB1.out).mono ?_; rintro e w2 ⟨⟨A2, c2, rfl, hI⟩, hb2⟩; obtain ⟨ad, rfl, k0⟩ := hI.at_.row.int 0 (by rw [HN.out]; omega); obtain ⟨ad', e', k1⟩ := hI.at_.row.int M (by rw [HN.out]; omega); cases e'; rw [HF0.out, show ad.add 0 = ad from rfl] at k0; rw [HFL.out] at k1; (have hnc : N ≤ c2 := by have := hI.at_.le; rwa [HN.out] at this); (have hcm : c2 ≤ 9223372036854775807 := hI.at_.cap); (have hb3 := (Below.refl w2.heap.size w2).alloc (Nat.le_refl _) (.cells #[.slice (some ad) N c2] 40)); (have hq : (w2.alloc (.cells #[.slice (some ad) N c2] 40)).cell? ⟨w2.heap.size, 0, none⟩ = some (.slice (some ad) N c2) := blk_cell (blk_new w2 (.cells #[.slice (some ad) N c2] 40) rfl) 0); obtain ⟨P, hP⟩ : ∃ P, w2.heap.size = P := ⟨_, rfl⟩; (have hb4 := (HB1.out.trans (hb2.mono HB1.out.size)).trans (hb3.mono (HB1.out.trans (hb2.mono HB1.out.size)).size)); obtain ⟨w3, hw3⟩ : ∃ w3, w2.alloc (.cells #[.slice (some ad) N c2] 40) = w3 := ⟨_, rfl⟩; rw [hw3] at hb3 hb4 hq; rw [hP] at hq; (have HRW3 := Lib.hid (hI.at_.row.below hb3)); (have k0 := cell_below hb3 k0); (have k1 := cell_below hb3 k1); (have HB3 := Lib.hid hb4); clear hI hb2 hb3 hb4) | (go_at_call 67; refine (HREA.out _ HB3.out).mono ?_; rintro e w4 ⟨⟨A7, c7, rfl, hrr⟩, hb4⟩; (have HB4 := Lib.hid (HB3.out.trans (hb4.mono HB3.out.size))); (have HRW4 := Lib.hid (HRW3.out.below hb4)); (have HRR4 := Lib.hid hrr); (have hq4 := cell_below hb4 hq); clear hb4 hrr))
  have HQ4 := Lib.hid hq4
  clear k0 k1 hq hq4 hw3 hP HA HP HREA HRW3 HB1 HB3 HF0 HFL b2 b3 b4 be b1 b1' h40
  go_loopw [61] (fun u wr => ∃ i : Nat, u = .int .i64 i ∧ i ≤ N ∧ Hid (Below w4.heap.size w4 wr)) (fun u _ => (N - (intOf u)).toNat)
  case atStart => exact ⟨0, rfl, by omega, Lib.hid (Below.refl _ _)⟩
  case round =>
    obtain ⟨i, rfl, hi, HB⟩ := hrel
    by_cases hlt : i < N
    · have bi : decide ((i : Int) < N) = true := decide_eq_true (by omega)
      have g4 : (0 : Int) ≤ i := by omega
      have g5 : (i : Int) < N := by omega
      have g6 : (i : Int) ≤ c2 := by omega
      have g7 : i ≤ c2 := by omega
      obtain ⟨x, hx⟩ : ∃ x, R.getD i 0 = x := ⟨_, rfl⟩
      have HX := Lib.hid hx
      have k5 := cell_below HB.out HQ4.out
      have k6 : wr.cell? (ad.add i) = some (.int .i64 x) := by
        obtain ⟨ad', e', k⟩ := (HRW4.out.below HB.out).int i (by rw [HN.out]; omega)
        cases e'
        rwa [hx] at k
      have hb5 := ((Below.refl wr.heap.size wr).alloc (Nat.le_refl _) (.cells #[.int .i64 i] 3)).alloc (by simp) (.cells #[.int .i64 x] 3)
      have hp8 : ((wr.alloc (.cells #[.int .i64 i] 3)).alloc (.cells #[.int .i64 x] 3)).cell? ⟨wr.heap.size, 0, none⟩ = some (.int .i64 i) := blk_cell (blk_old (blk_new wr (.cells #[.int .i64 i] 3) rfl) _) 0
      have hp9 : ((wr.alloc (.cells #[.int .i64 i] 3)).alloc (.cells #[.int .i64 x] 3)).cell? ⟨wr.heap.size + 1, 0, none⟩ = some (.int .i64 x) := blk_cell (blk_new (wr.alloc (.cells #[.int .i64 i] 3)) (.cells #[.int .i64 x] 3) (by simp)) 0
      obtain ⟨P8, hP8⟩ : ∃ P8, wr.heap.size = P8 := ⟨_, rfl⟩
      obtain ⟨w5, hw5⟩ : ∃ w5, (wr.alloc (.cells #[.int .i64 i] 3)).alloc (.cells #[.int .i64 x] 3) = w5 := ⟨_, rfl⟩
      rw [hw5] at hb5 hp8 hp9
      rw [hP8] at hp8 hp9
      have k7 := cell_below hb5 k5
      have HB5 := Lib.hid (HB.out.trans (hb5.mono HB.out.size))
      have HRW5 := Lib.hid (HRW4.out.below HB5.out)
      have HRR5 := Lib.hid (HRR4.out.below HB5.out)
      have HCA := Lib.hid (show ∀ p : BelowOf w5, Calls Try.prog 63 #[.slice (some ad) i c2, .int .i64 x] p.W fun e w' => e = .returned (.bool false) ∧ ∃ q : BelowOf w5, w' = q.W from fun p => by
        have h := containsI_any (some ad) c2 (R.take i) x p.W ((HRW5.out.below p.h).takeN i)
        rw [← HX.out, HDUP.out i hlt, List.length_take, HN.out, Nat.min_eq_left hi, HX.out] at h
        exact h.mono fun e w' ⟨k1, k2⟩ => ⟨k1, ⟨p, k2.symm⟩⟩)
      have HCB := Lib.hid (show ∀ p : BelowOf w5, Calls Try.prog 63 #[.slice A7 T.length c7, .int .i64 x] p.W fun e w' => e = .returned (.bool true) ∧ ∃ q : BelowOf w5, w' = q.W from fun p => by
        have h := containsI_any A7 c7 T x p.W (HRR5.out.below p.h)
        rw [← HX.out, HRCH.out i hlt, HX.out] at h
        exact h.mono fun e w' ⟨k1, k2⟩ => ⟨k1, ⟨p, k2.symm⟩⟩)
      clear hb5 hx
      set_option maxRecDepth 100000 in go_wp2_with fail
      have q5 := BelowOf.cell k7
      have q8 := BelowOf.cell hp8
      have q9 := BelowOf.cell hp9
      set_option maxRecDepth 100000 in refine wp_region_below (by kernel_rfl) (by kernel_rfl) ?_
      set_option maxRecDepth 100000 in repeat (go_big_quiet_step ((first | (go_at_call 63; exact HCA.out _) | (go_at_call 63; exact HCB.out _))))
      refine wpQuiet_nil ?_
      rintro W6 ⟨p6, hp6⟩
      have HB6 : Below w5.heap.size w5 W6 := by rw [hp6]; exact p6.h
      clear hp6 p6
      have HB7 := Lib.hid (HB5.out.trans (HB6.mono HB5.out.size))
      have r5 := cell_below HB6 k7
      have r8 := cell_below HB6 hp8
      have r9 := cell_below HB6 hp9
      have HRW6 := Lib.hid (HRW5.out.below HB6)
      clear q5 q8 q9 k5 k6 k7 hp8 hp9 hw5 HCA HCB HRR5 HRW5 HB5 hP8 HB6
      set_option maxRecDepth 100000 in go_wp2_with fail
      by_cases h0 : i = 0
      · subst h0
        have d0 : decide (((0 : Nat) : Int) > 0) = false := rfl
        have q8 := BelowOf.cell r8
        set_option maxRecDepth 100000 in refine wp_region_below (by kernel_rfl) (by kernel_rfl) ?_
        set_option maxRecDepth 100000 in repeat (go_big_quiet_step (fail))
        refine wpQuiet_nil ?_
        rintro W8 ⟨p8, hp8⟩
        have HB8 : Below W6.heap.size W6 W8 := by rw [hp8]; exact p8.h
        clear hp8 p8
        have HB9 := Lib.hid (HB7.out.trans (HB8.mono HB7.out.size))
        clear HB8
        set_option maxRecDepth 100000 in go_wp2_with fail
        go_roundw
        case rel => exact ⟨1, by simp, by omega, HB9⟩
        case measure => simp [intOf]; omega
      · obtain ⟨k, hk⟩ : ∃ k, i = k + 1 := ⟨i - 1, by omega⟩
        have d0 : decide ((0 : Int) < i) = true := decide_eq_true (by omega)
        have d1 : decide (0 < i) = true := decide_eq_true (by omega)
        have d2 : 0 < i := by omega
        have hik : (i : Int) - 1 = (k : Int) := by omega
        have wk : IntKind.i64.wrap (k : Int) = k := IntWalk.i64_in _ (by omega)
        have j1 : (0 : Int) ≤ k := by omega
        have j2 : (k : Int) < N := by omega
        obtain ⟨y, hy⟩ : ∃ y, R.getD k 0 = y := ⟨_, rfl⟩
        have HY := Lib.hid hy
        have rk : W6.cell? (ad.add k) = some (.int .i64 y) := by
          obtain ⟨ad', e', kk⟩ := HRW6.out.int k (by rw [HN.out]; omega)
          cases e'
          rwa [hy] at kk
        have hy0 : 0 ≤ y := by rw [← hy]; exact HBD.out k (by omega)
        obtain ⟨xr, hxr, hxn, hxp⟩ := HPAR.out k (by omega)
        rw [← hk, HX.out] at hxn
        rw [hy] at hxp
        have HKEEP := Lib.hid (show ∀ W w' : World, (W.cell? ⟨P, 0, none⟩ = some (.slice (some ad) N c2) ∧ W.cell? ⟨P8, 0, none⟩ = some (.int .i64 i) ∧ W.cell? ⟨P8 + 1, 0, none⟩ = some (.int .i64 x) ∧ W.cell? (ad.add k) = some (.int .i64 y) ∧ Hid (Below W6.heap.size W6 W)) → Below W.heap.size W w' → (w'.cell? ⟨P, 0, none⟩ = some (.slice (some ad) N c2) ∧ w'.cell? ⟨P8, 0, none⟩ = some (.int .i64 i) ∧ w'.cell? ⟨P8 + 1, 0, none⟩ = some (.int .i64 x) ∧ w'.cell? (ad.add k) = some (.int .i64 y) ∧ Hid (Below W6.heap.size W6 w')) from fun W w' ⟨e1, e2, e3, e4, e5⟩ hb => ⟨cell_below hb e1, cell_below hb e2, cell_below hb e3, cell_below hb e4, Lib.hid (e5.out.trans (hb.mono e5.out.size))⟩)
        have HC1 := Lib.hid (show ∀ W : World, (W.cell? ⟨P, 0, none⟩ = some (.slice (some ad) N c2) ∧ W.cell? ⟨P8, 0, none⟩ = some (.int .i64 i) ∧ W.cell? ⟨P8 + 1, 0, none⟩ = some (.int .i64 x) ∧ W.cell? (ad.add k) = some (.int .i64 y) ∧ Hid (Below W6.heap.size W6 W)) → Calls Try.prog 54 #[.slice A l.length c, .func (.func 68) #[] #[.pointer (some ⟨P8 + 1, 0, none⟩), .pointer (some ⟨P, 0, none⟩), .pointer (some ⟨P8, 0, none⟩)]] W fun e w' => e = .returned (.bool true) ∧ (w'.cell? ⟨P, 0, none⟩ = some (.slice (some ad) N c2) ∧ w'.cell? ⟨P8, 0, none⟩ = some (.int .i64 i) ∧ w'.cell? ⟨P8 + 1, 0, none⟩ = some (.int .i64 x) ∧ w'.cell? (ad.add k) = some (.int .i64 y) ∧ Hid (Below W6.heap.size W6 w')) from fun W hS => by
          obtain ⟨e1, e2, e3, e4, e5⟩ := hS
          have hBW : Below w.heap.size w W := HB4.out.trans ((HB7.out.trans (e5.out.mono HB7.out.size)).mono HB4.out.size)
          have h := containsR_any (fun r => r.node == x && r.parent == y) 68 #[.pointer (some ⟨P8 + 1, 0, none⟩), .pointer (some ⟨P, 0, none⟩), .pointer (some ⟨P8, 0, none⟩)] A c l W (HR.out.below hBW).row (enters_of Try.func68 (by kernel_rfl) rfl) (fun W' r hW' => (pred68_any (P8 + 1) P P8 r x y k (some ad) N c2 R W' (cell_below hW' e3) (cell_below hW' e1) (by rw [← show (i : Int) = (k : Int) + 1 by omega]; exact cell_below hW' e2) HN.out.symm ((HRW6.out.below e5.out).below hW') (by omega) (by omega) HY.out).mono fun e w' ⟨h1, h2⟩ => ⟨h1, hW'.trans (h2.mono hW'.size)⟩)
          rw [show l.any (fun r => r.node == x && r.parent == y) = true from List.any_eq_true.2 ⟨xr, hxr, by simp [hxn, hxp]⟩] at h
          exact h.mono fun e w' ⟨h1, h2⟩ => ⟨h1, HKEEP.out W w' ⟨e1, e2, e3, e4, e5⟩ h2⟩)
        have HC2 := Lib.hid (show ∀ W : World, (W.cell? ⟨P, 0, none⟩ = some (.slice (some ad) N c2) ∧ W.cell? ⟨P8, 0, none⟩ = some (.int .i64 i) ∧ W.cell? ⟨P8 + 1, 0, none⟩ = some (.int .i64 x) ∧ W.cell? (ad.add k) = some (.int .i64 y) ∧ Hid (Below W6.heap.size W6 W)) → Calls Try.prog 69 #[.slice A l.length c, .int .i64 y] W fun e w' => (∃ A9 c9, e = .returned (.slice A9 (childT l y).length c9) ∧ Hid (RowAt intc 1 w' A9 (childT l y))) ∧ (w'.cell? ⟨P, 0, none⟩ = some (.slice (some ad) N c2) ∧ w'.cell? ⟨P8, 0, none⟩ = some (.int .i64 i) ∧ w'.cell? ⟨P8 + 1, 0, none⟩ = some (.int .i64 x) ∧ w'.cell? (ad.add k) = some (.int .i64 y) ∧ Hid (Below W6.heap.size W6 w')) from fun W hS => by
          obtain ⟨e1, e2, e3, e4, e5⟩ := hS
          have hBW : Below w.heap.size w W := HB4.out.trans ((HB7.out.trans (e5.out.mono HB7.out.size)).mono HB4.out.size)
          exact (HCHI.out W y hBW hy0).mono fun e w' ⟨⟨A9, c9, h1, h3⟩, h2⟩ => ⟨⟨A9, c9, h1, Lib.hid h3⟩, HKEEP.out W w' ⟨e1, e2, e3, e4, e5⟩ h2⟩)
        have HCM := Lib.hid (show hasI (childT l y) x = true from hasI_iff.2 (childT_mem hy0 hxr hxp hxn))
        have HS0 : W6.drew.cell? ⟨P, 0, none⟩ = some (.slice (some ad) N c2) ∧ W6.drew.cell? ⟨P8, 0, none⟩ = some (.int .i64 i) ∧ W6.drew.cell? ⟨P8 + 1, 0, none⟩ = some (.int .i64 x) ∧ W6.drew.cell? (ad.add k) = some (.int .i64 y) ∧ Hid (Below W6.heap.size W6 W6.drew) := ⟨r5, r8, r9, rk, Lib.hid (Below.refl _ W6).drew⟩
        obtain ⟨C, hC⟩ : ∃ C, childT l y = C := ⟨_, rfl⟩
        rw [hC] at HC2 HCM
        clear hy hxr hxn hxp hk hC HKEEP r5 r8 r9 rk
        set_option maxRecDepth 100000 in go_region_held3 (fun w' => w'.cell? ⟨P, 0, none⟩ = some (.slice (some ad) N c2) ∧ w'.cell? ⟨P8, 0, none⟩ = some (.int .i64 i) ∧ w'.cell? ⟨P8 + 1, 0, none⟩ = some (.int .i64 x) ∧ w'.cell? (ad.add k) = some (.int .i64 y) ∧ Hid (Below W6.heap.size W6 w')) (assumption) (first | (go_at_call 54; refine (HC1.out _ (by assumption)).mono ?_; rintro e w7 ⟨rfl, hS7⟩) | (go_at_call 69; refine (HC2.out _ (by assumption)).mono ?_; rintro e w8 ⟨⟨A9, c9, rfl, hS8r⟩, hS8⟩) | (go_at_call 63; refine (containsI_any A9 c9 C x _ hS8r.out).mono ?_; rw [HCM.out]; rintro e w9 ⟨rfl, rfl⟩))
        have HB9 := Lib.hid (HB7.out.trans (hS8.2.2.2.2.out.mono HB7.out.size))
        set_option maxRecDepth 100000 in go_wp2_with fail
        go_roundw
        case rel => exact ⟨i + 1, by simp, by omega, HB9⟩
        case measure => simp [intOf]; omega
    · have bi : decide ((i : Int) < N) = false := decide_eq_false (by omega)
      set_option maxRecDepth 100000 in go_wp2
      go_ret
      exact ⟨rfl, HB4.out.trans (HB.out.mono HB4.out.size)⟩
end Go.Proofs.Ytckanomabhbkaaa
