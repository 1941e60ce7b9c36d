/- Walk of the program; DownwardWalks: walked. -/
import Derived.Test.YtckanomabhbkaaaRW
import Derived.Test.YtckanomabhbkaaaRL
namespace Go.Proofs.Ytckanomabhbkaaa
open Go.RowKit Go.Shelf
set_option linter.unusedVariables false
theorem wayF_prop {l : List Rp} : ∀ (k : Nat) (n : Int) (vis : List Int), (wayF l k n vis).Nodup ∧ (∀ x ∈ wayF l k n vis, (0 ≤ x ∧ x < 32) ∧ x ∉ vis)
  | 0, n, vis => by simp [wayF]
  | k + 1, n, vis => by
    by_cases h : nodeB n = false ∨ n ∈ vis
    · rw [wayF_end h]; simp
    · simp only [not_or, Bool.not_eq_false] at h
      rw [wayF_new h.1 h.2]
      by_cases h0 : n = 0 ∨ rhas l n = false
      · rw [if_pos h0]
        refine ⟨by simp, fun x hx => ?_⟩
        rw [List.mem_singleton] at hx
        subst hx
        exact ⟨nodeB_iff.1 h.1, h.2⟩
      · rw [if_neg h0]
        obtain ⟨h1, h2⟩ := wayF_prop k (gr l (rpos l n)).parent (n :: vis)
        refine ⟨List.nodup_cons.2 ⟨fun hm => (h2 n hm).2 (by simp), h1⟩, fun x hx => ?_⟩
        rw [List.mem_cons] at hx
        rcases hx with rfl | hx
        · exact ⟨nodeB_iff.1 h.1, h.2⟩
        · have := h2 x hx
          exact ⟨this.1, fun hv => this.2 (by simp [hv])⟩
theorem routeL_prop {l : List Rp} {n : Int} (h : routeL l n ≠ []) : routeL l n = (wayL l n).reverse ∧ (∀ x ∈ routeL l n, 0 ≤ x ∧ x < 32) ∧ (routeL l n).Nodup ∧ 1 ≤ (routeL l n).length ∧ (routeL l n).length ≤ 9 ∧ (routeL l n).headD 1 = 0 := by
  have he : routeL l n = (wayL l n).reverse ∧ (wayL l n).reverse ≠ [] ∧ (wayL l n).reverse.headD 1 = 0 ∧ (wayL l n).reverse.length ≤ 9 := by
    unfold routeL at h ⊢
    by_cases hc : (wayL l n).reverse = [] ∨ (wayL l n).reverse.headD 1 ≠ 0 ∨ 9 < (wayL l n).reverse.length
    · rw [if_pos hc] at h; exact absurd rfl h
    · rw [if_neg hc]
      simp only [not_or, Classical.not_not] at hc
      exact ⟨rfl, hc.1, hc.2.1, by omega⟩
  obtain ⟨h1, h2, h3, h4⟩ := he
  have hp := wayF_prop (l := l) 33 n []
  rw [h1]
  refine ⟨rfl, fun x hx => ?_, ?_, ?_, h4, h3⟩
  · rw [List.mem_reverse] at hx
    exact (hp.2 x hx).1
  · exact ((List.reverse_perm _).nodup_iff).2 hp.1
  · cases hq : (wayL l n).reverse with
    | nil => exact absurd hq h2
    | cons a t => simp
theorem routeL_hdr {l : List Rp} {n : Int} (h : routeL l n ≠ []) : hdrE (routeL l n) = 0 := by
  obtain ⟨_, h1, h2, h3, h4, _⟩ := routeL_prop h
  exact hdrE_of h1 h2 h3 h4
theorem routeL_first {l : List Rp} {n : Int} (h : routeL l n ≠ []) : (routeL l n).getD 0 0 = 0 := by
  obtain ⟨_, _, _, h3, _, h5⟩ := routeL_prop h
  cases hq : routeL l n with
  | nil => exact absurd hq h
  | cons a t => rw [hq] at h5; exact h5
theorem hS_toList (R : List Int) (j : Nat) : (hS R j).toList = (R.drop (j + 1)).map byteI := by rw [ByteArray.toList_eq]; exact hS_sI R j
set_option maxHeartbeats 6400000 in
theorem walk_any (A : Option Addr) (c : Nat) (l : List Rp) (n : Int) (w : World) (hr : RpAt w A c l) :
    Calls Try.prog 65 #[.slice A l.length c, .int .i64 n] w fun e w' => RouteAns w.heap.size w' e l n ∧ Below w.heap.size w w' := by
  have HRO := Lib.hid (Route_any A c l n w hr)
  have hlc := hr.row.1
  unfold RouteAns at HRO
  obtain ⟨E, hE⟩ : ∃ E, routeE l n = E := ⟨_, rfl⟩
  by_cases h0 : E = 0
  case neg =>
    have b1 : (E != 0) = true := by simp [h0]
    have ha : routeA l n = [] := by unfold routeA; rw [if_neg (by rw [hE]; exact h0)]
    have HE := Lib.hid hE
    have HN := Lib.hid h0
    rw [hE, ha] at HRO
    clear hr hE h0 ha
    go_enter Try.func65, Try.ntmps65
    set_option maxRecDepth 100000 in go_wp2_with (go_at_call 62; refine HRO.out.mono ?_; rintro e w1 ⟨⟨A1, c1, rfl, hI⟩, hb1⟩; (have HB1 := Lib.hid hb1); clear hI hb1)
    go_ret2
    exact ⟨RouteAns.bad HE.out HN.out, HB1.out⟩
  subst h0
  have HE := Lib.hid hE
  have hne : routeL l n ≠ [] := by
    intro h
    rw [show routeE l n = if rchk l ≠ 0 then 1 else if nodeB n = false then 2 else if routeL l n = [] then 17 else 0 from rfl] at hE
    by_cases k1 : rchk l ≠ 0
    · rw [if_pos k1] at hE; cases hE
    · rw [if_neg k1] at hE
      by_cases k2 : nodeB n = false
      · rw [if_pos k2] at hE; cases hE
      · rw [if_neg k2, if_pos h] at hE; cases hE
  have ha : routeA l n = routeL l n := by unfold routeA; rw [if_pos hE]
  rw [hE, ha] at HRO
  have HH0 := Lib.hid (routeL_hdr hne)
  have HF0 := Lib.hid (routeL_first hne)
  obtain ⟨_, h1, h2, h3, h4, _⟩ := routeL_prop hne
  obtain ⟨R, hR⟩ : ∃ R, routeL l n = R := ⟨_, rfl⟩
  rw [hR] at HRO HH0 HF0 h3 h4
  have HRR := Lib.hid hR
  obtain ⟨N, hN⟩ : ∃ N, R.length = N := ⟨_, rfl⟩
  rw [hN] at HRO h3 h4
  have HN := Lib.hid hN
  have HV := Lib.hid (hS_zero HH0.out)
  have HT1 := Lib.hid (show R.take (0 + 1) = [0] by
    rw [take_succ_getD (by rw [hN]; omega), HF0.out]; rfl)
  have b1 : ((0 : Int) != 0) = false := rfl
  clear hr hE hne ha h1 h2 hR hN
  have HHC := Lib.hid (fun A1 c1 W (h : SlAt intc 1 W A1 c1 R) => header_any A1 c1 R W h)
  rw [HN.out, HH0.out, HV.out] at HHC
  obtain ⟨v, hv⟩ : ∃ v, hS R 0 = v := ⟨_, rfl⟩
  rw [hv] at HHC
  have HVV := Lib.hid hv
  clear hv
  go_enter Try.func65, Try.ntmps65
  set_option maxRecDepth 100000 in go_wp2_with (first | (go_at_call 62; refine HRO.out.mono ?_; rintro e w1 ⟨⟨A1, c1, rfl, hI⟩, hb1⟩; (have HB1 := Lib.hid hb1); (have HI := Lib.hid hI.at_); clear hI hb1) | (go_at_call 50; refine (HHC.out _ _ _ HI.out).mono ?_; rintro e w2 ⟨rfl, hb2⟩; (have HB2 := Lib.hid (HB1.out.trans (hb2.mono HB1.out.size))); clear hb2))
  go_loopw [8, 10] (fun a8 a10 wr => ∃ (j g cc : Nat) (S0 : ByteArray), a8 = .string S0 ∧ a10 = .slice (some ⟨g, 0, none⟩) (j + 1) cc ∧ j + 1 ≤ N ∧ Hid (S0 = hS R j) ∧ Hid (Own intc 1 wr w.heap.size 3 (.slice (some ⟨g, 0, none⟩) (j + 1) cc) (R.take (j + 1))) ∧ Hid (Below w.heap.size w wr)) (fun _ a10 _ => match a10 with | .slice _ m _ => 10 - m | _ => 0)
  case atStart => exact ⟨0, w2.heap.size, 1, v, rfl, rfl, by omega, Lib.hid HVV.out.symm, Lib.hid (by rw [HT1.out]; exact own_lit1 rfl HB2.out.size 0), Lib.hid (HB2.out.alloc HB2.out.size _)⟩
  case round =>
    obtain ⟨j, g, cc, S0, rfl, rfl, hj, HS0, HO, HB⟩ := hrel
    have hcp := own_cap HO.out
    have hNc := hcp.2.1
    have hcm := hcp.2.2
    have htl := hcp.1
    unfold maxLen at hcm
    by_cases hlt : j + 1 < N
    · have t0 : ¬ S0.toList = [] := by
        rw [HS0.out, hS_toList]
        intro e
        have := congrArg List.length e
        rw [List.length_map, List.length_drop, HN.out] at this
        simp at this; omega
      have t1 : S0.toList.isEmpty = false := by simpa using t0
      obtain ⟨x, hx⟩ : ∃ x, R.getD j 0 = x := ⟨_, rfl⟩
      obtain ⟨y, hy⟩ : ∃ y, R.getD (j + 1) 0 = y := ⟨_, rfl⟩
      obtain ⟨S1, hS1⟩ : ∃ S1, hS R (j + 1) = S1 := ⟨_, rfl⟩
      have HSE := Lib.hid (show stepAns S0 x = .tuple #[.int .i64 y, .string S1, .int .i64 0] by rw [HS0.out, ← hx, ← hy, ← hS1]; exact hS_step HH0.out (by rw [HN.out]; exact hlt))
      have HT := Lib.hid (fun W => step_any S0 x W (by rw [HS0.out, hS_size, HN.out]; omega))
      rw [HSE.out] at HT
      have q0 : wr.cell? ⟨g, j, none⟩ = some (.int .i64 x) := own_cell1 (v := inv) (show Own (fun x => [inv x]) 1 wr w.heap.size 3 (.slice (some ⟨g, 0, none⟩) (R.take (j + 1)).length cc) (R.take (j + 1)) by rw [← htl]; exact HO.out) j x (by
        rw [List.getElem?_take, if_pos (by omega), ← hx, List.getD_eq_getElem?_getD, List.getElem?_eq_getElem (by rw [HN.out]; omega)]; rfl)
      have HTK := Lib.hid (show R.take (j + 1 + 1) = R.take (j + 1) ++ [y] by rw [take_succ_getD (by rw [HN.out]; exact hlt), hy])
      have HS1 := Lib.hid hS1.symm
      have HTL := Lib.hid htl
      have g1 : (0 : Int) ≤ j := by omega
      clear hcp htl hx hy hS1
      set_option maxRecDepth 100000 in go_wp2_with (first | (go_at_call 52; refine (HT.out _).mono ?_; rintro e w4 ⟨rfl, hb4⟩; (have HO4 := Lib.hid (HO.out.kept (below_grown hb4) (by right; simp [Value.ownBlock]))); (have HB4 := Lib.hid (HB.out.trans (hb4.mono HB.out.size))); clear hb4) | (at_builtin; refine Own.append intc_len intc_one rfl _ _ 40 3 (.int .i64 0) 8 rfl Try.underlying40 info3 rfl (by decide) (by decide) (.slice (some ⟨g, 0, none⟩) (j + 1) cc) (R.take (j + 1)) rfl (base := w.heap.size) (HO4.out.alloc _) ⟨w4.heap.size, 0, none⟩ [y] 1 rfl (RowAt.new w4 y #[.int .i64 y] 3 rfl) (by have := HB4.out.size; simp; omega) (by have := HTL.out; simp at this ⊢; omega) ?_; intro v1 w6 hO6 hg6 _; obtain ⟨g6, cc6, rfl, hN6⟩ := own_some (m := j + 1 + 1) hO6 (by have := HTL.out; simp at this ⊢; omega); (have HO6 := Lib.hid hO6); (have HB6 := Lib.hid ((HB4.out.alloc HB4.out.size _).grown hg6 (by have := HB4.out.size; simp; omega) (fun k e => (HO4.out.lt e).1))); clear hO6 hg6 hN6))
      go_roundw
      case rel => exact ⟨j + 1, g6, cc6, S1, rfl, rfl, by omega, HS1, Lib.hid (by rw [HTK.out]; exact HO6.out), HB6⟩
      case measure => simp; omega
    · have t0 : S0.toList = [] := by
        rw [HS0.out, hS_toList, List.drop_of_length_le (by rw [HN.out]; omega)]; rfl
      have HS1 := Lib.hid (show Own intc 1 wr w.heap.size 3 (.slice (some ⟨g, 0, none⟩) R.length cc) R by
        have h := HO.out
        rw [List.take_of_length_le (by rw [HN.out]; omega)] at h
        rw [HN.out, show N = j + 1 by omega]
        exact h)
      clear hcp htl
      set_option maxRecDepth 100000 in go_wp2
      go_ret2
      exact ⟨RouteAns.good HE.out HRR.out (by rw [HN.out]; omega) ⟨HS1.out.slAt intc_len, HS1.out.freshR (Nat.le_refl _), ⟨(fun h => by cases h), (fun h => by have := HN.out; rw [h] at this; simp at this; omega)⟩⟩, HB.out⟩
set_option maxHeartbeats 3200000 in
theorem downwardWalks_any (A : Option Addr) (c : Nat) (l : List Rp) (n : Int) (w : World) (hr : RpAt w A c l) (hw : (Lit.int .i64 n).wf = true) :
    Calls Try.prog 16 #[.slice A l.length c, .int .i64 n] w fun e w' => e = .returned (.bool true) ∧ Below w.heap.size w w' := by
  have HR := Lib.hid hr
  have HA := Lib.hid (awake24_any w)
  have hb := hr.row.1
  clear hr hw
  by_cases h40 : 40 < l.length
  · have b1 : decide ((40 : Int) < l.length) = true := by simp; omega
    have b1' : decide (40 < l.length) = true := by simp; omega
    go_enter Try.func16, Try.ntmps16
    go_wp2_with (go_at_call 44; refine HA.out.mono ?_; rintro e w1 ⟨rfl, hb1⟩; (have HB1 := Lib.hid hb1); clear hb1)
    go_ret
    exact ⟨rfl, HB1.out⟩
  have b1 : decide ((40 : Int) < l.length) = false := by simp; omega
  have b1' : decide (40 < l.length) = false := by simp; omega
  have HP := Lib.hid (fun W (h : Below w.heap.size w W) => walk_any A c l n W (HR.out.below h))
  have HP2 := Lib.hid (fun W (h : Below w.heap.size w W) => refRoute_any A c l n W (HR.out.below h))
  unfold RouteAns at HP HP2
  obtain ⟨E, hE⟩ : ∃ E, routeE l n = E := ⟨_, rfl⟩
  obtain ⟨R, hR⟩ : ∃ R, routeA l n = R := ⟨_, rfl⟩
  rw [hE, hR] at HP HP2
  clear hE hR
  go_enter Try.func16, Try.ntmps16
  set_option maxRecDepth 100000 in go_wp2_with (first | (go_at_call 44; refine HA.out.mono ?_; rintro e w1 ⟨rfl, hb1⟩; (have HB1 := Lib.hid hb1); clear hb1) | (go_at_call 65; refine (HP.out _ HB1.out).mono ?_; rintro e w2 ⟨⟨A2, c2, rfl, hI⟩, hb2⟩; (have HB2 := Lib.hid (HB1.out.trans (hb2.mono HB1.out.size))); (have HX2 := Lib.hid hI.at_.row); clear hb2 hI) | (go_at_call 66; refine (HP2.out _ HB2.out).mono ?_; rintro e w3 ⟨⟨A3, c3, rfl, hI⟩, hb3⟩; (have HX3 := Lib.hid (HX2.out.below hb3)); (have HB3 := Lib.hid (HB2.out.trans (hb3.mono HB2.out.size))); (have HY3 := Lib.hid hI.at_.row); clear hb3 hI) | (go_at_call 64; refine (equalI_any A2 _ c2 R A3 _ c3 R _ rfl rfl HX3.out HY3.out).mono ?_; rintro e w6 ⟨rfl, hb6⟩; (have hs : eqI R R = true := by unfold eqI; exact decide_eq_true rfl); rw [hs]; (have HB6 := Lib.hid (HB3.out.trans (hb6.mono HB3.out.size))); clear hb6))
  go_ret
  exact ⟨rfl, HB6.out⟩
end Go.Proofs.Ytckanomabhbkaaa
