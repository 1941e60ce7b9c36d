/- The reference's Put of reports, walked. -/
import Derived.Test.YtckanomabhbkaaaDD
import Derived.Test.YtckanomabhbkaaaDM
import Derived.Deep.Slices
import Derived.Deep.DeepCutAuto
namespace Go.Proofs.Ytckanomabhbkaaa
open Go.RowKit Go.Shelf
set_option linter.unusedVariables false
theorem row_take {w : World} {A : Option Addr} {l : List Rp} (h : RowAt Rp.cells 3 w A l) (k : Nat) : RowAt Rp.cells 3 w A (l.take k) := by
  refine ⟨by rw [List.length_take]; have := h.1; omega, fun hn => ?_⟩
  rw [List.length_take] at hn
  obtain ⟨ad, e, hc⟩ := h.2 (by omega)
  refine ⟨ad, e, fun i x hx j v hv => hc i x ?_ j v hv⟩
  rw [List.getElem?_take] at hx
  by_cases hi : i < k
  · rwa [if_pos hi] at hx
  · rw [if_neg hi] at hx; cases hx
theorem row_drop {w : World} {ad : Addr} {l : List Rp} (h : RowAt Rp.cells 3 w (some ad) l) (i : Nat) : RowAt Rp.cells 3 w (some (ad.add (i * 3))) (l.drop i) := by
  refine ⟨by rw [List.length_drop]; have := h.1; omega, fun hn => ⟨_, rfl, fun k x hx j v hv => ?_⟩⟩
  rw [List.length_drop] at hn
  obtain ⟨ad', e, hc⟩ := h.2 (by omega)
  cases e
  rw [List.getElem?_drop] at hx
  have := hc (i + k) x hx j v hv
  rw [Go.Deep.add_add, show i * 3 + (k * 3 + j) = (i + k) * 3 + j from by rw [Nat.add_mul]; omega]
  exact this
/-- In a right list: where the report of a node is. -/
theorem rhas_yes {l : List Rp} {n : Int} (h : Rok l) {m : Nat} (hm : ridx l n = m) : rhas l n = true ∧ rpos l n = m := by
  have hr := ridx_range l n
  have hs := ridx_spec (l := l) (n := n) (by omega)
  rw [hm] at hs
  have hml : m < l.length := by omega
  have hp : rpos l n = m := by
    refine rpos_eq (by omega) (fun k hk => ?_) (fun _ => by omega)
    have := List.pairwise_iff_getElem.1 h.inc k m (by omega) hml hk
    rw [gr_elem (by omega)]
    rw [gr_elem hml] at hs
    omega
  refine ⟨?_, hp⟩
  unfold rhas
  rw [hp, hs]
  simp [hml]
theorem rhas_no {l : List Rp} {n : Int} (hm : ridx l n < 0) : rhas l n = false := by
  have hn := ridx_neg hm
  unfold rhas
  by_cases h : rpos l n < l.length
  · have := hn (rpos l n) (by omega) (by omega)
    simp [this]
  · simp [h]
set_option maxHeartbeats 1600000 in
theorem refRput_bad (A : Option Addr) (c : Nat) (l : List Rp) (r : Rp) (w : World) (hr : RpAt w A c l) (hE : rputE l r ≠ 0) :
    Calls Try.prog 46 #[.slice A l.length c, .agg #[.int .i64 r.node, .int .i64 r.parent, .int .i64 r.num]] w fun e w' => RPutAns w.heap.size w' e l r ∧ Below w.heap.size w w' := by
  have HR := Lib.hid hr
  have hu70 := Try.underlying70
  have HW := Lib.hid (show Below w.heap.size w (w.alloc (.cells #[.int .i64 r.node, .int .i64 r.parent, .int .i64 r.num] 70)) from (Below.refl _ _).alloc (Nat.le_refl _) _)
  have HQ := Lib.hid (blk_new w (.cells #[.int .i64 r.node, .int .i64 r.parent, .int .i64 r.num] 70) rfl)
  have hz : (w.alloc (.cells #[.int .i64 r.node, .int .i64 r.parent, .int .i64 r.num] 70)).heap.size = w.heap.size + 1 := by simp
  clear hr
  by_cases h1 : rchk l = 0
  case neg =>
    have b1 : (rchk l != 0) = true := by simp [h1]
    have HE := Lib.hid (show rputE l r = 1 by unfold rputE; rw [if_pos h1])
    clear hE h1
    go_enter Try.func46, Try.ntmps46
    go_wp2_with fail
    refine (refRcheck_any A c l _ (HR.out.below HW.out)).mono ?_
    rintro e w1 ⟨rfl, hb1⟩
    have HB1 := Lib.hid (HW.out.trans (hb1.mono (by omega)))
    clear hb1
    go_wp2
    go_ret3
    exact ⟨RPutAns.bad HE.out (by decide), HB1.out⟩
  have b1 : (rchk l != 0) = false := by simp [h1]
  obtain ⟨E, hEE⟩ : ∃ E, rform r = E := ⟨_, rfl⟩
  have HF := Lib.hid hEE
  have HE := Lib.hid (show rputE l r = E by unfold rputE; rw [if_neg (by rw [h1]; simp), hEE])
  rw [HE.out] at hE
  have b2 : (E != 0) = true := by simp [hE]
  have HN := Lib.hid hE
  clear hE h1 hEE
  go_enter Try.func46, Try.ntmps46
  go_wp2_with fail
  refine (refRcheck_any A c l _ (HR.out.below HW.out)).mono ?_
  rintro e w1 ⟨rfl, hb1⟩
  obtain ⟨q0, q1, q2⟩ := box3 (blk_below HQ.out hb1 (by omega))
  have HB1 := Lib.hid (HW.out.trans (hb1.mono (by omega)))
  clear hb1
  go_wp2_with fail
  refine (rreport_any r _).mono ?_
  rintro e w2 ⟨rfl, hb2⟩
  rw [HF.out]
  have HB2 := Lib.hid (HB1.out.trans (hb2.mono HB1.out.size))
  clear hb2 q0 q1 q2
  set_option maxRecDepth 100000 in go_wp2
  go_ret3
  exact ⟨RPutAns.bad HE.out HN.out, HB2.out⟩
set_option maxHeartbeats 3200000 in
theorem refRput_good (A : Option Addr) (c : Nat) (l : List Rp) (r : Rp) (w : World) (hr : RpAt w A c l) (hE : rputE l r = 0) :
    Calls Try.prog 46 #[.slice A l.length c, .agg #[.int .i64 r.node, .int .i64 r.parent, .int .i64 r.num]] w fun e w' => RPutAns w.heap.size w' e l r ∧ Below w.heap.size w w' := by
  have HR := Lib.hid hr
  have hu70 := Try.underlying70
  have hu68 := Try.underlying68
  have HW := Lib.hid (show Below w.heap.size w (w.alloc (.cells #[.int .i64 r.node, .int .i64 r.parent, .int .i64 r.num] 70)) from (Below.refl _ _).alloc (Nat.le_refl _) _)
  have HQ := Lib.hid (blk_new w (.cells #[.int .i64 r.node, .int .i64 r.parent, .int .i64 r.num] 70) rfl)
  have hz : (w.alloc (.cells #[.int .i64 r.node, .int .i64 r.parent, .int .i64 r.num] 70)).heap.size = w.heap.size + 1 := by simp
  have h1 : rchk l = 0 := by
    by_cases h1 : rchk l = 0
    · exact h1
    · exact absurd hE (by unfold rputE; rw [if_pos h1]; decide)
  have b1 : (rchk l != 0) = false := by simp [h1]
  have hF : rform r = 0 := by unfold rputE at hE; rw [if_neg (by rw [h1]; simp)] at hE; exact hE
  have HF := Lib.hid hF
  have HE := Lib.hid hE
  have HOK := Lib.hid (rchk_iff.1 h1)
  have hl31 := HOK.out.len
  obtain ⟨m, hm⟩ : ∃ m, ridx l r.node = m := ⟨_, rfl⟩
  have HM := Lib.hid hm
  have hmr : -1 ≤ m ∧ m < l.length := by rw [← hm]; exact ridx_range _ _
  have b2 : ((0 : Int) != 0) = false := by simp
  have hcap := hr.cap
  have hle := hr.le
  clear hr hE h1 hF hm
  go_enter Try.func46, Try.ntmps46
  go_wp2_with fail
  refine (refRcheck_any A c l _ (HR.out.below HW.out)).mono ?_
  rintro e w1 ⟨rfl, hb1⟩
  have HQ1 := Lib.hid (blk_below HQ.out hb1 (by omega))
  obtain ⟨q0, q1, q2⟩ := box3 HQ1.out
  have HB1 := Lib.hid (HW.out.trans (hb1.mono (by omega)))
  have hz1 : w.heap.size + 1 ≤ w1.heap.size := by have := hb1.size; omega
  clear hb1
  go_wp2_with fail
  refine (rreport_any r _).mono ?_
  rintro e w2 ⟨rfl, hb2⟩
  rw [HF.out]
  have HQ2 := Lib.hid (blk_below HQ1.out hb2 (blk_lt HQ1.out))
  have HB2 := Lib.hid (HB1.out.trans (hb2.mono HB1.out.size))
  have hz2 : w.heap.size + 1 ≤ w2.heap.size := Nat.le_trans hz1 hb2.size
  clear hb2 q0 q1 q2 HQ1 hz1
  obtain ⟨q0, q1, q2⟩ := box3 HQ2.out
  set_option maxRecDepth 100000 in go_wp2_with fail
  refine (refRindex_any A c l r.node _ (HR.out.below HB2.out)).mono ?_
  rintro e w3 ⟨rfl, rfl⟩
  rw [HM.out]
  have l0 := blk_lt HQ2.out
  have n0 : ¬ w.heap.size = w2.heap.size := by omega
  by_cases hneg : m < 0
  case neg =>
    obtain ⟨p, rfl⟩ : ∃ p : Nat, m = p := ⟨m.toNat, by omega⟩
    have hyes := rhas_yes HOK.out HM.out
    have HBB := Lib.hid hyes.1
    have HP := Lib.hid hyes.2
    have bm : decide ((0 : Int) ≤ p) = true := by simp
    have hpl2 : p < l.length := by omega
    clear hyes hneg
    set_option maxRecDepth 100000 in go_wp2_with (at_builtin; refine Own.append_opt Rp.cells_len Rp.cells_one rfl _ _ 68 70 _ 24 rfl Try.underlying68 info70 rfl (by decide) (by decide) (.slice (some ⟨w2.heap.size, 0, none⟩) 0 0) [] rfl (base := w2.heap.size) (Own.made0 w2 70) A l c rfl (HR.out.row.below (HB2.out.alloc HB2.out.size _)) (by simp) (by simp; omega) ?_; intro v1 w4 hO4 hg4 _; (have hfm := hO4.form); obtain ⟨A4, c4, rfl, hle4, hcm4⟩ := hfm; (have HB4 := Lib.hid ((HB2.out.alloc HB2.out.size (.cells #[] 70)).grown hg4 (by simp; omega) (fun k e => by simp [Value.ownBlock] at e; omega))); (have HO4 := Lib.hid (show Own Rp.cells 3 w4 w2.heap.size 70 (.slice A4 l.length c4) l from by simpa using hO4)); (have HQ4 := Lib.hid (show w4.heap[w.heap.size]? = some (.cells #[.int .i64 r.node, .int .i64 r.parent, .int .i64 r.num] 70 (0, 0)) from (hg4.block w.heap.size (by simp; omega) (by simp [Value.ownBlock]; omega)).trans (blk_old HQ2.out _))); clear hO4 hg4 q0 q1 q2; obtain ⟨q0, q1, q2⟩ := box3 HQ4.out; obtain ⟨ad, rfl, c0, c1, c2⟩ := (HR.out.row.below HB4.out).rp p (by omega) (by omega); rw [Int.toNat_natCast] at c0 c1 c2)
    have g1 : (0 : Int) ≤ p := by omega
    have g2 : (p : Int) < l.length := by omega
    by_cases hnum : r.num ≤ (gr l p).num
    · have HL := Lib.hid (show rputL l r = l by unfold rputL; rw [if_neg (by rw [HE.out]; simp), if_neg (by rw [HBB.out]; simp), HP.out, if_pos hnum])
      have HC := Lib.hid (show rputC l r = false by unfold rputC; rw [if_neg (by rw [HE.out]; simp), if_neg (by rw [HBB.out]; simp), HP.out, if_pos hnum])
      have b3 : decide (r.num ≤ (gr l p).num) = true := by simp [hnum]
      clear hnum
      go_quiet (fail)
      set_option maxRecDepth 100000 in go_wp2
      go_ret3
      exact ⟨RPutAns.good HE.out HL.out HC.out (HO4.out.drewN _).rpAt (HO4.out.freshR (show w.heap.size ≤ w2.heap.size by omega)), blw_drewN HB4.out _⟩
    · have HL := Lib.hid (show rputL l r = l.set p r by unfold rputL; rw [if_neg (by rw [HE.out]; simp), if_neg (by rw [HBB.out]; simp), HP.out, if_neg hnum])
      have HC := Lib.hid (show rputC l r = true by unfold rputC; rw [if_neg (by rw [HE.out]; simp), if_neg (by rw [HBB.out]; simp), HP.out, if_neg hnum])
      have b3 : decide (r.num ≤ (gr l p).num) = false := by simp; omega
      clear hnum
      go_quiet (fail)
      obtain ⟨wq, hwq⟩ : ∃ wq, w4.drewN nq = wq := ⟨_, rfl⟩
      rw [hwq]
      have HO6 : Hid (Own Rp.cells 3 wq w2.heap.size 70 (.slice A4 l.length c4) l) := by rw [← hwq]; exact HO4.out.drewN _
      have HQ6 : Hid (wq.heap[w.heap.size]? = some (.cells #[.int .i64 r.node, .int .i64 r.parent, .int .i64 r.num] 70 (0, 0))) := by rw [← hwq]; exact HQ4.out
      have HB6 : Hid (Below w.heap.size w wq) := by rw [← hwq]; exact blw_drewN HB4.out _
      clear hwq q0 q1 q2 c0 c1 c2 b3 n0 l0
      obtain ⟨g, cur, rfl, hcur, hbg⟩ := HO6.out.someR (by omega)
      obtain ⟨d0, d1, d2⟩ := HO6.out.rpAt.row.rp0 p hpl2
      obtain ⟨q0, q1, q2⟩ := box3 HQ6.out
      have f := blk_free hcur
      have f0 := f (p * 3)
      have f1 := f (p * 3 + 1)
      have f2 := f (p * 3 + 2)
      have hne : ¬ g = w.heap.size := by omega
      clear f hcur
      set_option maxRecDepth 100000 in go_wp2
      go_ret3
      have HS' : Own Rp.cells 3 (st3 wq g (p * 3) r) w2.heap.size 70 (.slice (some ⟨g, 0, none⟩) (l.set p r).length c4) (l.set p r) := by rw [List.length_set]; exact HO6.out.storeR hpl2 r
      refine ⟨?_, HB6.out.grown (st3_grown wq g (p * 3) r) HB6.out.size (fun k e => by cases e; omega)⟩
      have h := RPutAns.good (B := w.heap.size) (w' := st3 wq g (p * 3) r) (A := some ⟨g, 0, none⟩) (c := c4) HE.out HL.out HC.out HS'.rpAt (fun a ha => by cases ha; show w.heap.size ≤ g; omega)
      rw [List.length_set] at h
      exact h
  have HN := Lib.hid (rhas_no (l := l) (n := r.node) (by rw [HM.out]; exact hneg))
  have HC := Lib.hid (show rputC l r = true by unfold rputC; rw [if_neg (by rw [HE.out]; simp), if_pos HN.out])
  have HNE := Lib.hid (ridx_neg (l := l) (n := r.node) (by rw [HM.out]; exact hneg))
  have bm : decide ((0 : Int) ≤ m) = false := by simp; omega
  set_option maxRecDepth 100000 in go_wp2_with (at_builtin; refine Own.append_opt Rp.cells_len Rp.cells_one rfl _ _ 68 70 _ 24 rfl Try.underlying68 info70 rfl (by decide) (by decide) (.slice (some ⟨w2.heap.size, 0, none⟩) 0 0) [] rfl (base := w2.heap.size) (Own.made0 w2 70) A l c rfl (HR.out.row.below (HB2.out.alloc HB2.out.size _)) (by simp) (by simp; omega) ?_; intro v1 w4 hO4 hg4 _; (have hfm := hO4.form); obtain ⟨A4, c4, rfl, hle4, hcm4⟩ := hfm; (have HB4 := Lib.hid ((HB2.out.alloc HB2.out.size (.cells #[] 70)).grown hg4 (by simp; omega) (fun k e => by simp [Value.ownBlock] at e; omega))); (have HQ4 := Lib.hid (show w4.heap[w.heap.size]? = some (.cells #[.int .i64 r.node, .int .i64 r.parent, .int .i64 r.num] 70 (0, 0)) from (hg4.block w.heap.size (by simp; omega) (by simp [Value.ownBlock]; omega)).trans (blk_old HQ2.out _))); clear hO4 hg4 q0 q1 q2)
  have hz4 : w.heap.size < w4.heap.size := blk_lt HQ4.out
  go_loopw [10] (fun v wr => ∃ k : Nat, v = .int .i64 k ∧ k ≤ l.length ∧ Hid (∀ j : Nat, j < k → (gr l j).node < r.node) ∧ Hid (Below w4.heap.size w4 wr)) (fun v _ => (l.length - (intOf v)).toNat)
  case atStart => exact ⟨0, rfl, by omega, fun j h => by omega, Below.refl _ _⟩
  case round =>
    obtain ⟨k, rfl, hkl, HLO, HBT⟩ := hrel
    have HQR := Lib.hid (blk_below HQ4.out HBT.out hz4)
    have HBR := Lib.hid (HB4.out.trans (HBT.out.mono (by omega)))
    obtain ⟨q0, q1, q2⟩ := box3 HQR.out
    by_cases hgo : k < l.length ∧ (gr l k).node < r.node
    · obtain ⟨hlt, hnode⟩ := hgo
      have bk : decide ((k : Int) < l.length) = true := by simp; omega
      have bk' : decide (k < l.length) = true := by simp; omega
      obtain ⟨ad, rfl, c0, c1, c2⟩ := (HR.out.row.below HBR.out).rp k (by omega) (by omega)
      rw [Int.toNat_natCast] at c0 c1 c2
      have g1 : (0 : Int) ≤ k := by omega
      have g2 : (k : Int) < l.length := by omega
      have b3 : decide ((gr l k).node < r.node) = true := by simp [hnode]
      have HLO2 := Lib.hid (show ∀ j : Nat, j < k + 1 → (gr l j).node < r.node from fun j hj => by
        by_cases e : j = k
        · subst e; exact hnode
        · exact HLO.out j (by omega))
      clear hnode
      go_wp2_with fail
      go_quiet (fail)
      go_wp2
      go_roundw
      case rel => exact ⟨k + 1, by simp, by omega, HLO2, blw_drewN HBT.out _⟩
      case measure => simp [intOf]; omega
    · have HP := Lib.hid (show rpos l r.node = k from rpos_eq hkl HLO.out (fun h => fun h' => hgo ⟨h, h'⟩))
      have hor : (decide ((k : Int) < l.length) = false) ∨ (decide ((k : Int) < l.length) = true ∧ k < l.length ∧ decide ((gr l k).node < r.node) = false) := by
        by_cases h : k < l.length
        · have hn : ¬ (gr l k).node < r.node := fun h' => hgo ⟨h, h'⟩
          right; exact ⟨by simp; omega, h, by simp; omega⟩
        · left; simp; omega
      clear hgo
      obtain ⟨T, hT⟩ : ∃ T, l.take k = T := ⟨_, rfl⟩
      obtain ⟨D, hD⟩ : ∃ D, l.drop k = D := ⟨_, rfl⟩
      have HTL := Lib.hid (show T.length = k by rw [← hT, List.length_take]; omega)
      have HDL := Lib.hid (show D.length = l.length - k by rw [← hD, List.length_drop])
      have HL := Lib.hid (show rputL l r = (T ++ [r]) ++ D by unfold rputL; rw [if_neg (by rw [HE.out]; simp), if_pos HN.out, HP.out, hT, hD]; simp)
      have HT := Lib.hid hT
      have HD := Lib.hid hD
      have HRO := Lib.hid HR.out.row
      clear hT hD HN HM HNE HLO HP
      have hrow : A = none ∨ ∃ ad, A = some ad := by cases A <;> simp
      rcases hrow with rfl | ⟨ad, rfl⟩
      · obtain rfl : l = [] := by
          cases l with
          | nil => rfl
          | cons x l => obtain ⟨ad, e, _⟩ := HRO.out.2 (by simp); cases e
        obtain rfl := HR.out.nil rfl
        obtain rfl : k = 0 := by simpa using hkl
        have HTN := Lib.hid (show T = [] by rw [← HT.out]; rfl)
        have HDN := Lib.hid (show D = [] by rw [← HD.out]; rfl)
        clear hor
        go_wp2_with fail
        go_quiet (fail)
        go_wp2_with fail
        obtain ⟨wq, hwq⟩ : ∃ wq, wr.drewN nq = wq := ⟨_, rfl⟩
        rw [hwq]
        have HQQ : Hid (wq.heap[w.heap.size]? = some (.cells #[.int .i64 r.node, .int .i64 r.parent, .int .i64 r.num] 70 (0, 0))) := by rw [← hwq]; exact HQR.out
        have HBQ : Hid (Below w.heap.size w wq) := by rw [← hwq]; exact blw_drewN HBR.out _
        have hzq : w.heap.size < wq.heap.size := blk_lt HQQ.out
        have nzq : ¬ w.heap.size = wq.heap.size := by omega
        clear hwq q0 q1 q2 HQR HBR HBT HB4 HQ4 HQ2
        obtain ⟨q0, q1, q2⟩ := box3 HQQ.out
        obtain ⟨U, hU⟩ : ∃ U, T ++ [r] = U := ⟨_, rfl⟩
        have HU := Lib.hid hU
        have HUL := Lib.hid (show U.length = 1 by rw [← hU, HTN.out]; rfl)
        clear hU
        have HA1 : Hid (Own Rp.cells 3 (wq.alloc (.cells #[] 70)).drew wq.heap.size 70 (.slice (some ⟨wq.heap.size, 0, none⟩) 0 0) ([] : List Rp)) := (Own.made0 wq 70).drew
        have HA2 : Hid (Own Rp.cells 3 ((wq.alloc (.cells #[] 70)).alloc (.cells #[.int .i64 r.node, .int .i64 r.parent, .int .i64 r.num] 70)).drew wq.heap.size 70 (.slice (some ⟨wq.heap.size, 0, none⟩) 0 0) ([] : List Rp)) := ((Own.made0 wq 70).alloc _).drew
        have HA3 : Hid (Own Rp.cells 3 ((wq.alloc (.cells #[.int .i64 r.node, .int .i64 r.parent, .int .i64 r.num] 70)).alloc (.cells #[] 70)).drew wq.heap.size 70 (.slice (some ⟨wq.heap.size + 1, 0, none⟩) 0 0) ([] : List Rp)) := by
          have h := ((Own.made0 (enc := Rp.cells) (k := 3) (wq.alloc (.cells #[.int .i64 r.node, .int .i64 r.parent, .int .i64 r.num] 70)) 70).drew).lower (base' := wq.heap.size) (by simp)
          rw [World.size_alloc] at h
          exact h
        have HV1 : Hid (Below wq.heap.size wq (wq.alloc (.cells #[] 70)).drew) := ((Below.refl wq.heap.size wq).alloc (Nat.le_refl _) _).drew
        have HV2 : Hid (Below wq.heap.size wq ((wq.alloc (.cells #[] 70)).alloc (.cells #[.int .i64 r.node, .int .i64 r.parent, .int .i64 r.num] 70)).drew) := (((Below.refl wq.heap.size wq).alloc (Nat.le_refl _) _).alloc (by simp) _).drew
        have HV3 : Hid (Below wq.heap.size wq ((wq.alloc (.cells #[.int .i64 r.node, .int .i64 r.parent, .int .i64 r.num] 70)).alloc (.cells #[] 70)).drew) := (((Below.refl wq.heap.size wq).alloc (Nat.le_refl _) _).alloc (by simp) _).drew
        have HRT := Lib.hid (show RowAt Rp.cells 3 wq none T from HTN.out ▸ ⟨by simp, fun h => by simp at h⟩)
        have HS1 := Lib.hid (show wq.heap.size < ((wq.alloc (.cells #[] 70)).drew).heap.size by show wq.heap.size < (wq.alloc _).heap.size; simp)
        have HS2 := Lib.hid (show wq.heap.size + 1 < (((wq.alloc (.cells #[] 70)).alloc (.cells #[.int .i64 r.node, .int .i64 r.parent, .int .i64 r.num] 70)).drew).heap.size by show wq.heap.size + 1 < ((wq.alloc _).alloc _).heap.size; simp)
        have HS3 := Lib.hid (show wq.heap.size + 1 < (((wq.alloc (.cells #[.int .i64 r.node, .int .i64 r.parent, .int .i64 r.num] 70)).alloc (.cells #[] 70)).drew).heap.size by show wq.heap.size + 1 < ((wq.alloc _).alloc _).heap.size; simp)
        have HK2 : Hid ((((wq.alloc (.cells #[] 70)).alloc (.cells #[.int .i64 r.node, .int .i64 r.parent, .int .i64 r.num] 70)).drew).heap[wq.heap.size + 1]? = some (.cells #[.int .i64 r.node, .int .i64 r.parent, .int .i64 r.num] 70 (0, 0))) := blk_new (wq.alloc (.cells #[] 70)) _ (by simp)
        have HK3 : Hid ((((wq.alloc (.cells #[.int .i64 r.node, .int .i64 r.parent, .int .i64 r.num] 70)).alloc (.cells #[] 70)).drew).heap[wq.heap.size]? = some (.cells #[.int .i64 r.node, .int .i64 r.parent, .int .i64 r.num] 70 (0, 0))) := blk_old (blk_new wq (.cells #[.int .i64 r.node, .int .i64 r.parent, .int .i64 r.num] 70) rfl) _
        set_option maxRecDepth 100000 in
        go_cut [9] (fun s9 wx => ∃ (A5 : Option Addr) (c5 : Nat), s9 = .slice A5 U.length c5 ∧ Hid (Own Rp.cells 3 wx wq.heap.size 70 (.slice A5 U.length c5) U) ∧ Hid (Below wq.heap.size wq wx))
        case first =>
          go_region_law (first | ((with_reducible refine Own.append_opt_step Rp.cells_len Rp.cells_one rfl (.tmp 58) (.tmp 61) 68 70 _ 24 rfl Try.underlying68 info70 rfl (by decide) (by decide) _ [] ?_ HA1.out none T 0 ?_ (HRT.out.below HV1.out) ?_ ?_ ?_); all_goals (first | (intro v1 w5 hO5 hg5 _; rw [List.nil_append] at hO5; (have hfm := hO5.form); obtain ⟨A5, c5, rfl, _, _⟩ := hfm; (have HX := Lib.hid hO5); (have HB5 := Lib.hid (HV1.out.grown hg5 HV1.out.size (fun k e => by cases e; exact Nat.le_refl _)));  clear hO5 hg5 q0 q1 q2; obtain ⟨q0, q1, q2⟩ := box3 (blk_below HQQ.out HB5.out hzq)) | exact HV1.out.size | (have := HTL.out; simp; omega) | rfl | (simp [Act.eval, HTL.out]; done))) | ((with_reducible refine Own.append_opt_step Rp.cells_len Rp.cells_one rfl (.tmp 58) (.tmp 61) 68 70 _ 24 rfl Try.underlying68 info70 rfl (by decide) (by decide) _ [] ?_ HA2.out none T 0 ?_ (HRT.out.below HV2.out) ?_ ?_ ?_); all_goals (first | (intro v1 w5 hO5 hg5 _; rw [List.nil_append] at hO5; (have hfm := hO5.form); obtain ⟨A5, c5, rfl, _, _⟩ := hfm; (have HX := Lib.hid hO5); (have HB5 := Lib.hid (HV2.out.grown hg5 HV2.out.size (fun k e => by cases e; exact Nat.le_refl _))); (have HRW := Lib.hid (RowAt.at_block3 ((hg5.block (wq.heap.size + 1) HS2.out (by simp [Value.ownBlock])).trans HK2.out))); clear hO5 hg5 q0 q1 q2; obtain ⟨q0, q1, q2⟩ := box3 (blk_below HQQ.out HB5.out hzq)) | exact HV2.out.size | (have := HTL.out; simp; omega) | rfl | (simp [Act.eval, HTL.out]; done))) | ((with_reducible refine Own.append_opt_step Rp.cells_len Rp.cells_one rfl (.tmp 58) (.tmp 61) 68 70 _ 24 rfl Try.underlying68 info70 rfl (by decide) (by decide) _ [] ?_ HA3.out none T 0 ?_ (HRT.out.below HV3.out) ?_ ?_ ?_); all_goals (first | (intro v1 w5 hO5 hg5 _; rw [List.nil_append] at hO5; (have hfm := hO5.form); obtain ⟨A5, c5, rfl, _, _⟩ := hfm; (have HX := Lib.hid hO5); (have HB5 := Lib.hid (HV3.out.grown hg5 HV3.out.size (fun k e => by cases e; exact Nat.le_succ _))); (have HRW := Lib.hid (RowAt.at_block3 ((hg5.block wq.heap.size (by have := HS3.out; omega) (by simp [Value.ownBlock])).trans HK3.out))); clear hO5 hg5 q0 q1 q2; obtain ⟨q0, q1, q2⟩ := box3 (blk_below HQQ.out HB5.out hzq)) | exact HV3.out.size | (have := HTL.out; simp; omega) | rfl | (simp [Act.eval, HTL.out]; done))) | ((with_reducible refine Own.append_step Rp.cells_len Rp.cells_one rfl (.tmp 62) (.tmp 64) 68 70 _ 24 rfl Try.underlying68 info70 rfl (by decide) (by decide) _ T ?_ (HX.out.alloc _) ⟨w5.heap.size, 0, none⟩ [r] 1 ?_ (RowAt.new w5 r #[.int .i64 r.node, .int .i64 r.parent, .int .i64 r.num] 70 rfl) ?_ ?_ ?_); all_goals (first | (intro v1 w6 hO6 hg6 _; rw [HU.out] at hO6; (have hfm := hO6.form); obtain ⟨A6, c6, rfl, _, _⟩ := hfm; (have HO6 := Lib.hid hO6); (have HB6 := Lib.hid ((HB5.out.alloc HB5.out.size (.cells #[.int .i64 r.node, .int .i64 r.parent, .int .i64 r.num] 70)).grown hg6 (by have := HB5.out.size; simp; try omega) (fun k e => (HX.out.lt e).1))); clear hO6 hg6) | (have := HB5.out.size; simp; omega) | (have := HTL.out; simp; omega) | rfl | (simp [Act.eval, HTL.out]; done))) | ((with_reducible refine Own.append_step Rp.cells_len Rp.cells_one rfl (.tmp 62) (.tmp 64) 68 70 _ 24 rfl Try.underlying68 info70 rfl (by decide) (by decide) _ T ?_ HX.out _ [r] 1 ?_ HRW.out ?_ ?_ ?_); all_goals (first | (intro v1 w6 hO6 hg6 _; rw [HU.out] at hO6; (have hfm := hO6.form); obtain ⟨A6, c6, rfl, _, _⟩ := hfm; (have HO6 := Lib.hid hO6); (have HB6 := Lib.hid (HB5.out.grown hg6 (by have := HB5.out.size; simp; try omega) (fun k e => (HX.out.lt e).1))); clear hO6 hg6) | exact HB5.out.size | (have := HTL.out; simp; omega) | rfl | (simp [Act.eval, HTL.out]; done))))
          all_goals
            go_wp2_with fail
            go_meet
            exact ⟨A6, c6, rfl, HO6.out, HB6.out⟩
        case rest =>
          obtain ⟨A5, c5, rfl, HO5, HB5⟩ := hcut
          obtain ⟨V, hV⟩ : ∃ V, U ++ D = V := ⟨_, rfl⟩
          have HVV := Lib.hid hV
          have HL3 := Lib.hid (show rputL [] r = V by rw [HL.out, HU.out, hV])
          clear hV
          have hwz : w.heap.size ≤ wq.heap.size := by omega
          have HZL := Lib.hid (show (U.length + D.length) * 24 ≤ 140737488355328 by rw [HUL.out, HDN.out]; simp)
          go_wp2_with (at_builtin; refine Own.append_opt Rp.cells_len Rp.cells_one rfl _ _ 68 70 _ 24 rfl Try.underlying68 info70 rfl (by decide) (by decide) (.slice A5 U.length c5) U rfl (base := wq.heap.size) HO5.out none D 0 (by rw [HDN.out]; first | rfl | (simp [Act.eval]; done)) (by rw [HDN.out]; exact ⟨by simp, fun h => by simp at h⟩) HB5.out.size HZL.out ?_; intro v1 w7 hO7 hg7 _; rw [HVV.out] at hO7; (have hfm := hO7.form); obtain ⟨A7, c7, rfl, _, _⟩ := hfm; (have HO7 := Lib.hid hO7); (have HB7 := Lib.hid ((HBQ.out.trans (HB5.out.mono hwz)).grown hg7 (Nat.le_trans hwz HB5.out.size) (fun k e => Nat.le_trans hwz (HO5.out.lt e).1))); clear hO7 hg7)
          go_ret3
          exact ⟨RPutAns.good HE.out HL3.out HC.out HO7.out.rpAt (HO7.out.freshR hwz), HB7.out⟩
      have hor2 : (decide ((k : Int) < l.length) = false ∧ decide (k < l.length) = false) ∨ (decide ((k : Int) < l.length) = true ∧ decide ((gr l k).node < r.node) = false ∧ k < l.length ∧ decide (k < l.length) = true ∧ (k : Int) < l.length ∧ wr.cell? (ad.add (k * 3)) = some (.int .i64 (gr l k).node)) :=
        hor.imp (fun b => ⟨b, by simp at b ⊢; omega⟩) (fun ⟨b, hlt, b3⟩ => ⟨b, b3, hlt, by simp [hlt], by omega, (RowAt.rpn (HRO.out.below HBR.out) hlt).1⟩)
      clear hor
      rcases hor2 with ⟨b, b4⟩ | ⟨b, b3, hlt, b4, hlt2, c0⟩
      all_goals
        have g1 : (0 : Int) ≤ k := by omega
        have g3 : (k : Int) ≤ c := by omega
        have g4 : k ≤ l.length := hkl
        go_wp2_with fail
        go_quiet (fail)
        go_wp2_with fail
        obtain ⟨wq, hwq⟩ : ∃ wq, wr.drewN nq = wq := ⟨_, rfl⟩
        rw [hwq]
        have HQQ : Hid (wq.heap[w.heap.size]? = some (.cells #[.int .i64 r.node, .int .i64 r.parent, .int .i64 r.num] 70 (0, 0))) := by rw [← hwq]; exact HQR.out
        have HBQ : Hid (Below w.heap.size w wq) := by rw [← hwq]; exact blw_drewN HBR.out _
        have hzq : w.heap.size < wq.heap.size := blk_lt HQQ.out
        have nzq : ¬ w.heap.size = wq.heap.size := by omega
        clear hwq q0 q1 q2 HQR HBR HBT HB4 HQ4 HQ2
        obtain ⟨q0, q1, q2⟩ := box3 HQQ.out
        obtain ⟨U, hU⟩ : ∃ U, T ++ [r] = U := ⟨_, rfl⟩
        have HU := Lib.hid hU
        have HUL := Lib.hid (show U.length = k + 1 by rw [← hU, List.length_append, HTL.out]; rfl)
        clear hU
        have HA1 : Hid (Own Rp.cells 3 (wq.alloc (.cells #[] 70)).drew wq.heap.size 70 (.slice (some ⟨wq.heap.size, 0, none⟩) 0 0) ([] : List Rp)) := (Own.made0 wq 70).drew
        have HA2 : Hid (Own Rp.cells 3 ((wq.alloc (.cells #[] 70)).alloc (.cells #[.int .i64 r.node, .int .i64 r.parent, .int .i64 r.num] 70)).drew wq.heap.size 70 (.slice (some ⟨wq.heap.size, 0, none⟩) 0 0) ([] : List Rp)) := ((Own.made0 wq 70).alloc _).drew
        have HA3 : Hid (Own Rp.cells 3 ((wq.alloc (.cells #[.int .i64 r.node, .int .i64 r.parent, .int .i64 r.num] 70)).alloc (.cells #[] 70)).drew wq.heap.size 70 (.slice (some ⟨wq.heap.size + 1, 0, none⟩) 0 0) ([] : List Rp)) := by
          have h := ((Own.made0 (enc := Rp.cells) (k := 3) (wq.alloc (.cells #[.int .i64 r.node, .int .i64 r.parent, .int .i64 r.num] 70)) 70).drew).lower (base' := wq.heap.size) (by simp)
          rw [World.size_alloc] at h
          exact h
        have HV1 : Hid (Below wq.heap.size wq (wq.alloc (.cells #[] 70)).drew) := ((Below.refl wq.heap.size wq).alloc (Nat.le_refl _) _).drew
        have HV2 : Hid (Below wq.heap.size wq ((wq.alloc (.cells #[] 70)).alloc (.cells #[.int .i64 r.node, .int .i64 r.parent, .int .i64 r.num] 70)).drew) := (((Below.refl wq.heap.size wq).alloc (Nat.le_refl _) _).alloc (by simp) _).drew
        have HV3 : Hid (Below wq.heap.size wq ((wq.alloc (.cells #[.int .i64 r.node, .int .i64 r.parent, .int .i64 r.num] 70)).alloc (.cells #[] 70)).drew) := (((Below.refl wq.heap.size wq).alloc (Nat.le_refl _) _).alloc (by simp) _).drew
        have HRT := Lib.hid (show RowAt Rp.cells 3 wq (some ad) T by rw [← HT.out]; exact row_take (HRO.out.below HBQ.out) k)
        have HS1 := Lib.hid (show wq.heap.size < ((wq.alloc (.cells #[] 70)).drew).heap.size by show wq.heap.size < (wq.alloc _).heap.size; simp)
        have HS2 := Lib.hid (show wq.heap.size + 1 < (((wq.alloc (.cells #[] 70)).alloc (.cells #[.int .i64 r.node, .int .i64 r.parent, .int .i64 r.num] 70)).drew).heap.size by show wq.heap.size + 1 < ((wq.alloc _).alloc _).heap.size; simp)
        have HS3 := Lib.hid (show wq.heap.size + 1 < (((wq.alloc (.cells #[.int .i64 r.node, .int .i64 r.parent, .int .i64 r.num] 70)).alloc (.cells #[] 70)).drew).heap.size by show wq.heap.size + 1 < ((wq.alloc _).alloc _).heap.size; simp)
        have HK2 : Hid ((((wq.alloc (.cells #[] 70)).alloc (.cells #[.int .i64 r.node, .int .i64 r.parent, .int .i64 r.num] 70)).drew).heap[wq.heap.size + 1]? = some (.cells #[.int .i64 r.node, .int .i64 r.parent, .int .i64 r.num] 70 (0, 0))) := blk_new (wq.alloc (.cells #[] 70)) _ (by simp)
        have HK3 : Hid ((((wq.alloc (.cells #[.int .i64 r.node, .int .i64 r.parent, .int .i64 r.num] 70)).alloc (.cells #[] 70)).drew).heap[wq.heap.size]? = some (.cells #[.int .i64 r.node, .int .i64 r.parent, .int .i64 r.num] 70 (0, 0))) := blk_old (blk_new wq (.cells #[.int .i64 r.node, .int .i64 r.parent, .int .i64 r.num] 70) rfl) _
        set_option maxRecDepth 100000 in
        go_cut [9] (fun s9 wx => ∃ (A5 : Option Addr) (c5 : Nat), s9 = .slice A5 U.length c5 ∧ Hid (Own Rp.cells 3 wx wq.heap.size 70 (.slice A5 U.length c5) U) ∧ Hid (Below wq.heap.size wq wx))
        case first =>
          go_region_law (first | ((with_reducible refine Own.append_opt_step Rp.cells_len Rp.cells_one rfl (.tmp 58) (.tmp 61) 68 70 _ 24 rfl Try.underlying68 info70 rfl (by decide) (by decide) _ [] ?_ HA1.out (some ad) T c ?_ (HRT.out.below HV1.out) ?_ ?_ ?_); all_goals (first | (intro v1 w5 hO5 hg5 _; rw [List.nil_append] at hO5; (have hfm := hO5.form); obtain ⟨A5, c5, rfl, _, _⟩ := hfm; (have HX := Lib.hid hO5); (have HB5 := Lib.hid (HV1.out.grown hg5 HV1.out.size (fun k e => by cases e; exact Nat.le_refl _)));  clear hO5 hg5 q0 q1 q2; obtain ⟨q0, q1, q2⟩ := box3 (blk_below HQQ.out HB5.out hzq)) | exact HV1.out.size | (have := HTL.out; simp; omega) | rfl | (simp [Act.eval, HTL.out]; done))) | ((with_reducible refine Own.append_opt_step Rp.cells_len Rp.cells_one rfl (.tmp 58) (.tmp 61) 68 70 _ 24 rfl Try.underlying68 info70 rfl (by decide) (by decide) _ [] ?_ HA2.out (some ad) T c ?_ (HRT.out.below HV2.out) ?_ ?_ ?_); all_goals (first | (intro v1 w5 hO5 hg5 _; rw [List.nil_append] at hO5; (have hfm := hO5.form); obtain ⟨A5, c5, rfl, _, _⟩ := hfm; (have HX := Lib.hid hO5); (have HB5 := Lib.hid (HV2.out.grown hg5 HV2.out.size (fun k e => by cases e; exact Nat.le_refl _))); (have HRW := Lib.hid (RowAt.at_block3 ((hg5.block (wq.heap.size + 1) HS2.out (by simp [Value.ownBlock])).trans HK2.out))); clear hO5 hg5 q0 q1 q2; obtain ⟨q0, q1, q2⟩ := box3 (blk_below HQQ.out HB5.out hzq)) | exact HV2.out.size | (have := HTL.out; simp; omega) | rfl | (simp [Act.eval, HTL.out]; done))) | ((with_reducible refine Own.append_opt_step Rp.cells_len Rp.cells_one rfl (.tmp 58) (.tmp 61) 68 70 _ 24 rfl Try.underlying68 info70 rfl (by decide) (by decide) _ [] ?_ HA3.out (some ad) T c ?_ (HRT.out.below HV3.out) ?_ ?_ ?_); all_goals (first | (intro v1 w5 hO5 hg5 _; rw [List.nil_append] at hO5; (have hfm := hO5.form); obtain ⟨A5, c5, rfl, _, _⟩ := hfm; (have HX := Lib.hid hO5); (have HB5 := Lib.hid (HV3.out.grown hg5 HV3.out.size (fun k e => by cases e; exact Nat.le_succ _))); (have HRW := Lib.hid (RowAt.at_block3 ((hg5.block wq.heap.size (by have := HS3.out; omega) (by simp [Value.ownBlock])).trans HK3.out))); clear hO5 hg5 q0 q1 q2; obtain ⟨q0, q1, q2⟩ := box3 (blk_below HQQ.out HB5.out hzq)) | exact HV3.out.size | (have := HTL.out; simp; omega) | rfl | (simp [Act.eval, HTL.out]; done))) | ((with_reducible refine Own.append_step Rp.cells_len Rp.cells_one rfl (.tmp 62) (.tmp 64) 68 70 _ 24 rfl Try.underlying68 info70 rfl (by decide) (by decide) _ T ?_ (HX.out.alloc _) ⟨w5.heap.size, 0, none⟩ [r] 1 ?_ (RowAt.new w5 r #[.int .i64 r.node, .int .i64 r.parent, .int .i64 r.num] 70 rfl) ?_ ?_ ?_); all_goals (first | (intro v1 w6 hO6 hg6 _; rw [HU.out] at hO6; (have hfm := hO6.form); obtain ⟨A6, c6, rfl, _, _⟩ := hfm; (have HO6 := Lib.hid hO6); (have HB6 := Lib.hid ((HB5.out.alloc HB5.out.size (.cells #[.int .i64 r.node, .int .i64 r.parent, .int .i64 r.num] 70)).grown hg6 (by have := HB5.out.size; simp; try omega) (fun k e => (HX.out.lt e).1))); clear hO6 hg6) | (have := HB5.out.size; simp; omega) | (have := HTL.out; simp; omega) | rfl | (simp [Act.eval, HTL.out]; done))) | ((with_reducible refine Own.append_step Rp.cells_len Rp.cells_one rfl (.tmp 62) (.tmp 64) 68 70 _ 24 rfl Try.underlying68 info70 rfl (by decide) (by decide) _ T ?_ HX.out _ [r] 1 ?_ HRW.out ?_ ?_ ?_); all_goals (first | (intro v1 w6 hO6 hg6 _; rw [HU.out] at hO6; (have hfm := hO6.form); obtain ⟨A6, c6, rfl, _, _⟩ := hfm; (have HO6 := Lib.hid hO6); (have HB6 := Lib.hid (HB5.out.grown hg6 (by have := HB5.out.size; simp; try omega) (fun k e => (HX.out.lt e).1))); clear hO6 hg6) | exact HB5.out.size | (have := HTL.out; simp; omega) | rfl | (simp [Act.eval, HTL.out]; done))))
          all_goals
            go_wp2_with fail
            go_meet
            exact ⟨A6, c6, rfl, HO6.out, HB6.out⟩
        case rest =>
          obtain ⟨A5, c5, rfl, HO5, HB5⟩ := hcut
          have hkc : (k : Int) ≤ l.length := by omega
          obtain ⟨V, hV⟩ : ∃ V, U ++ D = V := ⟨_, rfl⟩
          have HVV := Lib.hid hV
          have HL3 := Lib.hid (show rputL l r = V by rw [HL.out, HU.out, hV])
          clear hV
          have hwz : w.heap.size ≤ wq.heap.size := by omega
          have HZL := Lib.hid (show (U.length + D.length) * 24 ≤ 140737488355328 by rw [HUL.out, HDL.out]; omega)
          by_cases hck : c = k
          · obtain rfl : k = l.length := by omega
            have HDN := Lib.hid (show D = [] by
              have := HDL.out
              cases D with
              | nil => rfl
              | cons a b => simp at this)
            go_wp2_with (at_builtin; refine Own.append_opt Rp.cells_len Rp.cells_one rfl _ _ 68 70 _ 24 rfl Try.underlying68 info70 rfl (by decide) (by decide) (.slice A5 U.length c5) U rfl (base := wq.heap.size) HO5.out (some ad) D 0 (by rw [HDN.out]; first | rfl | (simp [Act.eval]; done)) (by rw [HDN.out]; exact ⟨by simp, fun h => by simp at h⟩) HB5.out.size HZL.out ?_; intro v1 w7 hO7 hg7 _; rw [HVV.out] at hO7; (have hfm := hO7.form); obtain ⟨A7, c7, rfl, _, _⟩ := hfm; (have HO7 := Lib.hid hO7); (have HB7 := Lib.hid ((HBQ.out.trans (HB5.out.mono hwz)).grown hg7 (Nat.le_trans hwz HB5.out.size) (fun k e => Nat.le_trans hwz (HO5.out.lt e).1))); clear hO7 hg7)
            go_ret3
            exact ⟨RPutAns.good HE.out HL3.out HC.out HO7.out.rpAt (HO7.out.freshR hwz), HB7.out⟩
          · go_wp2_with (at_builtin; refine Own.append_opt Rp.cells_len Rp.cells_one rfl _ _ 68 70 _ 24 rfl Try.underlying68 info70 rfl (by decide) (by decide) (.slice A5 U.length c5) U rfl (base := wq.heap.size) HO5.out (some (ad.add (k * 3))) D (c - k) (by rw [HDL.out]; first | rfl | (simp [Act.eval]; done)) (by rw [← HD.out]; exact row_drop (HRO.out.below (HBQ.out.trans (HB5.out.mono hwz))) k) HB5.out.size HZL.out ?_; intro v1 w7 hO7 hg7 _; rw [HVV.out] at hO7; (have hfm := hO7.form); obtain ⟨A7, c7, rfl, _, _⟩ := hfm; (have HO7 := Lib.hid hO7); (have HB7 := Lib.hid ((HBQ.out.trans (HB5.out.mono hwz)).grown hg7 (Nat.le_trans hwz HB5.out.size) (fun k e => Nat.le_trans hwz (HO5.out.lt e).1))); clear hO7 hg7)
            go_ret3
            exact ⟨RPutAns.good HE.out HL3.out HC.out HO7.out.rpAt (HO7.out.freshR hwz), HB7.out⟩
theorem refRput_any (A : Option Addr) (c : Nat) (l : List Rp) (r : Rp) (w : World) (hr : RpAt w A c l) :
    Calls Try.prog 46 #[.slice A l.length c, .agg #[.int .i64 r.node, .int .i64 r.parent, .int .i64 r.num]] w fun e w' => RPutAns w.heap.size w' e l r ∧ Below w.heap.size w w' := by
  by_cases h : rputE l r = 0
  · exact refRput_good A c l r w hr h
  · exact refRput_bad A c l r w hr h
end Go.Proofs.Ytckanomabhbkaaa
