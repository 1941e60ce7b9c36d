/- The reference's Ahead and Bound, walked. -/
import Derived.Test.YtckanomabhbkaaaQX3
import Derived.Maps.RangeWalk
namespace Go.Proofs.Ytckanomabhbkaaa
open Go.RowKit Go.Shelf
set_option linter.unusedVariables false
theorem takeP_bad {L : Int} {l : List Pk} {id : Int} (h : aheadE L l id ≠ 0) : takeP L l id = Pk.zero := by unfold takeP; rw [if_neg h]
theorem takeP_good {L : Int} {l : List Pk} {id : Int} (h : aheadE L l id = 0) : takeP L l id = gp l (idx l id) := by unfold takeP; rw [if_pos h]
set_option maxHeartbeats 1600000 in
theorem refAhead_any (L : Int) (A : Option Addr) (c : Nat) (l : List Pk) (id : Int) (w : World) (hr : PkAt w A c l) :
    Calls Try.prog 27 #[.agg #[.int .i64 L, .slice A l.length c], .int .i64 id] w fun e w' => e = .returned (.tuple #[.int .i64 (aheadV L l id), .int .i64 (aheadE L l id)]) ∧ Below w.heap.size w w' := by
  have HR := Lib.hid hr
  have hu24 := Try.underlying24
  have hu30 := Try.underlying30
  have HW := Lib.hid (show Below w.heap.size w (w.alloc (.cells #[.int .i64 L, .slice A l.length c] 24)) from (Below.refl _ _).alloc (Nat.le_refl _) _)
  have HQ := Lib.hid (blk_new w (.cells #[.int .i64 L, .slice A l.length c] 24) rfl)
  have hz0 : (w.alloc (.cells #[.int .i64 L, .slice A l.length c] 24)).heap.size = w.heap.size + 1 := by simp
  have hcap := hr.cap
  have hle := hr.le
  obtain ⟨E, hE⟩ : ∃ E, aheadE L l id = E := ⟨_, rfl⟩
  by_cases h0 : E = 0
  case neg =>
    have b1 : (E != 0) = true := by simp [h0]
    have HE := Lib.hid hE
    have HP := Lib.hid (takeP_bad (by rw [hE]; exact h0))
    have H0 := Lib.hid h0
    clear hE h0 hr
    go_enter Try.func27, Try.ntmps27
    go_wp2_with fail
    refine (refTake_any L A c l id _ (HR.out.below HW.out)).mono ?_
    rintro e w1 ⟨⟨A1, c1, rfl, hP1, _⟩, hb1⟩
    have HB1 := Lib.hid (HW.out.trans (hb1.mono (by omega)))
    rw [HE.out, HP.out]
    unfold pkv
    clear hb1 hP1
    obtain ⟨K, hK⟩ : ∃ K, takeL L l id = K := ⟨_, rfl⟩
    obtain ⟨Q, hQ⟩ : ∃ Q, takeQ L l id = Q := ⟨_, rfl⟩
    rw [hK, hQ]
    have hz1 := HB1.out.size
    set_option maxRecDepth 100000 in go_wp2
    refine bodyPost_ret (v := .tuple #[.int .i64 0, .int .i64 E]) (by simp [results, Try.results27, go_sem]) rfl ⟨ahead_bad HE.out H0.out, (HB1.out.alloc hz1 _).alloc (by simp; omega) _⟩
  subst h0
  have h1 : chk L l = 0 := by
    by_cases h1 : chk L l = 0
    · exact h1
    · exact absurd hE (by unfold aheadE; rw [if_pos h1]; decide)
  have h3 : ¬ idx l id < 0 := fun h3 => absurd hE (by unfold aheadE; rw [if_neg (by rw [h1]; simp), if_pos h3]; decide)
  have hck := chk_ok h1
  have hkr := fidx_range (idp id) l
  obtain ⟨m, hm⟩ : ∃ m : Nat, idx l id = m := ⟨(idx l id).toNat, by omega⟩
  have hml : m < l.length := by
    have : idx l id < l.length := hkr.2
    omega
  have hnm : ∀ j : Nat, j < m → (gp l j).id ≠ id := fun j hj he => by
    have := (fidx_spec (p := idp id) (l := l) (by show 0 ≤ idx l id; omega)).2 j (by omega) (by show (j : Int) < idx l id; omega)
    simp [idp, he] at this
  have HNM := Lib.hid hnm
  have HID := Lib.hid (fidx_id hm)
  have HM := Lib.hid hm
  have HE := Lib.hid hE
  have HP := Lib.hid (show takeP L l id = gp l m by rw [takeP_good hE, hm])
  have b1 : ((0 : Int) != 0) = false := by simp
  have hlb : l.length ≤ 64 := by omega
  have HLB := Lib.hid hlb
  clear hE h1 h3 hck hkr hm hnm hr hlb
  go_enter Try.func27, Try.ntmps27
  go_wp2_with fail
  refine (refTake_any L A c l id _ (HR.out.below HW.out)).mono ?_
  rintro e w1 ⟨⟨A1, c1, rfl, hP1, _⟩, hb1⟩
  rw [hz0] at hb1
  have HB1 := Lib.hid hb1
  rw [HE.out, HP.out]
  unfold pkv
  clear hb1 hP1
  obtain ⟨K, hK⟩ : ∃ K, takeL L l id = K := ⟨_, rfl⟩
  obtain ⟨Q, hQ⟩ : ∃ Q, takeQ L l id = Q := ⟨_, rfl⟩
  rw [hK, hQ]
  have hz1 : w.heap.size + 1 ≤ w1.heap.size := by have := HB1.out.size; rwa [hz0] at this
  obtain ⟨w2, hw2⟩ : ∃ w2, (w1.alloc (.cells #[.int .i64 K, .slice A1 Q.length c1] 24)).alloc (.cells #[.int .i64 (gp l m).id, .int .i64 (gp l m).dst, .int .i64 (gp l m).pr, .int .i64 (gp l m).born, .int .i64 (gp l m).life, .string (gp l m).data] 30) = w2 := ⟨_, rfl⟩
  have HB2 : Hid (Below (w.heap.size + 1) (w.alloc (.cells #[.int .i64 L, .slice A l.length c] 24)) w2) := by rw [← hw2]; exact (HB1.out.alloc hz1 _).alloc (by simp; omega) _
  have HP2 : Hid (w2.heap[w1.heap.size + 1]? = some (.cells #[.int .i64 (gp l m).id, .int .i64 (gp l m).dst, .int .i64 (gp l m).pr, .int .i64 (gp l m).born, .int .i64 (gp l m).life, .string (gp l m).data] 30 (0, 0))) := by rw [← hw2]; exact blk_new _ _ (by simp)
  set_option maxRecDepth 100000 in go_wp2_with fail
  have hz2 : w1.heap.size + 1 < w2.heap.size := blk_lt HP2.out
  clear hw2
  go_loopw [9, 10] (fun u v wr => ∃ i : Nat, v = .int .i64 i ∧ u = .int .i64 (cnt l (gp l m).dst i) ∧ i ≤ m ∧ Hid (Below w2.heap.size w2 wr)) (fun u v _ => (m - (intOf v)).toNat)
  case atStart => exact ⟨0, rfl, by rw [cnt_zero], by omega, Below.refl _ _⟩
  case round =>
    obtain ⟨i, rfl, rfl, hle2, HBT⟩ := hrel
    have HB := Lib.hid (HB2.out.trans (HBT.out.mono (by omega)))
    have q1 : wr.cell? ⟨w.heap.size, 1, none⟩ = some (.slice A l.length c) := blk_cell (blk_below HQ.out HB.out (by omega)) 1
    have p1 : wr.cell? ⟨w1.heap.size + 1, 1, none⟩ = some (.int .i64 (gp l m).dst) := blk_cell (blk_below HP2.out HBT.out hz2) 1
    obtain ⟨ad, e', c0, c1', _⟩ := (HR.out.row.below (HW.out.trans (HB.out.mono (by omega)))).pk i (by omega) (by omega)
    subst e'
    rw [Int.toNat_natCast] at c0 c1'
    have g1 : (0 : Int) ≤ i := by omega
    have g2 : (i : Int) < l.length := by omega
    by_cases hlt : i < m
    · have bi : ((gp l i).id != id) = true := by simp [HNM.out i hlt]
      have bi2 : ((gp l i).id == id) = false := by simp [HNM.out i hlt]
      have HN := Lib.hid (cnt_next (l := l) (d := (gp l m).dst) (i := i) (by omega) (by omega))
      have HC := Lib.hid (cnt_range l (gp l m).dst i)
      obtain ⟨x, hx⟩ : ∃ x, ((gp l i).dst == (gp l m).dst) = x := ⟨_, rfl⟩
      go_wp2_with fail
      go_quiet (fail)
      cases x
      · go_wp2
        go_roundw
        case rel => exact ⟨i + 1, by simp, by have := HN.out; rw [hx] at this; simp at this; rw [this], by omega, blw_drewN HBT.out _⟩
        case measure => simp [intOf]; omega
      · go_wp2
        go_roundw
        case rel => exact ⟨i + 1, by simp, by have := HN.out; rw [hx] at this; simp at this; rw [this, IntWalk.wrap64_in _ (by have := HC.out; have := HLB.out; omega)], by omega, blw_drewN HBT.out _⟩
        case measure => simp [intOf]; omega
    · obtain rfl : i = m := by omega
      have bi : ((gp l i).id != id) = false := by simp [HID.out]
      have bi2 : ((gp l i).id == id) = true := by simp [HID.out]
      go_wp2
      refine bodyPost_ret (v := .tuple #[.int .i64 (cnt l (gp l i).dst i), .int .i64 0]) (by simp [results, Try.results27, go_sem]) rfl ⟨ahead_good HE.out (by rw [HM.out, Int.toNat_natCast]), HW.out.trans (HB.out.mono (by omega))⟩
set_option maxHeartbeats 1600000 in
theorem refBound_any (L : Int) (A : Option Addr) (c : Nat) (l : List Pk) (id every : Int) (w : World) (hr : PkAt w A c l) :
    Calls Try.prog 29 #[.agg #[.int .i64 L, .slice A l.length c], .int .i64 id, .int .i64 every] w fun e w' => e = .returned (.tuple #[.int .i64 (boundV L l id every), .int .i64 (boundE L l id every)]) ∧ Below w.heap.size w w' := by
  have HR := Lib.hid hr
  clear hr
  have hu24 := Try.underlying24
  have HW := Lib.hid (show Below w.heap.size w (w.alloc (.cells #[.int .i64 L, .slice A l.length c] 24)) from (Below.refl _ _).alloc (Nat.le_refl _) _)
  have hz0 : (w.alloc (.cells #[.int .i64 L, .slice A l.length c] 24)).heap.size = w.heap.size + 1 := by simp
  obtain ⟨E, hE⟩ : ∃ E, E = aheadE L l id := ⟨_, rfl⟩
  by_cases h0 : E = 0
  case neg =>
    have b1 : (E != 0) = true := by simp [h0]
    have HE := Lib.hid (show boundE L l id every = E by unfold boundE; rw [← hE, if_pos h0])
    have H0 := Lib.hid h0
    have HEE := Lib.hid hE
    clear hE h0
    go_enter Try.func29, Try.ntmps29
    go_wp2_with fail
    refine (refAhead_any L A c l id _ (HR.out.below HW.out)).mono ?_
    rintro e w1 ⟨rfl, hb1⟩
    have HB1 := Lib.hid (HW.out.trans (hb1.mono (by omega)))
    rw [← HEE.out]
    clear hb1
    go_wp2
    refine bodyPost_ret (v := .tuple #[.int .i64 0, .int .i64 E]) (by simp [results, Try.results29, go_sem]) rfl ⟨bound_bad HE.out H0.out, HB1.out⟩
  subst h0
  have b1 : ((0 : Int) != 0) = false := by simp
  have HEE := Lib.hid hE
  by_cases h2 : every < 1
  case pos =>
    have b2 : decide (every < 1) = true := by simp [h2]
    have HE := Lib.hid (show boundE L l id every = 2 by unfold boundE; rw [← hE, if_neg (by simp), if_pos (.inl h2)])
    clear hE h2
    go_enter Try.func29, Try.ntmps29
    go_wp2_with fail
    refine (refAhead_any L A c l id _ (HR.out.below HW.out)).mono ?_
    rintro e w1 ⟨rfl, hb1⟩
    have HB1 := Lib.hid (HW.out.trans (hb1.mono (by omega)))
    rw [← HEE.out]
    clear hb1
    set_option maxRecDepth 100000 in go_wp2
    refine bodyPost_ret (v := .tuple #[.int .i64 0, .int .i64 2]) (by simp [results, Try.results29, go_sem]) rfl ⟨bound_bad HE.out (by decide), HB1.out⟩
  by_cases h3 : 4096 < every
  case pos =>
    have b2 : decide (every < 1) = false := by simp; omega
    have b3 : decide (4096 < every) = true := by simp [h3]
    have HE := Lib.hid (show boundE L l id every = 2 by unfold boundE; rw [← hE, if_neg (by simp), if_pos (.inr h3)])
    clear hE h2 h3
    go_enter Try.func29, Try.ntmps29
    go_wp2_with fail
    refine (refAhead_any L A c l id _ (HR.out.below HW.out)).mono ?_
    rintro e w1 ⟨rfl, hb1⟩
    have HB1 := Lib.hid (HW.out.trans (hb1.mono (by omega)))
    rw [← HEE.out]
    clear hb1
    set_option maxRecDepth 100000 in go_wp2
    refine bodyPost_ret (v := .tuple #[.int .i64 0, .int .i64 2]) (by simp [results, Try.results29, go_sem]) rfl ⟨bound_bad HE.out (by decide), HB1.out⟩
  have b2 : decide (every < 1) = false := by simp; omega
  have b3 : decide (4096 < every) = false := by simp; omega
  have HE := Lib.hid (show boundE L l id every = 0 by unfold boundE; rw [← hE, if_neg (by simp), if_neg (by omega)])
  clear hE h2 h3
  go_enter Try.func29, Try.ntmps29
  go_wp2_with fail
  refine (refAhead_any L A c l id _ (HR.out.below HW.out)).mono ?_
  rintro e w1 ⟨rfl, hb1⟩
  have HB1 := Lib.hid (HW.out.trans (hb1.mono (by omega)))
  rw [← HEE.out]
  clear hb1
  set_option maxRecDepth 100000 in go_wp2
  refine bodyPost_ret (v := .tuple #[.int .i64 (wrap64 (every * wrap64 (aheadV L l id + 1))), .int .i64 0]) (by simp [results, Try.results29, go_sem]) rfl ⟨bound_good HE.out, HB1.out⟩
end Go.Proofs.Ytckanomabhbkaaa
