/- Ahead and Bound of the program, walked. -/
import Derived.Test.YtckanomabhbkaaaQC2
import Derived.Test.YtckanomabhbkaaaQI2
import Derived.Deep.RegionWith
import Derived.Maps.RangeWalk
namespace Go.Proofs.Ytckanomabhbkaaa
open Go.RowKit Go.Shelf
set_option linter.unusedVariables false

/-- How many of the first k are for d. -/
def cnt (l : List Pk) (d : Int) (k : Nat) : Int := ((l.take k).filter (top d)).length
theorem cnt_zero (l : List Pk) (d : Int) : cnt l d 0 = 0 := by simp [cnt]
theorem cnt_next {l : List Pk} {d i : Int} (h0 : 0 ≤ i) (h1 : i < l.length) : cnt l d (i + 1).toNat = cnt l d i.toNat + if (gp l i).dst == d then 1 else 0 := by
  unfold cnt
  rw [show (i + 1).toNat = i.toNat + 1 from by omega, List.take_add_one, List.filter_append, List.length_append, gp_get h0 h1]
  simp only [Option.toList_some, List.filter_cons, List.filter_nil, top]
  split <;> simp_all
theorem cnt_range (l : List Pk) (d : Int) (k : Nat) : 0 ≤ cnt l d k ∧ cnt l d k ≤ k ∧ cnt l d k ≤ l.length := by
  unfold cnt
  have h1 := List.length_filter_le (top d) (l.take k)
  rw [List.length_take] at h1
  omega
def aheadE (L : Int) (l : List Pk) (id : Int) : Int := if chk L l ≠ 0 then 1 else if idx l id < 0 then 7 else 0
def aheadV (L : Int) (l : List Pk) (id : Int) : Int := if aheadE L l id = 0 then cnt l (gp l (idx l id)).dst (idx l id).toNat else 0
theorem ahead_bad {L : Int} {l : List Pk} {id E : Int} (h : aheadE L l id = E) (hE : E ≠ 0) : Ending.returned (.tuple #[.int .i64 0, .int .i64 E]) = .returned (.tuple #[.int .i64 (aheadV L l id), .int .i64 (aheadE L l id)]) := by
  unfold aheadV; rw [if_neg (by rw [h]; exact hE), h]
theorem ahead_good {L : Int} {l : List Pk} {id n : Int} (h : aheadE L l id = 0) (hn : n = cnt l (gp l (idx l id)).dst (idx l id).toNat) : Ending.returned (.tuple #[.int .i64 n, .int .i64 0]) = .returned (.tuple #[.int .i64 (aheadV L l id), .int .i64 (aheadE L l id)]) := by
  unfold aheadV; rw [if_pos h, h, hn]
set_option maxHeartbeats 1600000 in
theorem ahead_any (L : Int) (A : Option Addr) (c : Nat) (l : List Pk) (id : Int) (w : World) (hr : PkAt w A c l) (hids : IdsOk l) :
    Calls Try.prog 26 #[.agg #[.int .i64 L, .slice A l.length c], .int .i64 id] w fun e w' => e = .returned (.tuple #[.int .i64 (aheadV L l id), .int .i64 (aheadE L l id)]) ∧ Below w.heap.size w w' := by
  have HR := Lib.hid hr
  have hu24 := Try.underlying24
  have hu30 := Try.underlying30
  have HW := Lib.hid (show Below w.heap.size w (w.alloc (.cells #[.int .i64 L, .slice A l.length c] 24)) from (Below.refl _ _).alloc (Nat.le_refl _) _)
  have HQ := Lib.hid (blk_new w (.cells #[.int .i64 L, .slice A l.length c] 24) rfl)
  have hz0 : (w.alloc (.cells #[.int .i64 L, .slice A l.length c] 24)).heap.size = w.heap.size + 1 := by simp
  by_cases h1 : chk L l = 0
  case neg =>
    have b1 : (chk L l != 0) = true := by simp [h1]
    have HE := Lib.hid (show aheadE L l id = 1 by unfold aheadE; rw [if_pos h1])
    go_enter Try.func26, Try.ntmps26
    go_wp2_with fail
    refine (check_any L A c l _ (HR.out.row.below HW.out) hids).mono ?_
    rintro e w1 ⟨rfl, hb1⟩
    have HB1 := Lib.hid hb1
    clear hb1
    go_wp2
    refine bodyPost_ret (v := .tuple #[.int .i64 0, .int .i64 1]) (by simp [results, Try.results26, go_sem]) rfl ⟨ahead_bad HE.out (by decide), HW.out.trans (HB1.out.mono (by omega))⟩
  have b1 : (chk L l != 0) = false := by simp [h1]
  have hck := chk_ok h1
  have hcap := hr.cap
  have hle := hr.le
  obtain ⟨k, hk⟩ : ∃ k, k = idx l id := ⟨_, rfl⟩
  have hkr : -1 ≤ k ∧ k < l.length := by rw [hk]; exact fidx_range _ _
  by_cases h3 : k < 0
  case pos =>
    have b3 : decide (k < 0) = true := by simp [h3]
    have HE := Lib.hid (show aheadE L l id = 7 by unfold aheadE; rw [if_neg (by rw [h1]; simp), ← hk, if_pos h3])
    go_enter Try.func26, Try.ntmps26
    go_wp2_with fail
    refine (check_any L A c l _ (HR.out.row.below HW.out) hids).mono ?_
    rintro e w1 ⟨rfl, hb1⟩
    have HB1 := Lib.hid hb1
    have q0 : w1.cell? ⟨w.heap.size, 0, none⟩ = some (.int .i64 L) := blk_cell (blk_below HQ.out HB1.out (by omega)) 0
    have q1 : w1.cell? ⟨w.heap.size, 1, none⟩ = some (.slice A l.length c) := blk_cell (blk_below HQ.out HB1.out (by omega)) 1
    clear hb1
    go_wp2_with fail
    refine (index_any L A c l _ _ (HR.out.row.below (HW.out.trans (HB1.out.mono (by omega))))).mono ?_
    rintro e w2 ⟨rfl, hb2⟩
    rw [← hk]
    have HB2 := Lib.hid (HB1.out.trans (hb2.mono (by have := HB1.out.size; omega)))
    clear hb2 q0 q1
    set_option maxRecDepth 100000 in go_wp2
    refine bodyPost_ret (v := .tuple #[.int .i64 0, .int .i64 7]) (by simp [results, Try.results26, go_sem]) rfl ⟨ahead_bad HE.out (by decide), HW.out.trans (HB2.out.mono (by omega))⟩
  obtain ⟨m, rfl⟩ : ∃ m : Nat, k = m := ⟨k.toNat, by omega⟩
  have b3 : decide ((m : Int) < 0) = false := by simp
  have HE := Lib.hid (show aheadE L l id = 0 by unfold aheadE; rw [if_neg (by rw [h1]; simp), ← hk, if_neg h3])
  have HK := Lib.hid hk
  clear hr h1 hk h3
  go_enter Try.func26, Try.ntmps26
  go_wp2_with fail
  refine (check_any L A c l _ (HR.out.row.below HW.out) hids).mono ?_
  rintro e w1 ⟨rfl, hb1⟩
  have HB1 := Lib.hid hb1
  have q0 : w1.cell? ⟨w.heap.size, 0, none⟩ = some (.int .i64 L) := blk_cell (blk_below HQ.out HB1.out (by omega)) 0
  have q1 : w1.cell? ⟨w.heap.size, 1, none⟩ = some (.slice A l.length c) := blk_cell (blk_below HQ.out HB1.out (by omega)) 1
  clear hb1
  go_wp2_with fail
  refine (index_any L A c l _ _ (HR.out.row.below (HW.out.trans (HB1.out.mono (by omega))))).mono ?_
  rintro e w2 ⟨rfl, hb2⟩
  rw [← HK.out]
  have HB2 := Lib.hid (HB1.out.trans (hb2.mono (by have := HB1.out.size; omega)))
  clear hb2 q0 q1
  have q0 : w2.cell? ⟨w.heap.size, 0, none⟩ = some (.int .i64 L) := blk_cell (blk_below HQ.out HB2.out (by omega)) 0
  have q1 : w2.cell? ⟨w.heap.size, 1, none⟩ = some (.slice A l.length c) := blk_cell (blk_below HQ.out HB2.out (by omega)) 1
  obtain ⟨ad, rfl, _⟩ := (HR.out.row).pk m (by omega) hkr.2
  have hmc : m ≤ c := by omega
  set_option maxRecDepth 100000 in go_wp2
  clear q0 q1
  go_loopw [7, 23] (fun u v wr => ∃ i : Nat, v = .int .i64 i ∧ u = .int .i64 (cnt l (gp l m).dst i) ∧ i ≤ m ∧ Hid (Below (w.heap.size + 1) (w.alloc (.cells #[.int .i64 L, .slice (some ad) l.length c] 24)) wr)) (fun u v _ => (m - (intOf v)).toNat)
  case atStart => exact ⟨0, rfl, by rw [cnt_zero], by omega, HB2.out.mono (by omega)⟩
  case round =>
    obtain ⟨i, rfl, rfl, hle, HB⟩ := hrel
    have HBw : Hid (Below w.heap.size w wr) := HW.out.trans (HB.out.mono (by omega))
    have q0 : wr.cell? ⟨w.heap.size, 0, none⟩ = some (.int .i64 L) := blk_cell (blk_below HQ.out HB.out (by omega)) 0
    have q1 : wr.cell? ⟨w.heap.size, 1, none⟩ = some (.slice (some ad) l.length c) := blk_cell (blk_below HQ.out HB.out (by omega)) 1
    by_cases hlt : i < m
    · obtain ⟨ad', e', c0, c1, c2, c3, c4, c5⟩ := (HR.out.row.below HBw.out).pk i (by omega) (by omega)
      cases e'
      obtain ⟨ad', e', d0, d1, d2, d3, d4, d5⟩ := (HR.out.row.below HBw.out).pk m (by omega) (by omega)
      cases e'
      rw [Int.toNat_natCast] at c0 c1 c2 c3 c4 c5 d1
      clear d0 d2 d3 d4 d5
      have l1 := cell_lt q1
      have l2 := cell_lt d1
      have hbi : decide ((i : Int) < m) = true := by simp; omega
      have n1 : ¬ w.heap.size = wr.heap.size := by simp at l1; omega
      have n2 : ¬ (ad.add (m * 6)).block = wr.heap.size := by simp at l2; omega
      have hml : (m : Int) < l.length := hkr.2
      have hm0 : (0 : Int) ≤ m := by omega
      have htn : (m : Int).toNat = m := by omega
      obtain ⟨x, hx⟩ : ∃ x, ((gp l i).dst == (gp l m).dst) = x := ⟨_, rfl⟩
      have HN := Lib.hid (cnt_next (l := l) (d := (gp l m).dst) (i := i) (by omega) (by omega))
      have HC := Lib.hid (cnt_range l (gp l m).dst i)
      go_wp2_with fail
      go_quiet (fail)
      cases x
      · go_wp2
        go_roundw
        case rel => exact ⟨i + 1, by simp, by have := HN.out; rw [hx] at this; simp at this; rw [this], by omega, (blw_drewN (HB.out.alloc (by omega) _) _)⟩
        case measure => simp [intOf]; omega
      · go_wp2
        go_roundw
        case rel => exact ⟨i + 1, by simp, by have := HN.out; rw [hx] at this; simp at this; rw [this, IntWalk.wrap64_in _ (by have := HC.out; omega)], by omega, (blw_drewN (HB.out.alloc (by omega) _) _)⟩
        case measure => simp [intOf]; omega
    · have hb0 : decide ((i : Int) < m) = false := by simp; omega
      go_wp2
      refine bodyPost_ret (v := .tuple #[.int .i64 (cnt l (gp l m).dst i), .int .i64 0]) (by simp [results, Try.results26, go_sem]) rfl ⟨ahead_good HE.out (by rw [← HK.out, Int.toNat_natCast, show i = m from by omega]), HBw.out⟩

def boundE (L : Int) (l : List Pk) (id every : Int) : Int := if aheadE L l id ≠ 0 then aheadE L l id else if every < 1 ∨ 4096 < every then 2 else 0
def boundV (L : Int) (l : List Pk) (id every : Int) : Int := if boundE L l id every = 0 then wrap64 (every * wrap64 (aheadV L l id + 1)) else 0
theorem bound_bad {L : Int} {l : List Pk} {id every E : Int} (h : boundE L l id every = E) (hE : E ≠ 0) : Ending.returned (.tuple #[.int .i64 0, .int .i64 E]) = .returned (.tuple #[.int .i64 (boundV L l id every), .int .i64 (boundE L l id every)]) := by
  unfold boundV; rw [if_neg (by rw [h]; exact hE), h]
theorem bound_good {L : Int} {l : List Pk} {id every : Int} (h : boundE L l id every = 0) : Ending.returned (.tuple #[.int .i64 (wrap64 (every * wrap64 (aheadV L l id + 1))), .int .i64 0]) = .returned (.tuple #[.int .i64 (boundV L l id every), .int .i64 (boundE L l id every)]) := by
  unfold boundV; rw [if_pos h, h]
set_option maxHeartbeats 1600000 in
theorem bound_any (L : Int) (A : Option Addr) (c : Nat) (l : List Pk) (id every : Int) (w : World) (hr : PkAt w A c l) (hids : IdsOk l) :
    Calls Try.prog 28 #[.agg #[.int .i64 L, .slice A l.length c], .int .i64 id, .int .i64 every] w fun e w' => e = .returned (.tuple #[.int .i64 (boundV L l id every), .int .i64 (boundE L l id every)]) ∧ Below w.heap.size w w' := by
  have HR := Lib.hid hr
  clear hr
  have hu24 := Try.underlying24
  have HW := Lib.hid (show Below w.heap.size w (w.alloc (.cells #[.int .i64 L, .slice A l.length c] 24)) from (Below.refl _ _).alloc (Nat.le_refl _) _)
  have hz0 : (w.alloc (.cells #[.int .i64 L, .slice A l.length c] 24)).heap.size = w.heap.size + 1 := by simp
  obtain ⟨E, hE⟩ : ∃ E, E = aheadE L l id := ⟨_, rfl⟩
  by_cases h0 : E = 0
  case neg =>
    have b1 : (E != 0) = true := by simp [h0]
    have HE := Lib.hid (show boundE L l id every = E by unfold boundE; rw [← hE, if_pos h0])
    have H0 := Lib.hid h0
    have HEE := Lib.hid hE
    clear hE h0
    go_enter Try.func28, Try.ntmps28
    go_wp2_with fail
    refine (ahead_any L A c l id _ (HR.out.below HW.out) hids).mono ?_
    rintro e w1 ⟨rfl, hb1⟩
    have HB1 := Lib.hid (HW.out.trans (hb1.mono (by omega)))
    rw [← HEE.out]
    clear hb1
    go_wp2
    refine bodyPost_ret (v := .tuple #[.int .i64 0, .int .i64 E]) (by simp [results, Try.results28, go_sem]) rfl ⟨bound_bad HE.out H0.out, HB1.out⟩
  subst h0
  have b1 : ((0 : Int) != 0) = false := by simp
  have HEE := Lib.hid hE
  by_cases h2 : every < 1 ∨ 4096 < every
  case pos =>
    have b2 : decide (1 ≤ every ∧ every ≤ 4096) = false := by simp; omega
    have HE := Lib.hid (show boundE L l id every = 2 by unfold boundE; rw [← hE, if_neg (by simp), if_pos h2])
    clear hE h2
    go_enter Try.func28, Try.ntmps28
    go_wp2_with fail
    refine (ahead_any L A c l id _ (HR.out.below HW.out) hids).mono ?_
    rintro e w1 ⟨rfl, hb1⟩
    have HB1 := Lib.hid (HW.out.trans (hb1.mono (by omega)))
    rw [← HEE.out]
    clear hb1
    set_option maxRecDepth 100000 in go_wp2_with fail
    refine (within_any every 1 4096 _).mono ?_
    rintro e w2 ⟨rfl, rfl⟩
    have HB2 := HB1
    set_option maxRecDepth 100000 in go_wp2
    refine bodyPost_ret (v := .tuple #[.int .i64 0, .int .i64 2]) (by simp [results, Try.results28, go_sem]) rfl ⟨bound_bad HE.out (by decide), HB2.out⟩
  have b2 : decide (1 ≤ every ∧ every ≤ 4096) = true := by simp; omega
  have HE := Lib.hid (show boundE L l id every = 0 by unfold boundE; rw [← hE, if_neg (by simp), if_neg h2])
  clear hE h2
  go_enter Try.func28, Try.ntmps28
  go_wp2_with fail
  refine (ahead_any L A c l id _ (HR.out.below HW.out) hids).mono ?_
  rintro e w1 ⟨rfl, hb1⟩
  have HB1 := Lib.hid (HW.out.trans (hb1.mono (by omega)))
  rw [← HEE.out]
  clear hb1
  set_option maxRecDepth 100000 in go_wp2_with fail
  refine (within_any every 1 4096 _).mono ?_
  rintro e w2 ⟨rfl, rfl⟩
  have HB2 := HB1
  set_option maxRecDepth 100000 in go_wp2
  refine bodyPost_ret (v := .tuple #[.int .i64 (wrap64 (every * wrap64 (aheadV L l id + 1))), .int .i64 0]) (by simp [results, Try.results28, go_sem]) rfl ⟨bound_good HE.out, HB2.out⟩
end Go.Proofs.Ytckanomabhbkaaa
