/- Take of the program, walked. -/
import Derived.Test.YtckanomabhbkaaaYA
import Derived.Test.YtckanomabhbkaaaPL
import Derived.Test.YtckanomabhbkaaaQD
import Derived.IntWalk
import Derived.Deep.RegionHeld3
namespace Go.Proofs.Ytckanomabhbkaaa
open Go.RowKit Go.Shelf
set_option linter.unusedVariables false
set_option maxHeartbeats 1600000 in
theorem take_bad (L : Int) (A : Option Addr) (c : Nat) (l : List Pk) (id : Int) (w : World) (hr : PkAt w A c l) (hids : IdsOk l) (h : aheadE L l id ≠ 0) :
    Calls Try.prog 40 #[.agg #[.int .i64 L, .slice A l.length c], .int .i64 id] w fun e w' => TakeAns w.heap.size w' e L l id ∧ Below w.heap.size w w' := by
  have HR := Lib.hid hr
  have hu24 := Try.underlying24
  have hu30 := Try.underlying30
  have HW := Lib.hid (tkW_below w L A c l)
  have HIDS := Lib.hid hids
  clear hr hids
  by_cases h1 : chk L l = 0
  · have h3 : idx l id < 0 := by
      by_cases h3 : idx l id < 0
      · exact h3
      · exact absurd (by unfold aheadE; rw [if_neg (by rw [h1]; simp), if_neg h3]) h
    have HE := Lib.hid (show aheadE L l id = 7 by unfold aheadE; rw [if_neg (by rw [h1]; simp), if_pos h3])
    have b1 : (chk L l != 0) = false := by simp [h1]
    have b3 : decide (idx l id < 0) = true := by simp [h3]
    clear h h1 h3
    go_enter Try.func40, Try.ntmps40
    go_wp2_with fail
    refine (check_any L A c l _ (HR.out.row.below HW.out) HIDS.out).mono ?_
    rintro e w1 ⟨rfl, hb1⟩
    have HB1 := Lib.hid (show Below (w.heap.size + 3) (tkW w L A c l) w1 from by have h := hb1; rw [← tkW_size w L A c l]; exact h)
    have hB := tkW_blocks HB1.out
    obtain ⟨⟨q0, q1⟩, r0, r1, f0, f1⟩ := srv_cells hB.1
    clear hb1 hB
    go_wp2_with fail
    refine (index_any L A c l id _ (HR.out.row.below (HW.out.trans (HB1.out.mono (by omega))))).mono ?_
    rintro e w2 ⟨rfl, hb2⟩
    have HB2 := Lib.hid (HB1.out.trans (hb2.mono (by have := HB1.out.size; rw [tkW_size] at this; omega)))
    have hB := tkW_blocks HB2.out
    clear q0 q1 r0 r1 f0 f1 hb2
    obtain ⟨⟨q0, q1⟩, r0, r1, f0, f1⟩ := srv_cells hB.1
    obtain ⟨s0, s1, s2, s3, s4, s5⟩ := box6 hB.2
    obtain ⟨t0, t1, t2, t3, t4, t5⟩ := box6f hB.2
    clear hB
    set_option maxRecDepth 100000 in go_wp2
    refine bodyPost_ret (v := .tuple #[.agg #[.int .i64 0, .slice none 0 0], pkv Pk.zero, .int .i64 7]) (by simp [results, Try.results40, go_sem, r0, r1, s0, s1, s2, s3, s4, s5, pkv, Pk.zero]) rfl ⟨TakeAns.bad HE.out (by decide), ?_⟩
    have HX := HW.out.trans (HB2.out.mono (by omega))
    exact (((((((HX.setCell (by simp) _).setCell (by simp) _).setCell (by simp; omega) _).setCell (by simp; omega) _).setCell (by simp; omega) _).setCell (by simp; omega) _).setCell (by simp; omega) _).setCell (by simp; omega) _
  · have HE := Lib.hid (show aheadE L l id = 1 by unfold aheadE; rw [if_pos h1])
    have b1 : (chk L l != 0) = true := by simp [h1]
    clear h h1
    go_enter Try.func40, Try.ntmps40
    go_wp2_with fail
    refine (check_any L A c l _ (HR.out.row.below HW.out) HIDS.out).mono ?_
    rintro e w2 ⟨rfl, hb1⟩
    have HB2 := Lib.hid (show Below (w.heap.size + 3) (tkW w L A c l) w2 from by have h := hb1; rw [← tkW_size w L A c l]; exact h)
    have hB := tkW_blocks HB2.out
    obtain ⟨⟨q0, q1⟩, r0, r1, f0, f1⟩ := srv_cells hB.1
    obtain ⟨s0, s1, s2, s3, s4, s5⟩ := box6 hB.2
    obtain ⟨t0, t1, t2, t3, t4, t5⟩ := box6f hB.2
    clear hb1 hB
    set_option maxRecDepth 100000 in go_wp2
    refine bodyPost_ret (v := .tuple #[.agg #[.int .i64 0, .slice none 0 0], pkv Pk.zero, .int .i64 1]) (by simp [results, Try.results40, go_sem, r0, r1, s0, s1, s2, s3, s4, s5, pkv, Pk.zero]) rfl ⟨TakeAns.bad HE.out (by decide), ?_⟩
    have HX := HW.out.trans (HB2.out.mono (by omega))
    exact (((((((HX.setCell (by simp) _).setCell (by simp) _).setCell (by simp; omega) _).setCell (by simp; omega) _).setCell (by simp; omega) _).setCell (by simp; omega) _).setCell (by simp; omega) _).setCell (by simp; omega) _
set_option maxHeartbeats 800000 in
theorem take_good (L : Int) (A : Option Addr) (c : Nat) (l : List Pk) (id : Int) (w : World) (hr : PkAt w A c l) (hids : IdsOk l) (h : aheadE L l id = 0) :
    Calls Try.prog 40 #[.agg #[.int .i64 L, .slice A l.length c], .int .i64 id] w fun e w' => TakeAns w.heap.size w' e L l id ∧ Below w.heap.size w w' := by
  have HR := Lib.hid hr
  have hu24 := Try.underlying24
  have hu30 := Try.underlying30
  have HW := Lib.hid (tkW_below w L A c l)
  have hcap := hr.cap
  have h1 : chk L l = 0 := by
    by_cases h1 : chk L l = 0
    · exact h1
    · exact absurd h (by unfold aheadE; rw [if_pos h1]; decide)
  have h3 : ¬ idx l id < 0 := fun h3 => absurd h (by unfold aheadE; rw [if_neg (by rw [h1]; simp), if_pos h3]; decide)
  have hck := chk_ok h1
  have hkr := fidx_range (idp id) l
  obtain ⟨m, hm⟩ : ∃ m : Nat, idx l id = m := ⟨(idx l id).toNat, by omega⟩
  have hml : m < l.length := by
    have : idx l id < l.length := hkr.2
    omega
  have HM := Lib.hid hm
  have HE := Lib.hid h
  have b1 : (chk L l != 0) = false := by simp [h1]
  have b3 : decide ((m : Int) < 0) = false := by simp
  have HLN := Lib.hid (show l.length * 56 ≤ 140737488355328 by omega)
  have HKI := Lib.hid (show kept (idp id) l = l.take m ++ l.drop (m + 1) from kept_id (chk_iff.1 h1).ids hm hml)
  have HIDS := Lib.hid hids
  have hlm := Int.ofNat_lt.2 hml
  have hl64 : l.length ≤ 64 := by omega
  clear hr h h1 h3 hkr hm hck hids
  go_enter Try.func40, Try.ntmps40
  go_wp2_with fail
  refine (check_any L A c l _ (HR.out.row.below HW.out) HIDS.out).mono ?_
  rintro e w1 ⟨rfl, hb1⟩
  have HB1 := Lib.hid (show Below (w.heap.size + 3) (tkW w L A c l) w1 from by have h := hb1; rw [← tkW_size w L A c l]; exact h)
  have hB := tkW_blocks HB1.out
  obtain ⟨⟨q0, q1⟩, r0, r1, f0, f1⟩ := srv_cells hB.1
  clear hb1 hB
  go_wp2_with fail
  refine (index_any L A c l id _ (HR.out.row.below (HW.out.trans (HB1.out.mono (by omega))))).mono ?_
  rintro e w2 ⟨rfl, hb2⟩
  rw [HM.out]
  have hz1 : w.heap.size + 3 ≤ w1.heap.size := by have := HB1.out.size; rwa [tkW_size] at this
  have HB2 := Lib.hid (HB1.out.trans (hb2.mono hz1))
  have hz2 := hb2.size
  have hB := tkW_blocks HB2.out
  clear q0 q1 r0 r1 f0 f1 hb2
  obtain ⟨⟨q0, q1⟩, r0, r1, f0, f1⟩ := srv_cells hB.1
  clear hB
  obtain ⟨ad, e', c0, c1, c2, c3, c4, c5⟩ := (HR.out.row.below (HW.out.trans (HB2.out.mono (by omega)))).pk m (by omega) (by omega)
  subst e'
  rw [Int.toNat_natCast] at c0 c1 c2 c3 c4 c5
  have hab : (ad.add (m * 6)).block < w.heap.size := cell_lt (RowAt.pkn HR.out.row hml).1
  have e1 : ¬ (ad.add (m * 6)).block = w.heap.size + 1 := by omega
  have e2 : ¬ w.heap.size + 1 = (ad.add (m * 6)).block := by omega
  have e3 : ¬ (ad.add (m * 6)) = ⟨w.heap.size + 1, 0, none⟩ := fun e => e1 (by rw [e])
  have e4 : ¬ (ad.add (m * 6)) = ⟨w.heap.size + 1, 1, none⟩ := fun e => e1 (by rw [e])
  have e5 : ¬ (⟨w.heap.size + 1, 0, none⟩ : Addr) = ad.add (m * 6) := fun e => e1 (by rw [← e])
  have e6 : ¬ (⟨w.heap.size + 1, 1, none⟩ : Addr) = ad.add (m * 6) := fun e => e1 (by rw [← e])
  have g1 : (0 : Int) ≤ m := by omega
  have k1 : ¬ w.heap.size + 1 = w.heap.size := by omega
  have k2 : ¬ w.heap.size + 2 = w.heap.size := by omega
  have k4 : ¬ w.heap.size + 2 = (ad.add (m * 6)).block := by omega
  have g2 : (m : Int) < l.length := by omega
  have g3 : IntKind.i64.wrap ((m : Int) + 1) = (m : Int) + 1 := IntWalk.i64_in _ (by omega)
  set_option maxRecDepth 100000 in go_wp2_with fail
  have S0 : (fun w' => w'.cell? ⟨w.heap.size, 0, none⟩ = some (.int .i64 L) ∧ w'.cell? ⟨w.heap.size, 1, none⟩ = some (.slice (some ad) l.length c) ∧ w'.cell? (ad.add (m * 6)) = some (.int .i64 (gp l m).id) ∧ w'.cell? ⟨(ad.add (m * 6)).block, (ad.add (m * 6)).off + 1, none⟩ = some (.int .i64 (gp l m).dst) ∧ w'.cell? ⟨(ad.add (m * 6)).block, (ad.add (m * 6)).off + 2, none⟩ = some (.int .i64 (gp l m).pr) ∧ w'.cell? ⟨(ad.add (m * 6)).block, (ad.add (m * 6)).off + 3, none⟩ = some (.int .i64 (gp l m).born) ∧ w'.cell? ⟨(ad.add (m * 6)).block, (ad.add (m * 6)).off + 4, none⟩ = some (.int .i64 (gp l m).life) ∧ w'.cell? ⟨(ad.add (m * 6)).block, (ad.add (m * 6)).off + 5, none⟩ = some (.string (gp l m).data)) w2.drew := ⟨q0, q1, c0, c1, c2, c3, c4, c5⟩
  set_option maxRecDepth 100000 in
  go_region_held3 (fun w' => w'.cell? ⟨w.heap.size, 0, none⟩ = some (.int .i64 L) ∧ w'.cell? ⟨w.heap.size, 1, none⟩ = some (.slice (some ad) l.length c) ∧ w'.cell? (ad.add (m * 6)) = some (.int .i64 (gp l m).id) ∧ w'.cell? ⟨(ad.add (m * 6)).block, (ad.add (m * 6)).off + 1, none⟩ = some (.int .i64 (gp l m).dst) ∧ w'.cell? ⟨(ad.add (m * 6)).block, (ad.add (m * 6)).off + 2, none⟩ = some (.int .i64 (gp l m).pr) ∧ w'.cell? ⟨(ad.add (m * 6)).block, (ad.add (m * 6)).off + 3, none⟩ = some (.int .i64 (gp l m).born) ∧ w'.cell? ⟨(ad.add (m * 6)).block, (ad.add (m * 6)).off + 4, none⟩ = some (.int .i64 (gp l m).life) ∧ w'.cell? ⟨(ad.add (m * 6)).block, (ad.add (m * 6)).off + 5, none⟩ = some (.string (gp l m).data))
    (first | (with_reducible exact S0) | (with_reducible exact ⟨q0, q1, d0, d1, d2, d3, d4, d5⟩) | (refine ⟨?_, ?_, ?_, ?_, ?_, ?_, ?_, ?_⟩ <;> simp only [World.cell?_setCell_far, ne_eq, k1, k2, k4, e2, not_false_eq_true, q0, q1, d0, d1, d2, d3, d4, d5]) | fail)
    (first
    | (go_at_call 75; refine (clone_any (some ad) c l _ (HR.out.row.below (HW.out.trans ((blw_drewN HB2.out _).mono (by omega)))) HLN.out (fun e => by cases e)).mono ?_; rintro e w3 ⟨v, rfl, hO3, hb3⟩; (have hfm := hO3.form); obtain ⟨A3, c3', rfl, _, _⟩ := hfm; (have HB3 := Lib.hid ((blw_drewN HB2.out _).trans (hb3.mono (by simp; omega)))); (have hB := tkW_blocks HB3.out); (have HO3 := Lib.hid (hO3.lower (base' := w2.heap.size) (by simp))); (have hz3 : w2.heap.size ≤ w3.heap.size := hb3.size); clear q0 q1 r0 r1 f0 f1 c0 c1 c2 c3 c4 c5 hb3 hO3; obtain ⟨⟨q0, q1⟩, r0, r1, f0, f1⟩ := srv_cells hB.1; clear hB; obtain ⟨d0, d1, d2, d3, d4, d5⟩ := RowAt.pkn (HR.out.row.below (HW.out.trans (HB3.out.mono (by omega)))) hml)
    | (go_at_call 83; refine (delete_any A3 c3' l m _ _ HO3.out hml).mono ?_; rintro e w4 ⟨rfl, hO4, hg4⟩; (have HB4 := Lib.hid (HB3.out.grown hg4 (by omega) (fun k e => by have := (HO3.out.lt (b := k) (by rw [ob_eq]; exact e)).1; omega))); (have hB := tkW_blocks HB4.out); (have HO4 := Lib.hid hO4); (have hz4 : w2.heap.size ≤ w4.heap.size := Nat.le_trans hz3 hg4.size); clear q0 q1 r0 r1 f0 f1 hg4 hO4 d0 d1 d2 d3 d4 d5; obtain ⟨⟨q0, q1⟩, r0, r1, f0, f1⟩ := srv_cells hB.1; obtain ⟨s0, s1, s2, s3, s4, s5⟩ := box6 hB.2; obtain ⟨t0, t1, t2, t3, t4, t5⟩ := box6f hB.2; clear hB; obtain ⟨d0, d1, d2, d3, d4, d5⟩ := RowAt.pkn (HR.out.row.below (HW.out.trans (HB4.out.mono (by omega)))) hml))
  set_option maxRecDepth 100000 in go_wp2
  refine bodyPost_ret (v := .tuple #[.agg #[.int .i64 L, .slice A3 (l.take m ++ l.drop (m + 1)).length c3'], pkv (gp l m), .int .i64 0]) (by simp [results, Try.results40, go_sem, r0, r1, s0, s1, s2, s3, s4, s5, pkv]) rfl ⟨TakeAns.good HE.out (HKI.out.symm) (by rw [HM.out]) ?_ (fun a ha => Nat.le_trans (show w.heap.size ≤ w2.heap.size from by omega) (HO4.out.lt (by rw [ha]; rfl)).1), ?_⟩
  · have hx : ∀ k, k < 3 → w.heap.size + k < w2.heap.size := fun k hk => by omega
    exact (((((((HO4.out.setBelow (hx 1 (by omega)) _).setBelow (hx 1 (by omega)) _).setBelow (hx 2 (by omega)) _).setBelow (hx 2 (by omega)) _).setBelow (hx 2 (by omega)) _).setBelow (hx 2 (by omega)) _).setBelow (hx 2 (by omega)) _).setBelow (hx 2 (by omega)) _ |>.pkAt
  · have HX := HW.out.trans (HB4.out.mono (by omega))
    exact (((((((HX.setCell (by simp) _).setCell (by simp) _).setCell (by simp; omega) _).setCell (by simp; omega) _).setCell (by simp; omega) _).setCell (by simp; omega) _).setCell (by simp; omega) _).setCell (by simp; omega) _
theorem take_any (L : Int) (A : Option Addr) (c : Nat) (l : List Pk) (id : Int) (w : World) (hr : PkAt w A c l) (hids : IdsOk l) :
    Calls Try.prog 40 #[.agg #[.int .i64 L, .slice A l.length c], .int .i64 id] w fun e w' => TakeAns w.heap.size w' e L l id ∧ Below w.heap.size w w' := by
  by_cases h : aheadE L l id = 0
  · exact take_good L A c l id w hr hids h
  · exact take_bad L A c l id w hr hids h
end Go.Proofs.Ytckanomabhbkaaa
