/- The program's Put where there is room, walked. -/
import Derived.Test.YtckanomabhbkaaaQP
import Derived.Deep.RegionWith
namespace Go.Proofs.Ytckanomabhbkaaa
open Go.RowKit Go.Shelf
set_option linter.unusedVariables false
set_option maxHeartbeats 1600000 in
theorem put_room (L : Int) (A : Option Addr) (c : Nat) (l : List Pk) (p : Pk) (w : World) (hr : PkAt w A c l) (hids : IdsOk l) (h1 : chk L l = 0) (h2 : pform p = 0) (h3 : idx l p.id < 0) (h4 : (l.length : Int) ≠ L) :
    Calls Try.prog 22 #[.agg #[.int .i64 L, .slice A l.length c], .agg #[.int .i64 p.id, .int .i64 p.dst, .int .i64 p.pr, .int .i64 p.born, .int .i64 p.life, .string p.data]] w fun e w' => PutAns w.heap.size w' e L l p ∧ Below w.heap.size w w' := by
  have HR := Lib.hid hr
  have HE := Lib.hid (show putE L l p = 0 by unfold putE; rw [if_neg (by rw [h1]; simp), if_neg (by rw [h2]; simp), if_neg (by omega), if_neg (by omega)])
  have hck := chk_ok h1
  have b1 : (chk L l != 0) = false := by simp [h1]
  have b2 : (pform p != 0) = false := by simp [h2]
  have b3 : decide (0 ≤ idx l p.id) = false := by simp; omega
  have b4 : ((l.length : Int) == L) = false := by simp [h4]
  have hu24 := Try.underlying24
  have hu30 := Try.underlying30
  have HW := Lib.hid (putW_below w L A c l p)
  have HL := Lib.hid (show l.length * 56 ≤ 140737488355328 by omega)
  have HN := Lib.hid hr.nil
  have H4 := Lib.hid h4
  clear hr h1 h2 h3 h4
  go_enter Try.func22, Try.ntmps22
  go_wp2_with fail
  refine (check_any L A c l _ (HR.out.row.below HW.out) hids).mono ?_
  rintro e w1 ⟨rfl, hb1⟩
  have HB1 := Lib.hid (show Below (w.heap.size + 3) (putW w L A c l p) w1 from by have h := hb1; rw [putW_size] at h; exact h)
  obtain ⟨⟨q0, q1⟩, ⟨p0, p1, p2, p3, p4, p5⟩, ⟨r0, r1, f0, f1⟩⟩ := putW_cells HB1.out
  clear hb1
  go_wp2_with fail
  refine (form_any p _).mono ?_
  rintro e w2 ⟨rfl, hb2⟩
  have HB2 := Lib.hid (HB1.out.trans (hb2.mono (by have := HB1.out.size; rw [putW_size] at this; omega)))
  clear q0 q1 p0 p1 p2 p3 p4 p5 r0 r1 f0 f1 hb2
  obtain ⟨⟨q0, q1⟩, ⟨p0, p1, p2, p3, p4, p5⟩, ⟨r0, r1, f0, f1⟩⟩ := putW_cells HB2.out
  go_wp2_with fail
  refine (index_any L A c l _ _ (HR.out.row.below (HW.out.trans (HB2.out.mono (by omega))))).mono ?_
  rintro e w3 ⟨rfl, hb3⟩
  have HB3 := Lib.hid (HB2.out.trans (hb3.mono (by have := HB2.out.size; rw [putW_size] at this; omega)))
  clear q0 q1 p0 p1 p2 p3 p4 p5 r0 r1 f0 f1 hb3
  obtain ⟨⟨q0, q1⟩, ⟨p0, p1, p2, p3, p4, p5⟩, ⟨r0, r1, f0, f1⟩⟩ := putW_cells HB3.out
  have hz3 : w.heap.size + 3 ≤ w3.heap.size := by have := HB3.out.size; rw [putW_size] at this; omega
  go_wp2_with fail
  refine (clone_any A c l _ (HR.out.row.below (HW.out.trans (HB3.out.mono (by omega)))) HL.out HN.out).mono ?_
  rintro e w4 ⟨v, rfl, hO4, hb4⟩
  have HB4 := Lib.hid (HB3.out.trans (hb4.mono hz3))
  have hz4 : w3.heap.size ≤ w4.heap.size := hb4.size
  have hpk := hO4.pk
  obtain ⟨A4, c4, rfl, hP4⟩ := hpk
  have HO4 := Lib.hid hO4
  have HP4 := Lib.hid hP4
  clear q0 q1 p0 p1 p2 p3 p4 p5 r0 r1 f0 f1 hb4 hO4 hP4
  obtain ⟨⟨q0, q1⟩, ⟨p0, p1, p2, p3, p4, p5⟩, ⟨r0, r1, f0, f1⟩⟩ := putW_cells HB4.out
  go_wp2_with fail
  refine (indexFunc_any (abovep p.pr) 77 _ _ _ _ _ HP4.out.row (enters_of Try.func77 (by kernel_rfl) rfl) (above_pred _ p.pr _ (by omega) p2)).mono ?_
  rintro e w5 ⟨rfl, hb5⟩
  have HB5 := Lib.hid (HB4.out.trans (hb5.mono (by omega)))
  have HO5 := Lib.hid (HO4.out.below hb5 (Nat.le_refl _))
  have hz5 : w4.heap.size ≤ w5.heap.size := hb5.size
  clear q0 q1 p0 p1 p2 p3 p4 p5 r0 r1 f0 f1 hb5
  obtain ⟨⟨q0, q1⟩, ⟨p0, p1, p2, p3, p4, p5⟩, ⟨r0, r1, f0, f1⟩⟩ := putW_cells HB5.out
  have HOB := Lib.hid (show ∀ k, ob A4 = some k → w.heap.size + 3 ≤ k ∧ k < w5.heap.size from fun k hk => by have := HO5.out.lt (b := k) (by rw [ob_eq]; exact hk); omega)
  have g0 : w.heap.size < w5.heap.size := by omega
  have g1 : w.heap.size + 1 < w5.heap.size := by omega
  have g2 : w.heap.size + 2 < w5.heap.size := by omega
  have n0 : ¬ w.heap.size = w5.heap.size := by omega
  have n1 : ¬ w.heap.size + 1 = w5.heap.size := by omega
  have n2 : ¬ w.heap.size + 2 = w5.heap.size := by omega
  by_cases hi : fidx (abovep p.pr) l < 0
  · have b5 : decide (fidx (abovep p.pr) l < 0) = true := by simp [hi]
    go_wp2_with fail
    have HX := Lib.hid (show insPos p.pr l = l.length by unfold insPos; rw [if_pos hi])
    clear hi
    set_option maxRecDepth 100000 in
    go_region_with (go_at_call 78; refine (insert_any A4 c4 l l.length p w5.heap.size _ w3.heap.size ((HO5.out.alloc _).drew) (Nat.le_refl _) (blk_new w5 _ rfl) (fun h => by have := (HOB.out _ h).2; omega) (by simp; omega) (by omega)).mono ?_; rintro e w6 ⟨v1, rfl, hO6, hg6⟩; (have HB6 := Lib.hid ((HB5.out.alloc (by omega) _).drew.grown hg6 (by simp; omega) (fun k hk => (HOB.out k hk).1))); (have hpk := hO6.pk); obtain ⟨A6, c6, rfl, hP6⟩ := hpk; (have HO6 := Lib.hid hO6); clear hO6 hP6 hg6 q0 q1 p0 p1 p2 p3 p4 p5 r0 r1 f0 f1; obtain ⟨⟨q0, q1⟩, ⟨p0, p1, p2, p3, p4, p5⟩, ⟨r0, r1, f0, f1⟩⟩ := putW_cells HB6.out)
    all_goals
      go_wp2
      refine bodyPost_ret (v := .tuple #[.agg #[.int .i64 L, .slice A6 (l.take l.length ++ p :: l.drop l.length).length c6], .slice none 0 0, .int .i64 0]) (by simp [results, Try.results22, go_sem, r0, r1]) rfl ⟨?_, ?_⟩
      · refine PutAns.good HE.out (by rw [if_neg H4.out]; unfold ins; rw [HX.out]) (by rw [if_neg H4.out]) ((HO6.out.setBelow (by simp; omega) _).setBelow (by simp; omega) _).pkAt (PkAt.zero _) (HO6.out.fresh (by omega)) (fun a h => by cases h)
      · exact ((HW.out.trans (HB6.out.mono (by omega))).setCell (by simp; omega) _).setCell (by simp; omega) _
  · obtain ⟨n, hn⟩ := Int.eq_ofNat_of_zero_le (show 0 ≤ fidx (abovep p.pr) l by omega)
    have hnl : n ≤ l.length := by have := (fidx_range (abovep p.pr) l).2; omega
    have HX := Lib.hid (show insPos p.pr l = n by unfold insPos; rw [if_neg hi, hn]; rfl)
    have b5 : decide ((n : Int) < 0) = false := by simp
    clear hi
    rw [hn]
    clear hn
    go_wp2_with fail
    set_option maxRecDepth 100000 in
    go_region_with (go_at_call 78; refine (insert_any A4 c4 l n p w5.heap.size _ w3.heap.size ((HO5.out.alloc _).drew) hnl (blk_new w5 _ rfl) (fun h => by have := (HOB.out _ h).2; omega) (by simp; omega) (by omega)).mono ?_; rintro e w6 ⟨v1, rfl, hO6, hg6⟩; (have HB6 := Lib.hid ((HB5.out.alloc (by omega) _).drew.grown hg6 (by simp; omega) (fun k hk => (HOB.out k hk).1))); (have hpk := hO6.pk); obtain ⟨A6, c6, rfl, hP6⟩ := hpk; (have HO6 := Lib.hid hO6); clear hO6 hP6 hg6 q0 q1 p0 p1 p2 p3 p4 p5 r0 r1 f0 f1; obtain ⟨⟨q0, q1⟩, ⟨p0, p1, p2, p3, p4, p5⟩, ⟨r0, r1, f0, f1⟩⟩ := putW_cells HB6.out)
    all_goals
      go_wp2
      have hmin : min n l.length = n := by omega
      refine bodyPost_ret (v := .tuple #[.agg #[.int .i64 L, .slice A6 (l.take n ++ p :: l.drop n).length c6], .slice none 0 0, .int .i64 0]) (by simp [results, Try.results22, go_sem, r0, r1, hmin]) rfl ⟨?_, ?_⟩
      · refine PutAns.good HE.out (by rw [if_neg H4.out]; unfold ins; rw [HX.out]) (by rw [if_neg H4.out]) ((HO6.out.setBelow (by simp; omega) _).setBelow (by simp; omega) _).pkAt (PkAt.zero _) (HO6.out.fresh (by omega)) (fun a h => by cases h)
      · exact ((HW.out.trans (HB6.out.mono (by omega))).setCell (by simp; omega) _).setCell (by simp; omega) _
end Go.Proofs.Ytckanomabhbkaaa
