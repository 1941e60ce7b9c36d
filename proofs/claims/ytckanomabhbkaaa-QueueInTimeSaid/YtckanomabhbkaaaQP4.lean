/- The program's Put at a full queue, the last one being less urgent, walked. -/
import Derived.Test.YtckanomabhbkaaaQP
import Derived.Deep.RegionWith
import Derived.Maps.RangeWalk
namespace Go.Proofs.Ytckanomabhbkaaa
open Go.RowKit Go.Shelf
set_option linter.unusedVariables false
set_option maxHeartbeats 1600000 in
theorem put_drop (L : Int) (A : Option Addr) (c : Nat) (l : List Pk) (p : Pk) (w : World) (hr : PkAt w A c l) (hids : IdsOk l) (h1 : chk L l = 0) (h2 : pform p = 0) (h3 : idx l p.id < 0) (h4 : (l.length : Int) = L) (h5 : p.pr < (lastPk l).pr) :
    Calls Try.prog 22 #[.agg #[.int .i64 L, .slice A l.length c], .agg #[.int .i64 p.id, .int .i64 p.dst, .int .i64 p.pr, .int .i64 p.born, .int .i64 p.life, .string p.data]] w fun e w' => PutAns w.heap.size w' e L l p ∧ Below w.heap.size w w' := by
  have HR := Lib.hid hr
  have HE := Lib.hid (show putE L l p = 0 by unfold putE; rw [if_neg (by rw [h1]; simp), if_neg (by rw [h2]; simp), if_neg (by omega), if_neg (by omega)])
  have hck := chk_ok h1
  have b1 : (chk L l != 0) = false := by simp [h1]
  have b2 : (pform p != 0) = false := by simp [h2]
  have b3 : decide (0 ≤ idx l p.id) = false := by simp; omega
  have b4 : ((l.length : Int) == L) = true := by simp [h4]
  have b5 : decide ((lastPk l).pr ≤ p.pr) = false := by simp; omega
  have hpos : 0 < l.length := by omega
  have hu24 := Try.underlying24
  have hu30 := Try.underlying30
  have HW := Lib.hid (putW_below w L A c l p)
  have HL := Lib.hid (show l.length * 56 ≤ 140737488355328 by omega)
  have HN := Lib.hid hr.nil
  have H4 := Lib.hid h4
  clear hr h1 h2 h3 h4
  go_enter Try.func22, Try.ntmps22
  go_wp2_with fail
  refine (check_any L A c l _ (HR.out.row.below HW.out) hids).mono ?_
  rintro e w1 ⟨rfl, hb1⟩
  have HB1 := Lib.hid (show Below (w.heap.size + 3) (putW w L A c l p) w1 from by have h := hb1; rw [putW_size] at h; exact h)
  obtain ⟨⟨q0, q1⟩, ⟨p0, p1, p2, p3, p4, p5⟩, ⟨r0, r1, f0, f1⟩⟩ := putW_cells HB1.out
  clear hb1
  go_wp2_with fail
  refine (form_any p _).mono ?_
  rintro e w2 ⟨rfl, hb2⟩
  have HB2 := Lib.hid (HB1.out.trans (hb2.mono (by have := HB1.out.size; rw [putW_size] at this; omega)))
  clear q0 q1 p0 p1 p2 p3 p4 p5 r0 r1 f0 f1 hb2
  obtain ⟨⟨q0, q1⟩, ⟨p0, p1, p2, p3, p4, p5⟩, ⟨r0, r1, f0, f1⟩⟩ := putW_cells HB2.out
  go_wp2_with fail
  refine (index_any L A c l _ _ (HR.out.row.below (HW.out.trans (HB2.out.mono (by omega))))).mono ?_
  rintro e w3 ⟨rfl, hb3⟩
  have HB3 := Lib.hid (HB2.out.trans (hb3.mono (by have := HB2.out.size; rw [putW_size] at this; omega)))
  clear q0 q1 p0 p1 p2 p3 p4 p5 r0 r1 f0 f1 hb3
  obtain ⟨⟨q0, q1⟩, ⟨p0, p1, p2, p3, p4, p5⟩, ⟨r0, r1, f0, f1⟩⟩ := putW_cells HB3.out
  have hz3 : w.heap.size + 3 ≤ w3.heap.size := by have := HB3.out.size; rw [putW_size] at this; omega
  go_wp2_with fail
  refine (clone_any A c l _ (HR.out.row.below (HW.out.trans (HB3.out.mono (by omega)))) HL.out HN.out).mono ?_
  rintro e w4 ⟨v, rfl, hO4, hb4⟩
  have HB4 := Lib.hid (HB3.out.trans (hb4.mono hz3))
  have hz4 : w3.heap.size ≤ w4.heap.size := hb4.size
  have hpk := hO4.pk
  obtain ⟨A4, c4, rfl, hP4⟩ := hpk
  have HO4 := Lib.hid hO4
  have HP4 := Lib.hid hP4
  clear q0 q1 p0 p1 p2 p3 p4 p5 r0 r1 f0 f1 hb4 hO4 hP4
  obtain ⟨⟨q0, q1⟩, ⟨p0, p1, p2, p3, p4, p5⟩, ⟨r0, r1, f0, f1⟩⟩ := putW_cells HB4.out
  obtain ⟨ad, e', c0, c1, c2, c3, c4', c5⟩ := HP4.out.row.pk ((l.length : Int) - 1) (by omega) (by omega)
  subst e'
  rw [show ((l.length : Int) - 1).toNat = l.length - 1 from by omega] at c2
  replace c2 : w4.cell? ⟨(ad.add ((l.length - 1) * 6)).block, (ad.add ((l.length - 1) * 6)).off + 2, none⟩ = some (.int .i64 (lastPk l).pr) := c2
  have g1 : (0 : Int) ≤ (l.length : Int) - 1 := by omega
  have g2 : (l.length : Int) - 1 < l.length := by omega
  have g3 : 1 ≤ (l.length : Int) := by omega
  have g4 : 1 ≤ l.length := by omega
  rw [show ((l.length : Int) - 1).toNat = l.length - 1 from by omega] at c0 c1 c3 c4' c5
  replace c0 : w4.cell? (ad.add ((l.length - 1) * 6)) = some (.int .i64 (lastPk l).id) := c0
  replace c1 : w4.cell? ⟨(ad.add ((l.length - 1) * 6)).block, (ad.add ((l.length - 1) * 6)).off + 1, none⟩ = some (.int .i64 (lastPk l).dst) := c1
  replace c3 : w4.cell? ⟨(ad.add ((l.length - 1) * 6)).block, (ad.add ((l.length - 1) * 6)).off + 3, none⟩ = some (.int .i64 (lastPk l).born) := c3
  replace c4' : w4.cell? ⟨(ad.add ((l.length - 1) * 6)).block, (ad.add ((l.length - 1) * 6)).off + 4, none⟩ = some (.int .i64 (lastPk l).life) := c4'
  replace c5 : w4.cell? ⟨(ad.add ((l.length - 1) * 6)).block, (ad.add ((l.length - 1) * 6)).off + 5, none⟩ = some (.string (lastPk l).data) := c5
  go_wp2_with fail
  go_quiet (fail)
  go_wp2_with fail
  have hle4 : l.length ≤ c4 := HP4.out.le
  have g5 : (l.length : Int) - 1 ≤ c4 := by omega
  have HP := Lib.hid (show (l.take (l.length - 1)) = l.dropLast from by rw [List.dropLast_eq_take])
  have hdl : l.dropLast.length = l.length - 1 := List.length_dropLast
  go_region_law (refine Own.append_step Pk.cells_len Pk.cells_one rfl _ _ 22 30 _ 56 rfl Try.underlying22 info30 rfl (by decide) (by decide) (.slice none 0 0) [] (by simp [Act.eval]) (Own.nil _ (w4.heap.size + 1) 30) ⟨w4.heap.size, 0, none⟩ [lastPk l] 1 (by simp [Act.eval]) (RowAt.at_block (blk_new w4 _ rfl)) (by simp) (by simp) ?_; intro v5 w5 hO5 hg5 _)
  have hpk := hO5.pk
  obtain ⟨A5, c5', rfl, hP5⟩ := hpk
  have hB4 : Below (w.heap.size + 3) (putW w L (show Option Addr from A) c l p) ((w4.alloc (.cells #[.int .i64 (lastPk l).id, .int .i64 (lastPk l).dst, .int .i64 (lastPk l).pr, .int .i64 (lastPk l).born, .int .i64 (lastPk l).life, .string (lastPk l).data] 30)).drewN (nq + 1)) := blw_drewN (HB4.out.alloc (by omega) _) _
  have HB5 := Lib.hid (hB4.grown hg5 (by simp; omega) (fun k hk => by cases hk))
  have HOG := Lib.hid hO5
  have HO5 := Lib.hid ((((HO4.out.alloc (.cells #[.int .i64 (lastPk l).id, .int .i64 (lastPk l).dst, .int .i64 (lastPk l).pr, .int .i64 (lastPk l).born, .int .i64 (lastPk l).life, .string (lastPk l).data] 30)).drewN (nq + 1)).kept hg5 (.inr (by intro h; cases h))).cut g4 (l.length - 1) (by omega))
  rw [HP.out] at HO5
  have hz5 : w4.heap.size + 1 ≤ w5.heap.size := by have := hg5.size; simpa using this
  clear c0 c1 c2 c3 c4' c5 g1 g2 g3 g5 q0 q1 p0 p1 p2 p3 p4 p5 r0 r1 f0 f1 hO5 hP5 hg5 hB4
  obtain ⟨⟨q0, q1⟩, ⟨p0, p1, p2, p3, p4, p5⟩, ⟨r0, r1, f0, f1⟩⟩ := putW_cells HB5.out
  have hIF := indexFunc_any (abovep p.pr) 77 #[.pointer (some ⟨w.heap.size + 1, 0, none⟩)] (some ad) c4 l.dropLast w5 HO5.out.pkAt.row (enters_of Try.func77 (by kernel_rfl) rfl) (above_pred _ p.pr _ (by omega) p2)
  rw [hdl] at hIF
  have HIF := Lib.hid hIF
  clear hIF
  go_wp2_with fail
  refine HIF.out.mono ?_
  rintro e w6 ⟨rfl, hb6⟩
  have HB6 := Lib.hid (HB5.out.trans (hb6.mono (by omega)))
  have HO6 := Lib.hid (HO5.out.below hb6 (Nat.le_refl _))
  have HG6 := Lib.hid (HOG.out.below hb6 (Nat.le_refl _))
  have hz6 : w5.heap.size ≤ w6.heap.size := hb6.size
  clear q0 q1 p0 p1 p2 p3 p4 p5 r0 r1 f0 f1 hb6 HIF HOG HO5
  obtain ⟨⟨q0, q1⟩, ⟨p0, p1, p2, p3, p4, p5⟩, ⟨r0, r1, f0, f1⟩⟩ := putW_cells HB6.out
  have HOB := Lib.hid (show w.heap.size + 3 ≤ ad.block ∧ ad.block < w4.heap.size from by have := HO4.out.lt (b := ad.block) rfl; omega)
  have g0 : w.heap.size < w6.heap.size := by omega
  have g1 : w.heap.size + 1 < w6.heap.size := by omega
  have g2 : w.heap.size + 2 < w6.heap.size := by omega
  have n0 : ¬ w.heap.size = w6.heap.size := by omega
  have n1 : ¬ w.heap.size + 1 = w6.heap.size := by omega
  have n2 : ¬ w.heap.size + 2 = w6.heap.size := by omega
  have HIN : ∀ n : Nat, n ≤ l.length - 1 → Hid (Calls Try.prog 78 #[.slice (some ad) (l.length - 1) c4, .int .i64 n, .slice (some ⟨w6.heap.size, 0, none⟩) 1 1] ((w6.alloc (.cells #[.int .i64 p.id, .int .i64 p.dst, .int .i64 p.pr, .int .i64 p.born, .int .i64 p.life, .string p.data] 30)).drew) fun e w' => ∃ v1, e = .returned v1 ∧ Own Pk.cells 6 w' w3.heap.size 30 v1 (l.dropLast.take n ++ p :: l.dropLast.drop n) ∧ ((w6.alloc (.cells #[.int .i64 p.id, .int .i64 p.dst, .int .i64 p.pr, .int .i64 p.born, .int .i64 p.life, .string p.data] 30)).drew).grownBy w' (some ad.block)) := fun n hn => by
    have h := insert_any (some ad) c4 l.dropLast n p w6.heap.size ((w6.alloc (.cells #[.int .i64 p.id, .int .i64 p.dst, .int .i64 p.pr, .int .i64 p.born, .int .i64 p.life, .string p.data] 30)).drew) w3.heap.size ((HO6.out.alloc _).drew) (by omega) (blk_new w6 _ rfl) (fun h => by have h2 : ad.block = w6.heap.size := Option.some.inj h; have := HOB.out.2; omega) (by simp; omega) (by omega)
    rw [hdl] at h
    exact h
  by_cases hi : fidx (abovep p.pr) l.dropLast < 0
  · have b6 : decide (fidx (abovep p.pr) l.dropLast < 0) = true := by simp [hi]
    go_wp2_with fail
    have HX := Lib.hid (show insPos p.pr l.dropLast = l.length - 1 by unfold insPos; rw [if_pos hi, hdl])
    clear hi
    have HI := HIN (l.length - 1) (Nat.le_refl _)
    set_option maxRecDepth 100000 in
    go_region_with (go_at_call 78; refine HI.out.mono ?_; rintro e w7 ⟨v1, rfl, hO7, hg7⟩; (have HB7 := Lib.hid ((HB6.out.alloc (by omega) _).drew.grown hg7 (by simp; omega) (fun k hk => by cases hk; exact HOB.out.1))); (have HG7 := Lib.hid (((HG6.out.alloc _).drew.kept hg7 (.inr (fun h => by have := (HG6.out.lt h).1; have := HOB.out.2; omega))).lower (base' := w3.heap.size) (by omega))); (have hpk := hO7.pk); obtain ⟨A7, c7, rfl, hP7⟩ := hpk; (have HO7 := Lib.hid hO7); clear hO7 hP7 hg7 q0 q1 p0 p1 p2 p3 p4 p5 r0 r1 f0 f1; obtain ⟨⟨q0, q1⟩, ⟨p0, p1, p2, p3, p4, p5⟩, ⟨r0, r1, f0, f1⟩⟩ := putW_cells HB7.out)
    all_goals
      go_wp2
      have hs : l.length - 1 + 1 = l.length := by omega
      refine bodyPost_ret (v := .tuple #[.agg #[.int .i64 L, .slice A7 (l.dropLast.take (l.length - 1) ++ p :: l.dropLast.drop (l.length - 1)).length c7], .slice A5 1 c5', .int .i64 0]) (by simp [results, Try.results22, go_sem, r0, r1, hs]) rfl ⟨?_, ?_⟩
      · refine PutAns.good (A2 := A5) (c2 := c5') (G := [lastPk l]) HE.out (by rw [if_pos H4.out]; unfold ins; rw [HX.out]) (by rw [if_pos H4.out]) ((HO7.out.setBelow (by simp; omega) _).setBelow (by simp; omega) _).pkAt ((HG7.out.setBelow (by simp; omega) _).setBelow (by simp; omega) _).pkAt (HO7.out.fresh (by omega)) (HG7.out.fresh (by omega))
      · exact ((HW.out.trans (HB7.out.mono (by omega))).setCell (by simp; omega) _).setCell (by simp; omega) _
  · obtain ⟨n, hn⟩ := Int.eq_ofNat_of_zero_le (show 0 ≤ fidx (abovep p.pr) l.dropLast by omega)
    have hnl : n ≤ l.length - 1 := by have := (fidx_range (abovep p.pr) l.dropLast).2; rw [hdl] at this; omega
    have HX := Lib.hid (show insPos p.pr l.dropLast = n by unfold insPos; rw [if_neg hi, hn]; rfl)
    have b6 : decide ((n : Int) < 0) = false := by simp
    clear hi
    rw [hn]
    clear hn
    go_wp2_with fail
    have HI := HIN n hnl
    set_option maxRecDepth 100000 in
    go_region_with (go_at_call 78; refine HI.out.mono ?_; rintro e w7 ⟨v1, rfl, hO7, hg7⟩; (have HB7 := Lib.hid ((HB6.out.alloc (by omega) _).drew.grown hg7 (by simp; omega) (fun k hk => by cases hk; exact HOB.out.1))); (have HG7 := Lib.hid (((HG6.out.alloc _).drew.kept hg7 (.inr (fun h => by have := (HG6.out.lt h).1; have := HOB.out.2; omega))).lower (base' := w3.heap.size) (by omega))); (have hpk := hO7.pk); obtain ⟨A7, c7, rfl, hP7⟩ := hpk; (have HO7 := Lib.hid hO7); clear hO7 hP7 hg7 q0 q1 p0 p1 p2 p3 p4 p5 r0 r1 f0 f1; obtain ⟨⟨q0, q1⟩, ⟨p0, p1, p2, p3, p4, p5⟩, ⟨r0, r1, f0, f1⟩⟩ := putW_cells HB7.out)
    all_goals
      go_wp2
      have hs : min n (l.length - 1) = n := by omega
      refine bodyPost_ret (v := .tuple #[.agg #[.int .i64 L, .slice A7 (l.dropLast.take n ++ p :: l.dropLast.drop n).length c7], .slice A5 1 c5', .int .i64 0]) (by simp [results, Try.results22, go_sem, r0, r1, hs]) rfl ⟨?_, ?_⟩
      · refine PutAns.good (A2 := A5) (c2 := c5') (G := [lastPk l]) HE.out (by rw [if_pos H4.out]; unfold ins; rw [HX.out]) (by rw [if_pos H4.out]) ((HO7.out.setBelow (by simp; omega) _).setBelow (by simp; omega) _).pkAt ((HG7.out.setBelow (by simp; omega) _).setBelow (by simp; omega) _).pkAt (HO7.out.fresh (by omega)) (HG7.out.fresh (by omega))
      · exact ((HW.out.trans (HB7.out.mono (by omega))).setCell (by simp; omega) _).setCell (by simp; omega) _
end Go.Proofs.Ytckanomabhbkaaa
