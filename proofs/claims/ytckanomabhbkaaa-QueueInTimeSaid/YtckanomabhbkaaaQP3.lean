/- The program's Put at a full queue, walked. -/
import Derived.Test.YtckanomabhbkaaaQP
import Derived.Deep.RegionWith
import Derived.Maps.RangeWalk
namespace Go.Proofs.Ytckanomabhbkaaa
open Go.RowKit Go.Shelf
set_option linter.unusedVariables false
set_option maxHeartbeats 1600000 in
theorem put_full (L : Int) (A : Option Addr) (c : Nat) (l : List Pk) (p : Pk) (w : World) (hr : PkAt w A c l) (hids : IdsOk l) (h1 : chk L l = 0) (h2 : pform p = 0) (h3 : idx l p.id < 0) (h4 : (l.length : Int) = L) (h5 : (lastPk l).pr ≤ p.pr) :
    Calls Try.prog 22 #[.agg #[.int .i64 L, .slice A l.length c], .agg #[.int .i64 p.id, .int .i64 p.dst, .int .i64 p.pr, .int .i64 p.born, .int .i64 p.life, .string p.data]] w fun e w' => PutAns w.heap.size w' e L l p ∧ Below w.heap.size w w' := by
  have HR := Lib.hid hr
  have HE := Lib.hid (show putE L l p = 13 by unfold putE; rw [if_neg (by rw [h1]; simp), if_neg (by rw [h2]; simp), if_neg (by omega), if_pos ⟨h4, h5⟩])
  have hck := chk_ok h1
  have b1 : (chk L l != 0) = false := by simp [h1]
  have b2 : (pform p != 0) = false := by simp [h2]
  have b3 : decide (0 ≤ idx l p.id) = false := by simp; omega
  have b4 : ((l.length : Int) == L) = true := by simp [h4]
  have b5 : decide ((lastPk l).pr ≤ p.pr) = true := by simp [h5]
  have hpos : 0 < l.length := by omega
  have hu24 := Try.underlying24
  have hu30 := Try.underlying30
  have HW := Lib.hid (putW_below w L A c l p)
  have HL := Lib.hid (show l.length * 56 ≤ 140737488355328 by omega)
  have HN := Lib.hid hr.nil
  have H4 := Lib.hid h4
  clear hr h1 h2 h3 h4
  go_enter Try.func22, Try.ntmps22
  go_wp2_with fail
  refine (check_any L A c l _ (HR.out.row.below HW.out) hids).mono ?_
  rintro e w1 ⟨rfl, hb1⟩
  have HB1 := Lib.hid (show Below (w.heap.size + 3) (putW w L A c l p) w1 from by have h := hb1; rw [putW_size] at h; exact h)
  obtain ⟨⟨q0, q1⟩, ⟨p0, p1, p2, p3, p4, p5⟩, ⟨r0, r1, f0, f1⟩⟩ := putW_cells HB1.out
  clear hb1
  go_wp2_with fail
  refine (form_any p _).mono ?_
  rintro e w2 ⟨rfl, hb2⟩
  have HB2 := Lib.hid (HB1.out.trans (hb2.mono (by have := HB1.out.size; rw [putW_size] at this; omega)))
  clear q0 q1 p0 p1 p2 p3 p4 p5 r0 r1 f0 f1 hb2
  obtain ⟨⟨q0, q1⟩, ⟨p0, p1, p2, p3, p4, p5⟩, ⟨r0, r1, f0, f1⟩⟩ := putW_cells HB2.out
  go_wp2_with fail
  refine (index_any L A c l _ _ (HR.out.row.below (HW.out.trans (HB2.out.mono (by omega))))).mono ?_
  rintro e w3 ⟨rfl, hb3⟩
  have HB3 := Lib.hid (HB2.out.trans (hb3.mono (by have := HB2.out.size; rw [putW_size] at this; omega)))
  clear q0 q1 p0 p1 p2 p3 p4 p5 r0 r1 f0 f1 hb3
  obtain ⟨⟨q0, q1⟩, ⟨p0, p1, p2, p3, p4, p5⟩, ⟨r0, r1, f0, f1⟩⟩ := putW_cells HB3.out
  have hz3 : w.heap.size + 3 ≤ w3.heap.size := by have := HB3.out.size; rw [putW_size] at this; omega
  go_wp2_with fail
  refine (clone_any A c l _ (HR.out.row.below (HW.out.trans (HB3.out.mono (by omega)))) HL.out HN.out).mono ?_
  rintro e w4 ⟨v, rfl, hO4, hb4⟩
  have HB4 := Lib.hid (HB3.out.trans (hb4.mono hz3))
  have hz4 : w3.heap.size ≤ w4.heap.size := hb4.size
  have hpk := hO4.pk
  obtain ⟨A4, c4, rfl, hP4⟩ := hpk
  have HO4 := Lib.hid hO4
  have HP4 := Lib.hid hP4
  clear q0 q1 p0 p1 p2 p3 p4 p5 r0 r1 f0 f1 hb4 hO4 hP4
  obtain ⟨⟨q0, q1⟩, ⟨p0, p1, p2, p3, p4, p5⟩, ⟨r0, r1, f0, f1⟩⟩ := putW_cells HB4.out
  obtain ⟨ad, e', c0, c1, c2, c3, c4', c5⟩ := HP4.out.row.pk ((l.length : Int) - 1) (by omega) (by omega)
  subst e'
  rw [show ((l.length : Int) - 1).toNat = l.length - 1 from by omega] at c2
  replace c2 : w4.cell? ⟨(ad.add ((l.length - 1) * 6)).block, (ad.add ((l.length - 1) * 6)).off + 2, none⟩ = some (.int .i64 (lastPk l).pr) := c2
  clear c0 c1 c3 c4' c5
  have g1 : (0 : Int) ≤ (l.length : Int) - 1 := by omega
  have g2 : (l.length : Int) - 1 < l.length := by omega
  have g3 : 1 ≤ (l.length : Int) := by omega
  have g4 : 1 ≤ l.length := by omega
  go_wp2_with fail
  go_quiet (fail)
  clear g1 g2 g3 g4
  go_wp2
  refine bodyPost_ret (v := .tuple #[.agg #[.int .i64 0, .slice none 0 0], .slice none 0 0, .int .i64 13]) (by simp [results, Try.results22, go_sem, r0, r1]) rfl ⟨PutAns.bad HE.out (by decide), ?_⟩
  exact ((blw_drewN (HW.out.trans (HB4.out.mono (by omega))) _).setCell (by simp; omega) _).setCell (by simp; omega) _
end Go.Proofs.Ytckanomabhbkaaa
