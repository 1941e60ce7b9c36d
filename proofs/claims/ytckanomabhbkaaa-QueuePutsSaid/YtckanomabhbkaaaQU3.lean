/- The reference's Put at a full queue, walked. -/
import Derived.Test.YtckanomabhbkaaaQU2
namespace Go.Proofs.Ytckanomabhbkaaa
open Go.RowKit Go.Shelf
set_option linter.unusedVariables false
set_option maxHeartbeats 3200000 in
theorem refPut_full (L : Int) (A : Option Addr) (c : Nat) (l : List Pk) (p : Pk) (w : World) (hr : PkAt w A c l) (h1 : chk L l = 0) (h2 : pform p = 0) (h3 : idx l p.id < 0) (h4 : (l.length : Int) = L) (h5 : (lastPk l).pr ≤ p.pr) :
    Calls Try.prog 23 #[.agg #[.int .i64 L, .slice A l.length c], .agg #[.int .i64 p.id, .int .i64 p.dst, .int .i64 p.pr, .int .i64 p.born, .int .i64 p.life, .string p.data]] w fun e w' => PutAns w.heap.size w' e L l p ∧ Below w.heap.size w w' := by
  have HR := Lib.hid hr
  have hck := chk_ok h1
  have b1 : (chk L l != 0) = false := by simp [h1]
  have b2 : (pform p != 0) = false := by simp [h2]
  have b3 : decide (0 ≤ idx l p.id) = false := by simp; omega
  have hu24 := Try.underlying24
  have hu30 := Try.underlying30
  have HW := Lib.hid (putW_below w L A c l p)
  have HLE := Lib.hid hr.le
  have hcap := hr.cap
  have b4 : ((l.length : Int) == L) = true := by simp [h4]
  have hpos : 0 < l.length := by omega
  have H4 := Lib.hid h4
  have HE := Lib.hid (show putE L l p = 13 by unfold putE; rw [if_neg (by rw [h1]; simp), if_neg (by rw [h2]; simp), if_neg (by omega), if_pos ⟨h4, h5⟩])
  have b5 : decide ((lastPk l).pr ≤ p.pr) = true := by simp [h5]
  clear hr h1 h2 h3 h4 h5
  go_enter Try.func23, Try.ntmps23
  go_wp2_with fail
  refine (refCheck_any L A c l _ (HR.out.row.below HW.out)).mono ?_
  rintro e w1 ⟨rfl, hb1⟩
  have HB1 := Lib.hid (show Below (w.heap.size + 3) (putW w L A c l p) w1 from by have h := hb1; rw [putW_size] at h; exact h)
  obtain ⟨⟨q0, q1⟩, ⟨p0, p1, p2, p3, p4, p5⟩, ⟨r0, r1, f0, f1⟩⟩ := putW_cells HB1.out
  clear hb1
  go_wp2_with fail
  refine (refPacket_any p _).mono ?_
  rintro e w2 ⟨rfl, hb2⟩
  have HB2 := Lib.hid (HB1.out.trans (hb2.mono (by have := HB1.out.size; rw [putW_size] at this; omega)))
  clear q0 q1 p0 p1 p2 p3 p4 p5 r0 r1 f0 f1 hb2
  obtain ⟨⟨q0, q1⟩, ⟨p0, p1, p2, p3, p4, p5⟩, ⟨r0, r1, f0, f1⟩⟩ := putW_cells HB2.out
  go_wp2_with fail
  refine (refIndex_any A c l _ _ (HR.out.row.below (HW.out.trans (HB2.out.mono (by omega))))).mono ?_
  rintro e w3 ⟨rfl, hb3⟩
  have HB3 := Lib.hid (HB2.out.trans (hb3.mono (by have := HB2.out.size; rw [putW_size] at this; omega)))
  clear q0 q1 p0 p1 p2 p3 p4 p5 r0 r1 f0 f1 hb3
  obtain ⟨⟨q0, q1⟩, ⟨p0, p1, p2, p3, p4, p5⟩, ⟨r0, r1, f0, f1⟩⟩ := putW_cells HB3.out
  have hz3 : w.heap.size + 3 ≤ w3.heap.size := by have := HB3.out.size; rw [putW_size] at this; omega
  have hz3 : w.heap.size + 3 ≤ w3.heap.size := by have := HB3.out.size; rw [putW_size] at this; omega
  obtain ⟨ad, e', c0, c1, c2, c3, c4, c5⟩ := (HR.out.row.below (HW.out.trans (HB3.out.mono (by omega)))).pk ((l.length : Int) - 1) (by omega) (by omega)
  subst e'
  rw [show ((l.length : Int) - 1).toNat = l.length - 1 from by omega] at c0 c1 c2 c3 c4 c5
  replace c0 : w3.cell? (ad.add ((l.length - 1) * 6)) = some (.int .i64 (lastPk l).id) := c0
  replace c1 : w3.cell? ⟨(ad.add ((l.length - 1) * 6)).block, (ad.add ((l.length - 1) * 6)).off + 1, none⟩ = some (.int .i64 (lastPk l).dst) := c1
  replace c2 : w3.cell? ⟨(ad.add ((l.length - 1) * 6)).block, (ad.add ((l.length - 1) * 6)).off + 2, none⟩ = some (.int .i64 (lastPk l).pr) := c2
  replace c3 : w3.cell? ⟨(ad.add ((l.length - 1) * 6)).block, (ad.add ((l.length - 1) * 6)).off + 3, none⟩ = some (.int .i64 (lastPk l).born) := c3
  replace c4 : w3.cell? ⟨(ad.add ((l.length - 1) * 6)).block, (ad.add ((l.length - 1) * 6)).off + 4, none⟩ = some (.int .i64 (lastPk l).life) := c4
  replace c5 : w3.cell? ⟨(ad.add ((l.length - 1) * 6)).block, (ad.add ((l.length - 1) * 6)).off + 5, none⟩ = some (.string (lastPk l).data) := c5
  have g1 : (0 : Int) ≤ (l.length : Int) - 1 := by omega
  have g2 : (l.length : Int) - 1 < l.length := by omega
  have g3 : 1 ≤ (l.length : Int) := by omega
  have g4 : 1 ≤ l.length := by omega
  have g5 : IntKind.i64.wrap ((l.length : Int) - 1) = (l.length : Int) - 1 := by rw [IntKind.wrap_i64]; omega
  have g6 : ((l.length : Int) - 1).toNat = l.length - 1 := by omega
  have l0 : w.heap.size < w3.heap.size := by omega
  have l1 : w.heap.size + 1 < w3.heap.size := by omega
  have l2 : w.heap.size + 2 < w3.heap.size := by omega
  have n0 : ¬ w.heap.size = w3.heap.size := by omega
  have n1 : ¬ w.heap.size + 1 = w3.heap.size := by omega
  have n2 : ¬ w.heap.size + 2 = w3.heap.size := by omega
  have n3 : ¬ w.heap.size + 1 + 1 = w3.heap.size := by omega
  have l3 : w.heap.size + 1 + 1 < w3.heap.size := by omega
  set_option maxRecDepth 100000 in go_wp2
  refine bodyPost_ret (v := .tuple #[.agg #[.int .i64 0, .slice none 0 0], .slice none 0 0, .int .i64 13]) (by simp [results, Try.results23, go_sem, r0, r1, l3]) rfl ⟨PutAns.bad HE.out (by decide), ?_⟩
  have HF := (HW.out.trans (HB3.out.mono (by omega)))
  exact ((HF.setCell (by show w.heap.size ≤ w.heap.size + 1 + 1; omega) _).setCell (by show w.heap.size ≤ w.heap.size + 1 + 1; omega) _).alloc (by simp [World.setCell]; omega) _
end Go.Proofs.Ytckanomabhbkaaa
